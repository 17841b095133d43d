import Derived.Test.YtfoblkeefpaceaaX76
import Derived.Test.YtfoblkeefpaceaaX75

section PartL2
/- The law package: short symbols. -/
set_option linter.unusedSimpArgs false
set_option linter.unusedVariables false
set_option maxRecDepth 100000
namespace Go.Proofs.Ytfoblkeefpaceaa
open Go Go.Ab

def shMo (m : Mo) : Bool := smallM m.rely && smallM m.guar && decide (m.frame.length ≤ 12)
def shPr (p : Pr) : Bool := smallM p.body && decide (p.params.length ≤ 12) && decide (p.locals.length ≤ 12)
def shortM (S : Sy) : Bool := decide (S.mods.length ≤ 12 ∧ S.vars.length ≤ 40 ∧ S.locks.length ≤ 12 ∧ S.procs.length ≤ 12 ∧ S.threads.length ≤ 12) && S.mods.all shMo && S.locks.all (fun l => smallM l.inv) && S.procs.all shPr
theorem small_fit {e : Nd} (h : smallM e = true) : FitB [] e := fit_nil (by unfold smallM at h; simp at h; omega)
theorem short_fit {S : Sy} (h : shortM S = true) : S.Fit := by
  unfold shortM at h
  simp only [Bool.and_eq_true, List.all_eq_true] at h
  obtain ⟨⟨⟨-, h1⟩, h2⟩, h3⟩ := h
  refine ⟨fun m hm => ?_, fun l hl => small_fit (h2 l hl), fun p hp => ?_⟩
  · have := h1 m hm
    unfold shMo at this
    simp only [Bool.and_eq_true] at this
    exact ⟨small_fit this.1.1, small_fit this.1.2⟩
  · have := h3 p hp
    unfold shPr at this
    simp only [Bool.and_eq_true] at this
    exact small_fit this.1.1
set_option maxHeartbeats 8000000 in
theorem short_ac (S : Sy) (hS : S.Ok) (σ : St) (G : Glob) (R : A → St → Prop) (h : R (db (shortM S)) σ) : AC Try.prog G 10 [.d (syD S)] σ R := by
  have hre : reachBytes < 9223372036854775806 := by decide
  have hl := hS.mods
  have hlv := hS.vars
  have hll := hS.locks
  have hlp := hS.procs
  have hsy : syD S = .agg [.sl 22 (S.mods.map moD), .sl 7 (S.vars.map vrD), .sl 12 (S.locks.map lkD), .sl 16 (S.procs.map prD), .sl 5 (S.threads.map thD)] := rfl
  rw [hsy]
  refine ac_enter mixed Try.func10 rfl Try.ntmps10 (by simp only [go_sem]) fun hbd => ?_
  simp only [List.length_cons, List.length_nil, Nat.reduceAdd, Nat.reduceSub, List.replicate_succ, List.replicate_zero, List.cons_append, List.nil_append]
  obtain ⟨b, hb⟩ : ∃ b, b = decide (S.mods.length ≤ 12 ∧ S.vars.length ≤ 40 ∧ S.locks.length ≤ 12 ∧ S.procs.length ≤ 12 ∧ S.threads.length ≤ 12) := ⟨_, rfl⟩
  have hc : (decide (12 < (S.mods.length : Int)) || decide (40 < (S.vars.length : Int)) || decide (12 < (S.locks.length : Int)) || decide (12 < (S.procs.length : Int)) || decide (12 < (S.threads.length : Int))) = !b := by
    rw [hb, Bool.eq_iff_iff]; simp; omega
  simp only [go_sem, List.length_map, hc, Try.results10]
  cases b with
  | false =>
    have : shortM S = false := by unfold shortM; rw [← hb]; rfl
    rw [this] at h
    simp only [Bool.not_false]
    exact ⟨fun _ => ret_bd hbd rfl h, fun c => Bool.noConfusion c⟩
  | true =>
  simp only [Bool.not_true]
  refine ⟨fun c => Bool.noConfusion c, fun _ => ?_⟩
  have hu : shortM S = (S.mods.all shMo && S.locks.all (fun l => smallM l.inv) && S.procs.all shPr) := by unfold shortM; rw [← hb]; rfl
  clear hc hb
  refine aw_loop (fun m fr st => ∃ j : Nat, j ≤ S.mods.length ∧ m = S.mods.length - j ∧ (S.mods.take j).all shMo = true ∧ fr = [.any, .ref σ.length 0, .any, dn j, .any, .any, .any, .any, .any, .any, .any, .any, .any, .any, .any, .any, .any, .any, .any, .any, .any, .any, .any, .any, .any, .any, .any, .any, .any, .any, .any, .any, .any, .any, .any, .any, .any, .any, .any, .any, .any, .any, .any, .any, .any, .any, .any, .any, .any, .any, .any, .any, .any, .any, .any, .any, .any, .any, .any, .any, .any, .any, .any, .any, .any, .any, .any, .any, .any, .any, .any, .any, .any, .any, .any, .any, .any, .any, .any, .any, .any, .any, .any, .any, .any, .any, .any, .any, .any, .any, .any, .any, .any, .any, .any, .any, .any, .any, .any, .any, .any, .any, .any, .any, .any, .any, .any] ∧ st = σ ++ [some (.cells [.d (.sl 22 (S.mods.map moD)), .d (.sl 7 (S.vars.map vrD)), .d (.sl 12 (S.locks.map lkD)), .d (.sl 16 (S.procs.map prD)), .d (.sl 5 (S.threads.map thD))])]) S.mods.length _
    (Wk.mask [1, 3] ⟨0, by omega, by omega, rfl, rfl, rfl⟩) ?_
  rintro m fr st ⟨j, hj, hm, ha, rfl, rfl⟩
  rcases Nat.lt_or_ge j S.mods.length with hlt | hge
  · have hd : decide ((j : Int) < (S.mods.length : Int)) = true := by simp; omega
    have e1 := mo_get hlt
    have w1 := wrapS j (by omega)
    have hmo := hS.mo _ (getD_mem mo0 hlt)
    generalize hv : S.mods.getD j mo0 = v at e1 hmo
    have hvd : moD v = .agg [.str v.name, .str v.owner, iD v.rely.kind, .str v.rely.name, .str v.rely.other, iD v.rely.n, iD v.rely.len, iD v.rely.init, .bool v.rely.ghost, .sl 9 (v.rely.kids.map Nd.d), iD v.rely.pos, iD v.guar.kind, .str v.guar.name, .str v.guar.other, iD v.guar.n, iD v.guar.len, iD v.guar.init, .bool v.guar.ghost, .sl 9 (v.guar.kids.map Nd.d), iD v.guar.pos, .sl 9 (v.frame.map Nd.d), iD v.pos] := rfl
    rw [hvd] at e1
    have hc : (!smallM v.rely || !smallM v.guar || decide (12 < (v.frame.length : Int))) = !shMo v := by
      unfold shMo
      rw [Bool.eq_iff_iff]
      simp only [Bool.or_eq_true, Bool.not_eq_true', Bool.and_eq_false_iff, decide_eq_true_eq, decide_eq_false_iff_not]
      constructor
      · rintro ((c | c) | c)
        · exact .inl (.inl c)
        · exact .inl (.inr c)
        · exact .inr (by omega)
      · rintro ((c | c) | c)
        · exact .inl (.inl c)
        · exact .inl (.inr c)
        · exact .inr (by omega)
    simp only [go_sem, List.length_map, hd, e1, w1, Try.results10]
    rw [← Nd.d_eq v.rely]
    refine ⟨⟨by omega, by omega⟩, ac' (small_ac hmo.rely _ _ _ ?_)⟩
    simp only [go_sem, List.length_map, Try.results10]
    refine ex' (.bool (smallM v.guar)) ⟨fun q => ?_, ?_⟩
    · simp only [go_sem, Try.results10]
      rw [← Nd.d_eq v.guar]
      exact ⟨by simpa using q, ac' (small_ac hmo.guar _ _ _ ⟨rfl, rfl⟩)⟩
    simp only [go_sem, List.length_map, hc, w1, Try.results10]
    refine ⟨fun q => by simpa using q, fun c => ?_, fun c => ?_⟩
    · have c' : shMo v = false := by simpa using c
      have : shortM S = false := by rw [hu, all_bad (p := shMo) mo0 hlt (by rw [hv]; exact c')]; rfl
      rw [this] at h
      exact ret_bd hbd rfl h
    · have c' : shMo v = true := by simpa using c
      exact Wk.keep [1, 3] [0] (by decide) (Nat.le_refl _) hbd ⟨S.mods.length - (j + 1), by omega, j + 1, hlt, rfl, by rw [all_take mo0 hlt, ha, hv, c']; rfl, by simp only [go_sem], by simp only [go_sem]⟩
  have hd : decide ((j : Int) < (S.mods.length : Int)) = false := by simp; omega
  rw [List.take_of_length_le hge] at ha
  rw [ha, Bool.true_and] at hu
  simp only [go_sem, List.length_map, hd, Try.results10]
  clear hd ha hge hm hj
  refine aw_loop (fun m fr st => ∃ j : Nat, j ≤ S.locks.length ∧ m = S.locks.length - j ∧ (S.locks.take j).all (fun l => smallM l.inv) = true ∧ fr = [.any, .ref σ.length 0, .any, .any, .any, dn j, .any, .any, .any, .any, .any, .any, .any, .any, .any, .any, .any, .any, .any, .any, .any, .any, .any, .any, .any, .any, .any, .any, .any, .any, .any, .any, .any, .any, .any, .any, .any, .any, .any, .any, .any, .any, .any, .any, .any, .any, .any, .any, .any, .any, .any, .any, .any, .any, .any, .any, .any, .any, .any, .any, .any, .any, .any, .any, .any, .any, .any, .any, .any, .any, .any, .any, .any, .any, .any, .any, .any, .any, .any, .any, .any, .any, .any, .any, .any, .any, .any, .any, .any, .any, .any, .any, .any, .any, .any, .any, .any, .any, .any, .any, .any, .any, .any, .any, .any, .any, .any] ∧ st = σ ++ [some (.cells [.d (.sl 22 (S.mods.map moD)), .d (.sl 7 (S.vars.map vrD)), .d (.sl 12 (S.locks.map lkD)), .d (.sl 16 (S.procs.map prD)), .d (.sl 5 (S.threads.map thD))])]) S.locks.length _
    (Wk.mask [1, 5] ⟨0, by omega, by omega, rfl, rfl, rfl⟩) ?_
  rintro m fr st ⟨j, hj, hm, ha, rfl, rfl⟩
  rcases Nat.lt_or_ge j S.locks.length with hlt | hge
  · have hd : decide ((j : Int) < (S.locks.length : Int)) = true := by simp; omega
    have e1 := lk_d hlt
    have w1 := wrapS j (by omega)
    have hmo := hS.lo _ (getD_mem lk0 hlt)
    generalize hv : S.locks.getD j lk0 = v at e1 hmo
    simp only [lkD, Nd.cs, List.cons_append, List.nil_append] at e1
    simp only [go_sem, List.length_map, hd, e1, w1, Try.results10]
    rw [← Nd.d_eq v.inv]
    refine ⟨⟨by omega, by omega⟩, ac' (small_ac hmo _ _ _ ?_)⟩
    simp only [go_sem, List.length_map, w1, Try.results10]
    refine ⟨fun c => ?_, fun c => ?_⟩
    · have c' : smallM v.inv = false := by simpa using c
      have : shortM S = false := by rw [hu, all_bad (p := fun l : Lk => smallM l.inv) lk0 hlt (by rw [hv]; exact c')]; rfl
      rw [this] at h
      exact ret_bd hbd rfl h
    · have c' : smallM v.inv = true := by simpa using c
      exact Wk.keep [1, 5] [0] (by decide) (Nat.le_refl _) hbd ⟨S.locks.length - (j + 1), by omega, j + 1, hlt, rfl, by rw [all_take lk0 hlt, ha, hv, c']; rfl, by simp only [go_sem], by simp only [go_sem]⟩
  have hd : decide ((j : Int) < (S.locks.length : Int)) = false := by simp; omega
  rw [List.take_of_length_le hge] at ha
  rw [ha, Bool.true_and] at hu
  simp only [go_sem, List.length_map, hd, Try.results10]
  clear hd ha hge hm hj
  refine aw_loop (fun m fr st => ∃ j : Nat, j ≤ S.procs.length ∧ m = S.procs.length - j ∧ (S.procs.take j).all shPr = true ∧ fr = [.any, .ref σ.length 0, .any, .any, .any, .any, dn j, .any, .any, .any, .any, .any, .any, .any, .any, .any, .any, .any, .any, .any, .any, .any, .any, .any, .any, .any, .any, .any, .any, .any, .any, .any, .any, .any, .any, .any, .any, .any, .any, .any, .any, .any, .any, .any, .any, .any, .any, .any, .any, .any, .any, .any, .any, .any, .any, .any, .any, .any, .any, .any, .any, .any, .any, .any, .any, .any, .any, .any, .any, .any, .any, .any, .any, .any, .any, .any, .any, .any, .any, .any, .any, .any, .any, .any, .any, .any, .any, .any, .any, .any, .any, .any, .any, .any, .any, .any, .any, .any, .any, .any, .any, .any, .any, .any, .any, .any, .any] ∧ st = σ ++ [some (.cells [.d (.sl 22 (S.mods.map moD)), .d (.sl 7 (S.vars.map vrD)), .d (.sl 12 (S.locks.map lkD)), .d (.sl 16 (S.procs.map prD)), .d (.sl 5 (S.threads.map thD))])]) S.procs.length _
    (Wk.mask [1, 6] ⟨0, by omega, by omega, rfl, rfl, rfl⟩) ?_
  rintro m fr st ⟨j, hj, hm, ha, rfl, rfl⟩
  rcases Nat.lt_or_ge j S.procs.length with hlt | hge
  · have hd : decide ((j : Int) < (S.procs.length : Int)) = true := by simp; omega
    have e1 := pr_d hlt
    have w1 := wrapS j (by omega)
    have hmo := hS.pr _ (getD_mem pr0 hlt)
    generalize hv : S.procs.getD j pr0 = v at e1 hmo
    have hvd : prD v = .agg [.str v.name, iD v.mod, .sl 7 (v.params.map vrD), .sl 7 (v.locals.map vrD), .str v.locked, iD v.body.kind, .str v.body.name, .str v.body.other, iD v.body.n, iD v.body.len, iD v.body.init, .bool v.body.ghost, .sl 9 (v.body.kids.map Nd.d), iD v.body.pos, .sl 1 (v.calls.map iD), iD v.pos] := rfl
    rw [hvd] at e1
    have hc : (!smallM v.body || decide (12 < (v.params.length : Int)) || decide (12 < (v.locals.length : Int))) = !shPr v := by
      unfold shPr
      rw [Bool.eq_iff_iff]
      simp only [Bool.or_eq_true, Bool.not_eq_true', Bool.and_eq_false_iff, decide_eq_true_eq, decide_eq_false_iff_not]
      constructor
      · rintro ((c | c) | c)
        · exact .inl (.inl c)
        · exact .inl (.inr (by omega))
        · exact .inr (by omega)
      · rintro ((c | c) | c)
        · exact .inl (.inl c)
        · exact .inl (.inr (by omega))
        · exact .inr (by omega)
    simp only [go_sem, List.length_map, hd, e1, w1, Try.results10]
    rw [← Nd.d_eq v.body]
    refine ⟨⟨by omega, by omega⟩, ac' (small_ac hmo.body _ _ _ ?_)⟩
    simp only [go_sem, List.length_map, hc, w1, Try.results10]
    refine ⟨fun q => by simpa using q, fun c => ?_, fun c => ?_⟩
    · have c' : shPr v = false := by simpa using c
      have : shortM S = false := by rw [hu, all_bad (p := shPr) pr0 hlt (by rw [hv]; exact c')]
      rw [this] at h
      exact ret_bd hbd rfl h
    · have c' : shPr v = true := by simpa using c
      exact Wk.keep [1, 6] [0] (by decide) (Nat.le_refl _) hbd ⟨S.procs.length - (j + 1), by omega, j + 1, hlt, rfl, by rw [all_take pr0 hlt, ha, hv, c']; rfl, by simp only [go_sem], by simp only [go_sem]⟩
  have hd : decide ((j : Int) < (S.procs.length : Int)) = false := by simp; omega
  rw [List.take_of_length_le hge] at ha
  rw [ha] at hu
  rw [hu] at h
  simp only [go_sem, List.length_map, hd, Try.results10]
  exact ret_bd hbd rfl h
end Go.Proofs.Ytfoblkeefpaceaa
end PartL2

section PartL3
/- The law package: the fixed examples. -/
set_option linter.unusedSimpArgs false
set_option linter.unusedVariables false
set_option maxRecDepth 100000
namespace Go.Proofs.Ytfoblkeefpaceaa
open Go Go.Ab

/-- A node of the examples. -/
def nN (k : Int) (s : Str) (ks : List Nd) : Nd := .mk k s [] 0 0 0 false ks 0
def numN (k at_ : Int) : Nd := .mk 1 [] [] k 0 0 false [] at_
def noneN : Nd := nN 63 [] []
def benchBody : Nd := nN 34 [] [nN 21 [] [nN 2 [120] [], numN 9 7]]
def benchM : Sy := ⟨[⟨[77], [65], noneN, noneN, [], 0⟩], [⟨[120], 3, 0, 0, false, 0, 0⟩, ⟨[118], 2, 2, 0, false, 0, 0⟩], [], [⟨[102], 0, [⟨[112], 1, 0, 0, false, 0, 0⟩], [], [], benchBody, [], 0⟩], []⟩
def xN : Nd := nN 2 [120] []
def iN : Nd := nN 2 [105] []
def vN : Nd := nN 2 [118] [iN]
def allN (n : Int) : Nd := .mk 7 [105] [] n 0 0 false [nN 5 [60, 61] [vN, iN]] 0
def oldN : Nd := nN 5 [60, 61] [nN 3 [] [xN], xN]
def e1N : Nd := nN 5 [43] [xN, numN 1 0]
def e2N : Nd := nN 5 [43] [numN 1 0, numN 2 0]
def e3N : Nd := nN 5 [61, 61] [xN, numN 9 0]
def e4N : Nd := nN 2 [118] [nN 2 [112] []]
def e5N : Nd := nN 2 [118] [numN 2 0]
def e6N : Nd := nN 2 [118] []
def e7N : Nd := nN 2 [112] []
theorem g1 : widthR benchM 0 (-1) e1N 0 = (3, []) := by kernel_rfl
theorem g2 : widthR benchM 0 (-1) e2N 0 = (2, []) := by kernel_rfl
theorem g3 : widthR benchM 0 (-1) e3N 0 = (1, [⟨50, 0⟩]) := by kernel_rfl
theorem g4 : widthR benchM 0 0 e4N 0 = (2, []) := by kernel_rfl
theorem g5 : widthR benchM 0 0 e5N 0 = (2, [⟨51, 0⟩]) := by kernel_rfl
theorem g6 : widthR benchM 0 0 e6N 0 = (2, [⟨51, 0⟩]) := by kernel_rfl
theorem g7 : widthR benchM 0 (-1) e7N 0 = (1, [⟨40, 0⟩]) := by kernel_rfl
theorem g8 : widthR benchM 0 (-1) (allN 2) 0 = (1, []) := by kernel_rfl
theorem g9 : widthR benchM 0 (-1) (allN 3) 0 = (1, [⟨51, 0⟩]) := by kernel_rfl
theorem g10 : widthR benchM 0 (-1) oldN 0 = (1, []) := by kernel_rfl
theorem g11 : widthR benchM 0 0 oldN 0 = (1, [⟨44, 0⟩]) := by kernel_rfl
theorem g12 : checkR benchM = [⟨50, 7⟩] := by kernel_rfl
theorem g13 : (widthR benchM 1 (-1) xN 0).2 = [⟨1, 0⟩] := by kernel_rfl
theorem ret_via {G : Glob} {n0 : Nat} {fr fr' : Fr} {τ τ' : St} {R : A → St → Prop} (hw : Weak G n0 fr τ fr' τ') (h : ∃ r σ', Weak G n0 fr' τ' [r] σ' ∧ R r σ') : ∃ r σ', Weak G n0 fr τ [r] σ' ∧ R r σ' := by
  obtain ⟨r, σ', h1, h2⟩ := h
  exact ⟨r, σ', hw.trans h1, h2⟩
/-- A node as data. -/
def nD (k : Int) (s : Str) (n : Int) (kd : List D) (at_ : Int) : D := .agg [iD k, .str s, .str [], iD n, iD 0, iD 0, .bool false, .sl 9 kd, iD at_]
theorem nF_ac (k : Int) (s : Str) (kd : List D) (σ : St) (G : Glob) (R : A → St → Prop) (h : R (.d (nD k s 0 kd 0)) σ) : AC Try.prog G 21 [di k, .d (.str s), .d (.sl 9 kd)] σ R := by
  unfold nD at h
  refine ac_enter mixed Try.func21 rfl Try.ntmps21 (by simp only [go_sem]) fun hbd => ?_
  simp only [List.length_cons, List.length_nil, Nat.reduceAdd, Nat.reduceSub, List.replicate_succ, List.replicate_zero, List.cons_append, List.nil_append]
  simp only [go_sem, Try.results21]
  exact ret_bd hbd rfl h
theorem nF0_ac (k : Int) (s : Str) (σ : St) (G : Glob) (R : A → St → Prop) (h : R (.d (nD k s 0 [] 0)) σ) : AC Try.prog G 21 [di k, .d (.str s), .d .nils] σ R :=
  ac_weak (Weak.nils (.cons (.refl _) (.cons (.refl _) (.cons (.d (.nil 9)) .nil)))) (nF_ac k s [] σ G R h)
theorem numF_ac (k at_ : Int) (σ : St) (G : Glob) (R : A → St → Prop) (h : R (.d (nD 1 [] k [] at_)) σ) : AC Try.prog G 20 [di k, di at_] σ R := by
  unfold nD at h
  refine ac_enter mixed Try.func20 rfl Try.ntmps20 (by simp only [go_sem]) fun hbd => ?_
  simp only [List.length_cons, List.length_nil, Nat.reduceAdd, Nat.reduceSub, List.replicate_succ, List.replicate_zero, List.cons_append, List.nil_append]
  simp only [go_sem, Try.results20]
  refine ret_via (Weak.nils (.cons (.d (.agg ?_)) .nil)) (ret_bd hbd rfl h)
  exact .cons (.refl _) (.cons (.refl _) (.cons (.refl _) (.cons (.refl _) (.cons (.refl _) (.cons (.refl _) (.cons (.refl _) (.cons (.nil 9) (NilDL.refl _))))))))
set_option maxHeartbeats 8000000 in
theorem bench_ac (σ : St) (G : Glob) (R : A → St → Prop) (h : R (.d (syD benchM)) σ) : AC Try.prog G 23 [] σ R := by
  refine ac_enter mixed Try.func23 rfl Try.ntmps23 (by simp only [go_sem]) fun hbd => ?_
  simp only [List.length_cons, List.length_nil, Nat.reduceAdd, Nat.reduceSub, List.replicate_succ, List.replicate_zero, List.cons_append, List.nil_append]
  simp only [go_sem, Try.results23]
  refine ac' (nF0_ac _ _ _ _ _ ?_)
  simp only [go_sem, Try.results23]
  refine ac' (numF_ac _ _ _ _ _ ?_)
  simp only [nD, go_sem, Try.results23]
  refine ac' (ac_weak (Weak.deep [2] 4) ?_)
  simp only [go_sem, Try.results23]
  refine nF_ac _ _ _ _ _ _ ?_
  simp only [nD, go_sem, Try.results23]
  refine ac' (ac_weak (Weak.deep [3] 4) ?_)
  simp only [go_sem, Try.results23]
  refine nF_ac _ _ _ _ _ _ ?_
  simp only [nD, go_sem, Try.results23]
  refine ret_via (Weak.deep [0, 1, 2, 3, 4, 5, 6, 7, 8, 9] 6) ?_
  simp only [go_sem, Nat.add_assoc, Nat.reduceAdd, Try.results23]
  refine ret_via (fr' := [.d (syD benchM)]) (Weak.nils ?_) (ret_bd hbd rfl h)
  simp only [syD, Sy.cs, benchM, benchBody, noneN, nN, numN, List.map_cons, List.map_nil, moD, vrsD, vrD, prD, isD, Nd.d_eq, Nd.cs, Nd.kind, Nd.name, Nd.other, Nd.n, Nd.len, Nd.init, Nd.ghost, Nd.kids, Nd.pos, List.cons_append, List.nil_append]
  repeat' first | exact NilAL.nil | apply NilAL.cons | exact NilA.refl _ | apply NilA.d | exact NilD.refl _ | exact NilD.nil _ | apply NilD.sl | apply NilD.agg | apply NilDL.cons | exact NilDL.nil
theorem nN_ok {k : Int} {s : Str} {ks : List Nd} {n at_ : Int} (h1 : s.length ≤ reachBytes) (h2 : ks.length ≤ reachBytes) (h3 : I64 n) (h : ∀ e ∈ ks, e.Ok) : (Nd.mk k s [] n 0 0 false ks at_).Ok := .mk h2 h1 h3 h
theorem i64_small {n : Int} (h : 0 ≤ n ∧ n ≤ 100) : I64 n := by unfold I64; omega
theorem numN_ok {k at_ : Int} (h : I64 k) : (numN k at_).Ok := nN_ok (by decide) (by decide) h (fun e he => by cases he)
theorem leaf_ok {k : Int} {s : Str} (h : s.length ≤ reachBytes) : (nN k s []).Ok := nN_ok h (by decide) (i64_small (by decide)) (fun e he => by cases he)
theorem one_ok {k : Int} {s : Str} {a : Nd} (h : s.length ≤ reachBytes) (ha : a.Ok) : (nN k s [a]).Ok := nN_ok h (by simp only [List.length_cons, List.length_nil]; decide) (i64_small (by decide)) (fun e he => by simp only [List.mem_cons, List.not_mem_nil, or_false] at he; subst he; exact ha)
theorem two_ok {k : Int} {s : Str} {a b : Nd} (h : s.length ≤ reachBytes) (ha : a.Ok) (hb : b.Ok) : (nN k s [a, b]).Ok := nN_ok h (by simp only [List.length_cons, List.length_nil]; decide) (i64_small (by decide)) (fun e he => by
  simp only [List.mem_cons, List.not_mem_nil, or_false] at he
  rcases he with rfl | rfl
  · exact ha
  · exact hb)
theorem xN_ok : xN.Ok := leaf_ok (by decide)
theorem iN_ok : iN.Ok := leaf_ok (by decide)
theorem vN_ok : vN.Ok := one_ok (by decide) iN_ok
theorem allN_ok {n : Int} (h : 0 ≤ n ∧ n ≤ 100) : (allN n).Ok := nN_ok (by decide) (by decide) (i64_small h) (fun e he => by
  simp only [List.mem_cons, List.not_mem_nil, or_false] at he
  subst he
  exact two_ok (by decide) vN_ok iN_ok)
theorem oldN_ok : oldN.Ok := two_ok (by decide) (one_ok (by decide) xN_ok) xN_ok
theorem vr_ok {v : Vr} (h1 : I64 v.w) (h2 : I64 v.len) : v.Ok := ⟨h1, h2⟩
theorem bench_ok : benchM.Ok := by
  refine ⟨by decide, by decide, by decide, by decide, by decide, fun m hm => ?_, fun v hv => ?_, fun l hl => (List.not_mem_nil hl).elim, fun p hp => ?_⟩
  · simp only [benchM, List.mem_cons, List.not_mem_nil, or_false] at hm
    subst hm
    exact ⟨leaf_ok (by decide), leaf_ok (by decide), by decide, fun e he => by cases he⟩
  · simp only [benchM, List.mem_cons, List.not_mem_nil, or_false] at hv
    rcases hv with rfl | rfl
    · exact ⟨i64_small (by decide), i64_small (by decide)⟩
    · exact ⟨i64_small (by decide), i64_small (by decide)⟩
  · simp only [benchM, List.mem_cons, List.not_mem_nil, or_false] at hp
    subst hp
    refine ⟨by decide, by decide, fun v hv => ?_, fun v hv => (List.not_mem_nil hv).elim, one_ok (by decide) (two_ok (by decide) xN_ok (numN_ok (i64_small (by decide))))⟩
    simp only [List.mem_cons, List.not_mem_nil, or_false] at hv
    subst hv
    exact ⟨i64_small (by decide), i64_small (by decide)⟩
theorem bench_fit : benchM.Fit := by
  refine ⟨fun m hm => ?_, fun l hl => (List.not_mem_nil hl).elim, fun p hp => ?_⟩
  · simp only [benchM, List.mem_cons, List.not_mem_nil, or_false] at hm
    subst hm
    exact ⟨fit_nil (by decide), fit_nil (by decide)⟩
  · simp only [benchM, List.mem_cons, List.not_mem_nil, or_false] at hp
    subst hp
    exact fit_nil (by decide)
set_option maxHeartbeats 4000000 in
theorem gives_ac {p w f : Int} {e : Nd} {x : D} (hx : e.d = x) (hok : e.Ok) (hn : e.nodes ≤ 10000) (hw : (f = 0 ∧ widthR benchM 0 p e 0 = (w, [])) ∨ (f ≠ 0 ∧ ∃ y, widthR benchM 0 p e 0 = (w, [⟨f, y⟩]))) (σ : St) (G : Glob) (R : A → St → Prop) (h : R (db true) σ) : AC Try.prog G 29 [di p, .d x, di w, di f] σ R := by
  subst hx
  rw [Nd.d_eq]
  refine ac_enter' mixed Try.func29 rfl Try.ntmps29 (by simp only [go_sem]) fun hbd => ?_
  simp only [List.length_cons, List.length_nil, Nat.reduceAdd, Nat.reduceSub, List.replicate_succ, List.replicate_zero, List.cons_append, List.nil_append]
  simp only [go_sem, Try.results29]
  refine aw_plan (.take 1 <| .pure 0 <| .tk 7 2 <| .done) (by kernel_rfl) ?_
  simp only [go_sem, Try.results29]
  refine exP (.d (syD benchM)) ⟨fun σ' => ?_, ?_⟩
  · simp only [go_sem, Try.results29]
    exact ac' (bench_ac _ _ _ ⟨rfl, rfl⟩)
  simp only [syD, Sy.cs, vrsD]
  simp only [go_sem, Try.results29]
  have hs : syD benchM = .agg [.sl 22 (benchM.mods.map moD), .sl 7 (benchM.vars.map vrD), .sl 12 (benchM.locks.map lkD), .sl 16 (benchM.procs.map prD), .sl 5 (benchM.threads.map thD)] := rfl
  rw [← hs, ← Nd.d_eq]
  refine ac' (widthF_ac bench_ok 0 p hok hn 0 _ _ _ ?_)
  rcases hw with ⟨rfl, hw⟩ | ⟨hf, y, hw⟩
  · rw [hw]
    have c : ((0 : Int) == 0) = true := rfl
    have c1 : (((0 : Nat) : Int) == 0) = true := rfl
    simp only [dgsD, List.map_nil, List.length_nil, go_sem, c, c1, beq_self_eq_true, Bool.and_self, Try.results29]
    exact ret_bd hbd rfl h
  · rw [hw]
    have c : (f == 0) = false := beq_f hf
    have c1 : (((1 : Nat) : Int) == 1) = true := rfl
    simp only [dgsD, dgD, List.map_cons, List.map_nil, go_sem, c, c1, beq_self_eq_true, Bool.and_self, Int.reduceToNat, List.getD_cons_zero, Try.results29]
    exact ⟨⟨by omega, by omega⟩, ret_bd hbd rfl h⟩
end Go.Proofs.Ytfoblkeefpaceaa
end PartL3

section PartL4
/- The law package: the head of every law. -/
set_option linter.unusedSimpArgs false
set_option linter.unusedVariables false
set_option maxRecDepth 100000
namespace Go.Proofs.Ytfoblkeefpaceaa
open Go Go.Ab

theorem nO_ac {k : Int} {s : Str} {j len : Nat} {ow : Option TypeId} {σ l : St} {G : Glob} {R : A → St → Prop}
    (h : AC Try.prog G 21 ([di k, .d (.str s), .rs (σ.length + j) 9 0 len ow].map (dpA σ.length [j] l 4)) (σ ++ dpSt [j] (dpA σ.length [j] l 4) 0 l) R) : AC Try.prog G 21 [di k, .d (.str s), .rs (σ.length + j) 9 0 len ow] (σ ++ l) R :=
  ac_weak (Weak.deep [j] 4) h
/-- A node as an object. -/
abbrev oN (k : Int) (s : Str) (n : Int) (kd : List D) : Option Ob := some (.cells [di k, .d (.str s), .d (.str []), di n, di 0, di 0, db false, .d (.sl 9 kd), di 0])
abbrev xK : D := .agg [iD 2, .str [120], .str [], iD 0, iD 0, iD 0, .bool false, .sl 9 [], iD 0]
abbrev iK : D := .agg [iD 2, .str [105], .str [], iD 0, iD 0, iD 0, .bool false, .sl 9 [], iD 0]
abbrev vK : D := .agg [iD 2, .str [118], .str [], iD 0, iD 0, iD 0, .bool false, .sl 9 [iK], iD 0]
abbrev leK : D := .agg [iD 5, .str [60, 61], .str [], iD 0, iD 0, iD 0, .bool false, .sl 9 [vK, iK], iD 0]
abbrev opK : D := .agg [iD 3, .str [], .str [], iD 0, iD 0, iD 0, .bool false, .sl 9 [xK], iD 0]
abbrev oX : Option Ob := oN 2 [120] 0 []
abbrev oV : Option Ob := oN 2 [118] 0 [iK]
abbrev oA (n : Int) : Option Ob := oN 7 [105] n [leK]
abbrev oO : Option Ob := oN 5 [60, 61] 0 [opK, xK]
set_option maxHeartbeats 16000000 in
theorem head_ac (σ : St) (G : Glob) (R : A → St → Prop) (h : R (db true) σ) : AC Try.prog G 9 [] σ R := by
  refine ac_enterC' [2, 3, 4, 5, 6, 7, 8, 9, 10] mixed Try.func9 rfl Try.ntmps9 (by simp only [go_sem]) fun hbd => ?_
  simp only [List.length_cons, List.length_nil, Nat.reduceAdd, Nat.reduceSub, List.replicate_succ, List.replicate_zero, List.cons_append, List.nil_append]
  simp only [go_sem, Try.results9]
  refine aw_cut (fun fr st => fr = [.any, .ref σ.length 0, .any, .any, .any, .any, .any, .any, .any, .any, .any, .any, .any, .any, .any, .any, .any, .any, .any, .any, .any, .any, .any, .any, .any, .any, .any, .any, .any, .any, .any, .any, .any, .any, .any, .any, .any, .any, .any, .any, .any, .any, .any, .any, .any, .any, .any, .any, .any, .any, .any, .any, .any, .any, .any, .any, .any, .any, .any, .any, .any, .any, .any, .any, .any, .any, .any, .any, .any, .any, .any, .any, .any, .any, .any, .any, .any, .any, .any, .any, .any, .any, .any, .any, .any, .any, .any, .any, .any, .any, .any, .any, .any, .any, .any, .any, .any, .any, .any, .any, .any, .any, .any, .any, .any, .any, .any, .any, .any, .any, .any, .any, .any, .any, .any] ∧ st = σ ++ [oX]) ?_ ?_
  · simp only [go_sem, Try.results9]
    (refine ac' (nF0_ac _ _ _ _ _ ?_); try simp only [nD, go_sem, Nat.add_assoc, Nat.reduceAdd, Try.results9])
    exact Wk.keep [1] [0] (by decide) (Nat.le_refl _) hbd ⟨by simp only [go_sem], by simp only [go_sem]⟩
  rintro fr st ⟨rfl, rfl⟩
  refine aw_cut (fun fr st => fr = [.any, .ref σ.length 0, .ref (σ.length + 1) 0, .any, .any, .any, .any, .any, .any, .any, .any, .any, .any, .any, .any, .any, .any, .any, .any, .any, .any, .any, .any, .any, .any, .any, .any, .any, .any, .any, .any, .any, .any, .any, .any, .any, .any, .any, .any, .any, .any, .any, .any, .any, .any, .any, .any, .any, .any, .any, .any, .any, .any, .any, .any, .any, .any, .any, .any, .any, .any, .any, .any, .any, .any, .any, .any, .any, .any, .any, .any, .any, .any, .any, .any, .any, .any, .any, .any, .any, .any, .any, .any, .any, .any, .any, .any, .any, .any, .any, .any, .any, .any, .any, .any, .any, .any, .any, .any, .any, .any, .any, .any, .any, .any, .any, .any, .any, .any, .any, .any, .any, .any, .any, .any] ∧ st = σ ++ [oX, oV]) ?_ ?_
  · simp only [go_sem, Try.results9]
    (refine ac' (nF0_ac _ _ _ _ _ ?_); try simp only [nD, go_sem, Nat.add_assoc, Nat.reduceAdd, Try.results9])
    (refine ac' (nO_ac ?_); simp only [go_sem]; refine nF_ac _ _ _ _ _ _ ?_; try simp only [nD, go_sem, Nat.add_assoc, Nat.reduceAdd, Try.results9])
    exact Wk.keep [1, 2] [0, 2] (by decide) (Nat.le_refl _) hbd ⟨by (simp only [go_sem]) <;> rfl, by (simp only [go_sem]) <;> rfl⟩
  rintro fr st ⟨rfl, rfl⟩
  refine aw_cut (fun fr st => fr = [.any, .ref σ.length 0, .any, .ref (σ.length + 1) 0, .any, .any, .any, .any, .any, .any, .any, .any, .any, .any, .any, .any, .any, .any, .any, .any, .any, .any, .any, .any, .any, .any, .any, .any, .any, .any, .any, .any, .any, .any, .any, .any, .any, .any, .any, .any, .any, .any, .any, .any, .any, .any, .any, .any, .any, .any, .any, .any, .any, .any, .any, .any, .any, .any, .any, .any, .any, .any, .any, .any, .any, .any, .any, .any, .any, .any, .any, .any, .any, .any, .any, .any, .any, .any, .any, .any, .any, .any, .any, .any, .any, .any, .any, .any, .any, .any, .any, .any, .any, .any, .any, .any, .any, .any, .any, .any, .any, .any, .any, .any, .any, .any, .any, .any, .any, .any, .any, .any, .any, .any, .any] ∧ st = σ ++ [oX, oA 0]) ?_ ?_
  · simp only [go_sem, Try.results9]
    refine aw_plan (.pure 1 <| .take 0 <| .alt 2 (.alt 3 (.alt 4 (.alt 5 (.tk 2 6 <| .done) <| .alt 6 (.take 5 <| .take 7 <| .done) <| .stop) <| .alt 6 (.tk 2 4 <| .take 7 <| .done) <| .stop) <| .alt 6 (.tk 3 3 <| .take 7 <| .done) <| .stop) <| .alt 6 (.tk 4 2 <| .take 7 <| .done) <| .stop) (by kernel_rfl) ?_
    simp only [go_sem, Try.results9]
    refine exP (.d (nD 2 [105] 0 [] 0)) ⟨fun σ' => ?_, ?_⟩
    · simp only [go_sem, Try.results9]
      exact ac' (nF0_ac _ _ _ _ _ ⟨rfl, rfl⟩)
    simp only [nD, go_sem, Nat.add_assoc, Nat.reduceAdd, Try.results9]
    repeat' first | (with_reducible apply And.intro) | (refine ac' (nO_ac ?_); simp only [go_sem]; refine nF_ac _ _ _ _ _ _ ?_; try simp only [nD, go_sem, Nat.add_assoc, Nat.reduceAdd, Try.results9])
    all_goals first
      | (refine Wk.keep [1, 3] [0, 4] (by decide) (Nat.le_refl _) hbd ⟨?_, ?_⟩ <;> ((simp only [go_sem]) <;> rfl))
      | (refine Wk.keep [1, 3] [0, 3] (by decide) (Nat.le_refl _) hbd ⟨?_, ?_⟩ <;> ((simp only [go_sem]) <;> rfl))
      | (refine Wk.keep [1, 3] [0, 2] (by decide) (Nat.le_refl _) hbd ⟨?_, ?_⟩ <;> ((simp only [go_sem]) <;> rfl))
  rintro fr st ⟨rfl, rfl⟩
  refine aw_cut (fun fr st => fr = [.any, .ref σ.length 0, .any, .ref (σ.length + 1) 0, .any, .any, .any, .any, .any, .any, .any, .any, .any, .any, .any, .any, .any, .any, .any, .any, .any, .any, .any, .any, .any, .any, .any, .any, .any, .any, .any, .any, .any, .any, .any, .any, .any, .any, .any, .any, .any, .any, .any, .any, .any, .any, .any, .any, .any, .any, .any, .any, .any, .any, .any, .any, .any, .any, .any, .any, .any, .any, .any, .any, .any, .any, .any, .any, .any, .any, .any, .any, .any, .any, .any, .any, .any, .any, .any, .any, .any, .any, .any, .any, .any, .any, .any, .any, .any, .any, .any, .any, .any, .any, .any, .any, .any, .any, .any, .any, .any, .any, .any, .any, .any, .any, .any, .any, .any, .any, .any, .any, .any, .any, .any] ∧ st = σ ++ [oX, oA 2]) ?_ ?_
  · simp only [go_sem, Try.results9]
    exact Wk.keep [1, 3] [0, 1] (by decide) (Nat.le_refl _) hbd ⟨by (simp only [go_sem]) <;> rfl, by (simp only [go_sem]) <;> rfl⟩
  rintro fr st ⟨rfl, rfl⟩
  refine aw_cut (fun fr st => fr = [.any, .ref σ.length 0, .any, .ref (σ.length + 1) 0, .ref (σ.length + 2) 0, .any, .any, .any, .any, .any, .any, .any, .any, .any, .any, .any, .any, .any, .any, .any, .any, .any, .any, .any, .any, .any, .any, .any, .any, .any, .any, .any, .any, .any, .any, .any, .any, .any, .any, .any, .any, .any, .any, .any, .any, .any, .any, .any, .any, .any, .any, .any, .any, .any, .any, .any, .any, .any, .any, .any, .any, .any, .any, .any, .any, .any, .any, .any, .any, .any, .any, .any, .any, .any, .any, .any, .any, .any, .any, .any, .any, .any, .any, .any, .any, .any, .any, .any, .any, .any, .any, .any, .any, .any, .any, .any, .any, .any, .any, .any, .any, .any, .any, .any, .any, .any, .any, .any, .any, .any, .any, .any, .any, .any, .any] ∧ st = σ ++ [oX, oA 2, oA 2]) ?_ ?_
  · simp only [go_sem, Try.results9]
    exact Wk.keep [1, 3, 4] [0, 1, 2] (by decide) (Nat.le_refl _) hbd ⟨by (simp only [go_sem]) <;> rfl, by (simp only [go_sem]) <;> rfl⟩
  rintro fr st ⟨rfl, rfl⟩
  refine aw_cut (fun fr st => fr = [.any, .ref σ.length 0, .any, .ref (σ.length + 1) 0, .ref (σ.length + 2) 0, .any, .any, .any, .any, .any, .any, .any, .any, .any, .any, .any, .any, .any, .any, .any, .any, .any, .any, .any, .any, .any, .any, .any, .any, .any, .any, .any, .any, .any, .any, .any, .any, .any, .any, .any, .any, .any, .any, .any, .any, .any, .any, .any, .any, .any, .any, .any, .any, .any, .any, .any, .any, .any, .any, .any, .any, .any, .any, .any, .any, .any, .any, .any, .any, .any, .any, .any, .any, .any, .any, .any, .any, .any, .any, .any, .any, .any, .any, .any, .any, .any, .any, .any, .any, .any, .any, .any, .any, .any, .any, .any, .any, .any, .any, .any, .any, .any, .any, .any, .any, .any, .any, .any, .any, .any, .any, .any, .any, .any, .any] ∧ st = σ ++ [oX, oA 2, oA 3]) ?_ ?_
  · simp only [go_sem, Try.results9]
    exact Wk.keep [1, 3, 4] [0, 1, 2] (by decide) (Nat.le_refl _) hbd ⟨by (simp only [go_sem]) <;> rfl, by (simp only [go_sem]) <;> rfl⟩
  rintro fr st ⟨rfl, rfl⟩
  refine aw_cut (fun fr st => fr = [.any, .ref σ.length 0, .any, .ref (σ.length + 1) 0, .ref (σ.length + 2) 0, .d (.sl 2 [.agg [iD 50, iD 7]]), .any, .any, .any, .any, .any, .any, .any, .any, .any, .any, .any, .any, .any, .any, .any, .any, .any, .any, .any, .any, .any, .any, .any, .any, .any, .any, .any, .any, .any, .any, .any, .any, .any, .any, .any, .any, .any, .any, .any, .any, .any, .any, .any, .any, .any, .any, .any, .any, .any, .any, .any, .any, .any, .any, .any, .any, .any, .any, .any, .any, .any, .any, .any, .any, .any, .any, .any, .any, .any, .any, .any, .any, .any, .any, .any, .any, .any, .any, .any, .any, .any, .any, .any, .any, .any, .any, .any, .any, .any, .any, .any, .any, .any, .any, .any, .any, .any, .any, .any, .any, .any, .any, .any, .any, .any, .any, .any, .any, .any] ∧ st = σ ++ [oX, oA 2, oA 3]) ?_ ?_
  · simp only [go_sem, Try.results9]
    refine ac' (bench_ac _ _ _ ?_)
    simp only [syD, Sy.cs, vrsD]
    simp only [go_sem, Try.results9]
    have hs : syD benchM = .agg [.sl 22 (benchM.mods.map moD), .sl 7 (benchM.vars.map vrD), .sl 12 (benchM.locks.map lkD), .sl 16 (benchM.procs.map prD), .sl 5 (benchM.threads.map thD)] := rfl
    rw [← hs]
    refine ac' (checkF_ac bench_ok bench_fit _ _ _ ?_)
    rw [g12]
    simp only [go_sem, Try.results9]
    exact Wk.keep [1, 3, 4, 5] [0, 1, 2] (by decide) (Nat.le_refl _) hbd ⟨by (simp only [go_sem]) <;> rfl, by (simp only [go_sem]) <;> rfl⟩
  rintro fr st ⟨rfl, rfl⟩
  refine aw_cut (fun fr st => fr = [.any, .ref σ.length 0, .any, .ref (σ.length + 1) 0, .ref (σ.length + 2) 0, .d (.sl 2 [.agg [iD 50, iD 7]]), .any, .d (.sl 2 [.agg [iD 1, iD 0]]), .any, .any, .any, .any, .any, .any, .any, .any, .any, .any, .any, .any, .any, .any, .any, .any, .any, .any, .any, .any, .any, .any, .any, .any, .any, .any, .any, .any, .any, .any, .any, .any, .any, .any, .any, .any, .any, .any, .any, .any, .any, .any, .any, .any, .any, .any, .any, .any, .any, .any, .any, .any, .any, .any, .any, .any, .any, .any, .any, .any, .any, .any, .any, .any, .any, .any, .any, .any, .any, .any, .any, .any, .any, .any, .any, .any, .any, .any, .any, .any, .any, .any, .any, .any, .any, .any, .any, .any, .any, .any, .any, .any, .any, .any, .any, .any, .any, .any, .any, .any, .any, .any, .any, .any, .any, .any, .any] ∧ st = σ ++ [oX, oA 2, oA 3]) ?_ ?_
  · simp only [go_sem, Try.results9]
    refine aw_plan (.pure 0 <| .tk 7 1 <| .done) (by kernel_rfl) ?_
    simp only [go_sem, Try.results9]
    refine exP (.d (syD benchM)) ⟨fun σ' => ?_, ?_⟩
    · simp only [go_sem, Try.results9]
      exact ac' (bench_ac _ _ _ ⟨rfl, rfl⟩)
    simp only [syD, Sy.cs, vrsD]
    simp only [go_sem, Try.results9]
    have hs : syD benchM = .agg [.sl 22 (benchM.mods.map moD), .sl 7 (benchM.vars.map vrD), .sl 12 (benchM.locks.map lkD), .sl 16 (benchM.procs.map prD), .sl 5 (benchM.threads.map thD)] := rfl
    rw [← hs]
    have hx : D.agg [D.int .i64 2, .str [120], .str [], D.int .i64 0, D.int .i64 0, D.int .i64 0, .bool false, .sl 9 [], D.int .i64 0] = xN.d := by kernel_rfl
    rw [hx]
    refine ac' (widthF_ac bench_ok 1 (-1) xN_ok (by decide) 0 _ _ _ ?_)
    rw [g13]
    simp only [go_sem, Try.results9]
    exact Wk.keep [1, 3, 4, 5, 7] [0, 1, 2] (by decide) (Nat.le_refl _) hbd ⟨by (simp only [go_sem]) <;> rfl, by (simp only [go_sem]) <;> rfl⟩
  rintro fr st ⟨rfl, rfl⟩
  refine aw_cut (fun fr st => fr = [.any, .ref σ.length 0, .any, .ref (σ.length + 1) 0, .ref (σ.length + 2) 0, .d (.sl 2 [.agg [iD 50, iD 7]]), .any, .d (.sl 2 [.agg [iD 1, iD 0]]), .ref (σ.length + 3) 0, .any, .any, .any, .any, .any, .any, .any, .any, .any, .any, .any, .any, .any, .any, .any, .any, .any, .any, .any, .any, .any, .any, .any, .any, .any, .any, .any, .any, .any, .any, .any, .any, .any, .any, .any, .any, .any, .any, .any, .any, .any, .any, .any, .any, .any, .any, .any, .any, .any, .any, .any, .any, .any, .any, .any, .any, .any, .any, .any, .any, .any, .any, .any, .any, .any, .any, .any, .any, .any, .any, .any, .any, .any, .any, .any, .any, .any, .any, .any, .any, .any, .any, .any, .any, .any, .any, .any, .any, .any, .any, .any, .any, .any, .any, .any, .any, .any, .any, .any, .any, .any, .any, .any, .any, .any, .any] ∧ st = σ ++ [oX, oA 2, oA 3, oO]) ?_ ?_
  · simp only [go_sem, Try.results9]
    refine aw_plan (.take 0 <| .alt 1 (.alt 2 (.take 3 <| .alt 4 (.alt 5 (.tk 2 6 <| .done) <| .alt 6 (.take 5 <| .take 7 <| .done) <| .stop) <| .alt 6 (.tk 2 4 <| .take 7 <| .done) <| .stop) <| .alt 3 (.alt 2 (.alt 4 (.alt 5 (.tk 2 6 <| .done) <| .alt 6 (.take 5 <| .take 7 <| .done) <| .stop) <| .alt 6 (.tk 2 4 <| .take 7 <| .done) <| .stop) <| .alt 6 (.take 2 <| .tk 2 4 <| .take 7 <| .done) <| .stop) <| .alt 6 (.alt 2 (.tk 3 3 <| .take 7 <| .done) <| .alt 3 (.take 2 <| .tk 2 4 <| .take 7 <| .done) <| .stop) <| .stop) <| .alt 3 (.alt 1 (.alt 2 (.alt 4 (.alt 5 (.tk 2 6 <| .done) <| .alt 6 (.take 5 <| .take 7 <| .done) <| .stop) <| .alt 6 (.tk 2 4 <| .take 7 <| .done) <| .stop) <| .alt 6 (.take 2 <| .tk 2 4 <| .take 7 <| .done) <| .stop) <| .alt 6 (.tk 2 1 <| .tk 2 4 <| .take 7 <| .done) <| .stop) <| .alt 6 (.alt 1 (.alt 2 (.tk 3 3 <| .take 7 <| .done) <| .alt 3 (.take 2 <| .tk 2 4 <| .take 7 <| .done) <| .stop) <| .alt 3 (.tk 2 1 <| .tk 2 4 <| .take 7 <| .done) <| .stop) <| .stop) (by kernel_rfl) ?_
    simp only [go_sem, Try.results9]
    repeat' first | (with_reducible apply And.intro) | (refine ac' (nO_ac ?_); simp only [go_sem]; refine nF_ac _ _ _ _ _ _ ?_; try simp only [nD, go_sem, Nat.add_assoc, Nat.reduceAdd, Try.results9])
    all_goals first
      | (refine Wk.keep [1, 3, 4, 5, 7, 8] [0, 1, 2, 5] (by decide) (Nat.le_refl _) hbd ⟨?_, ?_⟩ <;> ((simp only [go_sem]) <;> rfl))
      | (refine Wk.keep [1, 3, 4, 5, 7, 8] [0, 1, 2, 4] (by decide) (Nat.le_refl _) hbd ⟨?_, ?_⟩ <;> ((simp only [go_sem]) <;> rfl))
      | (refine Wk.keep [1, 3, 4, 5, 7, 8] [0, 1, 2, 3] (by decide) (Nat.le_refl _) hbd ⟨?_, ?_⟩ <;> ((simp only [go_sem]) <;> rfl))
  rintro fr st ⟨rfl, rfl⟩
  simp only [go_sem, Try.results9]
  simp only [List.append_eq, List.cons_append, List.nil_append]
  refine aw_plan (.pure 1 <| .take 0 <| .tk 11 2 <| .pure 14 <| .take 13 <| .tk 65 15 <| .done) (by kernel_rfl) ?_
  simp only [go_sem, Try.results9]
  refine exP (.d (nD 1 [] 1 [] 0)) ⟨fun σ' => ?_, ?_⟩
  · simp only [go_sem, Try.results9]
    exact ac' (numF_ac _ _ _ _ _ ⟨rfl, rfl⟩)
  simp only [nD, go_sem, Nat.add_assoc, Nat.reduceAdd, Try.results9]
  (refine ac' (nO_ac ?_); simp only [go_sem]; refine nF_ac _ _ _ _ _ _ ?_; try simp only [nD, go_sem, Nat.add_assoc, Nat.reduceAdd, Try.results9])
  refine ac' (gives_ac (e := e1N) (by kernel_rfl) (two_ok (by decide) xN_ok (numN_ok (i64_small (by decide)))) (by decide) (.inl ⟨rfl, g1⟩) _ _ _ ?_)
  simp only [go_sem, Nat.add_assoc, Nat.reduceAdd, Try.results9]
  (refine exs ⟨fun _ => ?_, fun h => Bool.noConfusion h⟩; simp only [go_sem, Nat.add_assoc, Nat.reduceAdd, Try.results9])
  (refine ac' (numF_ac _ _ _ _ _ ?_); try simp only [nD, go_sem, Nat.add_assoc, Nat.reduceAdd, Try.results9])
  (refine exs ⟨fun _ => ?_, fun h => Bool.noConfusion h⟩; simp only [go_sem, Nat.add_assoc, Nat.reduceAdd, Try.results9])
  (refine ac' (numF_ac _ _ _ _ _ ?_); try simp only [nD, go_sem, Nat.add_assoc, Nat.reduceAdd, Try.results9])
  (refine exs ⟨fun _ => ?_, fun h => Bool.noConfusion h⟩; simp only [go_sem, Nat.add_assoc, Nat.reduceAdd, Try.results9])
  (refine ac' (nO_ac ?_); simp only [go_sem]; refine nF_ac _ _ _ _ _ _ ?_; try simp only [nD, go_sem, Nat.add_assoc, Nat.reduceAdd, Try.results9])
  (refine exs ⟨fun _ => ?_, fun h => Bool.noConfusion h⟩; simp only [go_sem, Nat.add_assoc, Nat.reduceAdd, Try.results9])
  refine ac' (gives_ac (e := e2N) (by kernel_rfl) (two_ok (by decide) (numN_ok (i64_small (by decide))) (numN_ok (i64_small (by decide)))) (by decide) (.inl ⟨rfl, g2⟩) _ _ _ ?_)
  try simp only [nD, go_sem, Nat.add_assoc, Nat.reduceAdd, Try.results9]
  refine exQ (nD 1 [] 9 [] 0) ⟨fun q => ?_, ?_⟩
  · simp only [go_sem, Try.results9]
    exact fun σ' => ac' (numF_ac _ _ _ _ _ ⟨rfl, rfl⟩)
  try simp only [nD, go_sem, Nat.add_assoc, Nat.reduceAdd, Try.results9]
  (refine exs ⟨fun _ => ?_, fun h => Bool.noConfusion h⟩; simp only [go_sem, Nat.add_assoc, Nat.reduceAdd, Try.results9])
  (refine ac' (nO_ac ?_); simp only [go_sem]; refine nF_ac _ _ _ _ _ _ ?_; try simp only [nD, go_sem, Nat.add_assoc, Nat.reduceAdd, Try.results9])
  (refine exs ⟨fun _ => ?_, fun h => Bool.noConfusion h⟩; simp only [go_sem, Nat.add_assoc, Nat.reduceAdd, Try.results9])
  refine ac' (gives_ac (e := e3N) (by kernel_rfl) (two_ok (by decide) xN_ok (numN_ok (i64_small (by decide)))) (by decide) (.inr ⟨by decide, 0, g3⟩) _ _ _ ?_)
  try simp only [nD, go_sem, Nat.add_assoc, Nat.reduceAdd, Try.results9]
  (refine exs ⟨fun _ => ?_, fun h => Bool.noConfusion h⟩; simp only [go_sem, Nat.add_assoc, Nat.reduceAdd, Try.results9])
  (refine ac' (nF0_ac _ _ _ _ _ ?_); try simp only [nD, go_sem, Nat.add_assoc, Nat.reduceAdd, Try.results9])
  (refine exs ⟨fun _ => ?_, fun h => Bool.noConfusion h⟩; simp only [go_sem, Nat.add_assoc, Nat.reduceAdd, Try.results9])
  (refine ac' (nO_ac ?_); simp only [go_sem]; refine nF_ac _ _ _ _ _ _ ?_; try simp only [nD, go_sem, Nat.add_assoc, Nat.reduceAdd, Try.results9])
  (refine exs ⟨fun _ => ?_, fun h => Bool.noConfusion h⟩; simp only [go_sem, Nat.add_assoc, Nat.reduceAdd, Try.results9])
  refine ac' (gives_ac (e := e4N) (by kernel_rfl) (one_ok (by decide) (leaf_ok (by decide))) (by decide) (.inl ⟨rfl, g4⟩) _ _ _ ?_)
  try simp only [nD, go_sem, Nat.add_assoc, Nat.reduceAdd, Try.results9]
  (refine exs ⟨fun _ => ?_, fun h => Bool.noConfusion h⟩; simp only [go_sem, Nat.add_assoc, Nat.reduceAdd, Try.results9])
  (refine ac' (numF_ac _ _ _ _ _ ?_); try simp only [nD, go_sem, Nat.add_assoc, Nat.reduceAdd, Try.results9])
  (refine exs ⟨fun _ => ?_, fun h => Bool.noConfusion h⟩; simp only [go_sem, Nat.add_assoc, Nat.reduceAdd, Try.results9])
  (refine ac' (nO_ac ?_); simp only [go_sem]; refine nF_ac _ _ _ _ _ _ ?_; try simp only [nD, go_sem, Nat.add_assoc, Nat.reduceAdd, Try.results9])
  (refine exs ⟨fun _ => ?_, fun h => Bool.noConfusion h⟩; simp only [go_sem, Nat.add_assoc, Nat.reduceAdd, Try.results9])
  refine ac' (gives_ac (e := e5N) (by kernel_rfl) (one_ok (by decide) (numN_ok (i64_small (by decide)))) (by decide) (.inr ⟨by decide, 0, g5⟩) _ _ _ ?_)
  try simp only [nD, go_sem, Nat.add_assoc, Nat.reduceAdd, Try.results9]
  (refine exs ⟨fun _ => ?_, fun h => Bool.noConfusion h⟩; simp only [go_sem, Nat.add_assoc, Nat.reduceAdd, Try.results9])
  (refine ac' (nF0_ac _ _ _ _ _ ?_); try simp only [nD, go_sem, Nat.add_assoc, Nat.reduceAdd, Try.results9])
  (refine exs ⟨fun _ => ?_, fun h => Bool.noConfusion h⟩; simp only [go_sem, Nat.add_assoc, Nat.reduceAdd, Try.results9])
  refine ac' (gives_ac (e := e6N) (by kernel_rfl) (leaf_ok (by decide)) (by decide) (.inr ⟨by decide, 0, g6⟩) _ _ _ ?_)
  try simp only [nD, go_sem, Nat.add_assoc, Nat.reduceAdd, Try.results9]
  (refine exs ⟨fun _ => ?_, fun h => Bool.noConfusion h⟩; simp only [go_sem, Nat.add_assoc, Nat.reduceAdd, Try.results9])
  (refine ac' (nF0_ac _ _ _ _ _ ?_); try simp only [nD, go_sem, Nat.add_assoc, Nat.reduceAdd, Try.results9])
  (refine exs ⟨fun _ => ?_, fun h => Bool.noConfusion h⟩; simp only [go_sem, Nat.add_assoc, Nat.reduceAdd, Try.results9])
  refine ac' (gives_ac (e := e7N) (by kernel_rfl) (leaf_ok (by decide)) (by decide) (.inr ⟨by decide, 0, g7⟩) _ _ _ ?_)
  try simp only [nD, go_sem, Nat.add_assoc, Nat.reduceAdd, Try.results9]
  (refine exs ⟨fun _ => ?_, fun h => Bool.noConfusion h⟩; simp only [go_sem, Nat.add_assoc, Nat.reduceAdd, Try.results9])
  refine ac' (gives_ac (e := allN 2) (by kernel_rfl) (allN_ok (by decide)) (by decide) (.inl ⟨rfl, g8⟩) _ _ _ ?_)
  try simp only [nD, go_sem, Nat.add_assoc, Nat.reduceAdd, Try.results9]
  (refine exs ⟨fun _ => ?_, fun h => Bool.noConfusion h⟩; simp only [go_sem, Nat.add_assoc, Nat.reduceAdd, Try.results9])
  refine ac' (gives_ac (e := allN 3) (by kernel_rfl) (allN_ok (by decide)) (by decide) (.inr ⟨by decide, 0, g9⟩) _ _ _ ?_)
  try simp only [nD, go_sem, Nat.add_assoc, Nat.reduceAdd, Try.results9]
  (refine exs ⟨fun _ => ?_, fun h => Bool.noConfusion h⟩; simp only [go_sem, Nat.add_assoc, Nat.reduceAdd, Try.results9])
  refine ac' (gives_ac (e := oldN) (by kernel_rfl) (oldN_ok) (by decide) (.inl ⟨rfl, g10⟩) _ _ _ ?_)
  try simp only [nD, go_sem, Nat.add_assoc, Nat.reduceAdd, Try.results9]
  (refine exs ⟨fun _ => ?_, fun h => Bool.noConfusion h⟩; simp only [go_sem, Nat.add_assoc, Nat.reduceAdd, Try.results9])
  refine ac' (gives_ac (e := oldN) (by kernel_rfl) (oldN_ok) (by decide) (.inr ⟨by decide, 0, g11⟩) _ _ _ ?_)
  try simp only [nD, go_sem, Nat.add_assoc, Nat.reduceAdd, Try.results9]
  have c1 : (((1 : Nat) : Int) == 1) = true := rfl
  have t2 : List.take 2 [iD 50, iD 7] = [iD 50, iD 7] := rfl
  have hc1 : cmpD Try.prog .eql 75 (.agg [iD 50, iD 7]) (.agg [D.int .i64 50, D.int .i64 7]) = some true := by kernel_rfl
  have hc2 : cmpD Try.prog .eql 67 (iD 1) (D.int .i64 1) = some true := by kernel_rfl
  simp only [c1, t2, hc1, hc2, Int.reduceToNat, List.getD_cons_zero, List.length_cons, List.length_nil, Option.getD_some, Option.isSome_some, Bool.and_self, true_and, forall_const]
  exact ⟨⟨by omega, by omega⟩, by omega, ⟨by omega, by omega⟩, by omega, ret_bd hbd rfl h⟩
end Go.Proofs.Ytfoblkeefpaceaa
end PartL4

section PartW3
/- The law of widths. -/
set_option linter.unusedSimpArgs false
set_option linter.unusedVariables false
set_option maxRecDepth 100000
namespace Go.Proofs.Ytfoblkeefpaceaa
open Go Go.Ab

theorem width_nil {S : Sy} {m p : Int} {e : Nd} {want : Int} (h : (widthR S m p e want).2 = []) : goodM S m p want = true ∧ dM S m p e want = [] ∧ (widthR S m p e want).1 = wM S m p e want := by
  unfold widthR at h ⊢
  cases hg : goodM S m p want with
  | false => rw [hg] at h; simp at h
  | true =>
    rw [hg] at h
    simp only [if_true] at h ⊢
    exact ⟨trivial, take20_nil.1 h, trivial⟩
theorem width_good {S : Sy} {m p : Int} {e : Nd} {want : Int} (hg : goodM S m p want = true) : widthR S m p e want = (wM S m p e want, (dM S m p e want).take 20) := by
  unfold widthR; rw [hg]; rfl
set_option maxHeartbeats 16000000 in
theorem law3_ac {S : Sy} (hS : S.Ok) (m p : Int) {e : Nd} (hok : e.Ok) (σ : St) (G : Glob) (R : A → St → Prop) (h : R (db true) σ) : AC Try.prog G 3 [.d (syD S), di m, di p, .d e.d] σ R := by
  have hsy : syD S = .agg [.sl 22 (S.mods.map moD), vrsD S.vars, .sl 12 (S.locks.map lkD), .sl 16 (S.procs.map prD), .sl 5 (S.threads.map thD)] := rfl
  rw [hsy, Nd.d_eq]
  refine ac_enterC [4, 7, 10] mixed Try.func3 rfl Try.ntmps3 (by simp only [go_sem]) fun hbd => ?_
  simp only [List.length_cons, List.length_nil, Nat.reduceAdd, Nat.reduceSub, List.replicate_succ, List.replicate_zero, List.cons_append, List.nil_append]
  simp only [go_sem, Try.results3]
  refine ac' (head_ac _ _ _ ?_)
  simp only [go_sem, Try.results3]
  refine aw_cut (fun fr st => shortM S = true ∧ smallM e = true ∧ usableM S = true ∧ fr = [.any, di m, di p, .any, .ref σ.length 0, .any, .any, .ref (σ.length + 1) 0, .any, db true, .any, .any, .any, .any, .any, .any, .any, .any, .any, .any, .any, .any, .any, .any, .any, .any, .any, .any, .any, .any, .any, .any, .any, .any, .any, .any, .any, .any, .any, .any, .any, .any, .any, .any, .any, .any, .any, .any, .any, .any, .any, .any, .any, .any, .any, .any, .any, .any, .any, .any, .any, .any, .any, .any, .any, .any, .any, .any, .any, .any, .any, .any, .any, .any, .any, .any, .any, .any, .any, .any, .any, .any, .any, .any, .any, .any, .any, .any, .any, .any, .any, .any, .any, .any, .any, .any, .any] ∧ st = σ ++ [scs S, ncs e]) ?_ ?_
  · simp only [go_sem, Try.results3]
    rw [← hsy]
    refine ac' (short_ac S hS _ _ _ ?_)
    simp only [go_sem, Try.results3]
    refine ex' (.bool (smallM e)) ⟨fun q => ?_, ?_⟩
    · simp only [go_sem, Try.results3]
      rw [← Nd.d_eq]
      exact ⟨by simpa using q, ac' (small_ac hok _ _ _ ⟨rfl, rfl⟩)⟩
    simp only [go_sem, Try.results3]
    refine ⟨fun q => by simpa using q, ex' (.bool (usableM S)) ⟨fun q => ?_, ?_⟩⟩
    · simp only [go_sem, Try.results3]
      rw [← hsy]
      exact ⟨by simpa using q, ac' (rusable_ac S hS _ _ _ ⟨rfl, rfl⟩)⟩
    simp only [go_sem, Try.results3]
    refine ⟨fun c => ret_bd hbd rfl h, fun c => ?_⟩
    simp only [Bool.or_eq_false_iff, Bool.not_eq_false'] at c
    exact Wk.keep [1, 2, 4, 7, 9] [0, 1] (by decide) (Nat.le_refl _) hbd ⟨c.1.1, c.1.2, c.2, by (simp only [go_sem]) <;> rfl, by (simp only [go_sem]) <;> rfl⟩
  rintro fr st ⟨h1, h2, h3, rfl, rfl⟩
  have hsf := short_fit h1
  have hn : e.nodes ≤ 10000 := by unfold smallM at h2; simp at h2; omega
  obtain ⟨w, d, hwd⟩ : ∃ w d, widthR S m p e 0 = (w, d) := ⟨_, _, rfl⟩
  simp only [go_sem, Try.results3]
  rw [← hsy, ← Nd.d_eq]
  refine ac' (widthF_ac hS m p hok hn 0 _ _ _ ?_)
  rw [hwd]
  simp only [dgsD, List.length_map, go_sem, Try.results3]
  refine aw_cut (fun fr st => d = [] ∧ fr = [.any, di m, di p, .any, .ref σ.length 0, .any, .any, .ref (σ.length + 1) 0, .any, db true, di w, .any, .any, .any, .any, .any, .any, .any, .any, .any, .any, .any, .any, .any, .any, .any, .any, .any, .any, .any, .any, .any, .any, .any, .any, .any, .any, .any, .any, .any, .any, .any, .any, .any, .any, .any, .any, .any, .any, .any, .any, .any, .any, .any, .any, .any, .any, .any, .any, .any, .any, .any, .any, .any, .any, .any, .any, .any, .any, .any, .any, .any, .any, .any, .any, .any, .any, .any, .any, .any, .any, .any, .any, .any, .any, .any, .any, .any, .any, .any, .any, .any, .any, .any, .any, .any, .any] ∧ st = σ ++ [scs S, ncs e]) ?_ ?_
  · simp only [List.length_map, go_sem, Try.results3]
    refine ⟨fun c => ret_bd hbd rfl h, fun c => ?_⟩
    have hd : d = [] := by
      have : ¬ (0 : Int) < (d.length : Int) := of_decide_eq_false c
      exact List.length_eq_zero_iff.1 (by omega)
    exact Wk.keep [1, 2, 4, 7, 9, 10] [0, 1] (by decide) (Nat.le_refl _) hbd ⟨hd, by (simp only [go_sem]) <;> rfl, by (simp only [go_sem]) <;> rfl⟩
  rintro fr st ⟨rfl, rfl, rfl⟩
  obtain ⟨g1, g2, g3⟩ := width_nil (S := S) (m := m) (p := p) (e := e) (want := 0) (by rw [hwd])
  rw [hwd] at g3
  have g3 : w = wM S m p e 0 := g3
  obtain ⟨o, ho⟩ : ∃ o, o = ownM (den (declM S m p) []) e := ⟨_, rfl⟩
  have law := fun (v : Int) (hv : 1 ≤ v ∧ v ≤ 8) => widths_law g1 g2 hv
  rw [← ho, ← g3] at law
  have howw : o ≠ 0 → o = w := (law 1 (by omega)).2.2.2.2
  simp only [go_sem, Try.results3]
  have hcx : cxD S m p false = .agg [.sl 22 (S.mods.map moD), vrsD S.vars, .sl 12 (S.locks.map lkD), .sl 16 (S.procs.map prD), .sl 5 (S.threads.map thD), iD m, iD p, .nils, .bool false] := rfl
  rw [← hcx, ← Nd.d_eq]
  refine ac' (rown_ac S hS m p false G e hok _ _ ?_)
  rw [← ho]
  simp only [go_sem, Try.results3]
  refine aw_cut (fun fr st => fr = [.any, di m, di p, .any, .ref σ.length 0, .any, .any, .ref (σ.length + 1) 0, .any, db true, di w, .any, di o, .any, .any, .any, .any, .any, .any, .any, .any, .any, .any, .any, .any, .any, .any, .any, .any, .any, .any, .any, .any, .any, .any, .any, .any, .any, .any, .any, .any, .any, .any, .any, .any, .any, .any, .any, .any, .any, .any, .any, .any, .any, .any, .any, .any, .any, .any, .any, .any, .any, .any, .any, .any, .any, .any, .any, .any, .any, .any, .any, .any, .any, .any, .any, .any, .any, .any, .any, .any, .any, .any, .any, .any, .any, .any, .any, .any, .any, .any, .any, .any, .any, .any, .any, .any] ∧ st = σ ++ [scs S, ncs e]) ?_ ?_
  · have hc : (o != 0 && o != w) = false := by
      by_cases h0 : o = 0
      · simp [h0]
      · simp [howw h0]
    simp only [go_sem, hc, Try.results3]
    exact Wk.keep [1, 2, 4, 7, 9, 10, 12] [0, 1] (by decide) (Nat.le_refl _) hbd ⟨by (simp only [go_sem]) <;> rfl, by (simp only [go_sem]) <;> rfl⟩
  rintro fr st ⟨rfl, rfl⟩
  simp only [go_sem, Try.results3]
  refine aw_loop (fun q fr st => ∃ v : Nat, 1 ≤ v ∧ v ≤ 9 ∧ q = 9 - v ∧ fr = [.any, di m, di p, .any, .ref σ.length 0, .any, .any, .ref (σ.length + 1) 0, .any, db true, di w, .any, di o, dn v, .any, .any, .any, .any, .any, .any, .any, .any, .any, .any, .any, .any, .any, .any, .any, .any, .any, .any, .any, .any, .any, .any, .any, .any, .any, .any, .any, .any, .any, .any, .any, .any, .any, .any, .any, .any, .any, .any, .any, .any, .any, .any, .any, .any, .any, .any, .any, .any, .any, .any, .any, .any, .any, .any, .any, .any, .any, .any, .any, .any, .any, .any, .any, .any, .any, .any, .any, .any, .any, .any, .any, .any, .any, .any, .any, .any, .any, .any, .any, .any, .any, .any, .any] ∧ st = σ ++ [scs S, ncs e]) 8 _ ?_ ?_
  · exact Wk.keep [1, 2, 4, 7, 9, 10, 12, 13] [0, 1] (by decide) (Nat.le_refl _) hbd ⟨1, by omega, by omega, by omega, by (simp only [go_sem]) <;> rfl, by (simp only [go_sem]) <;> rfl⟩
  rintro q fr st ⟨v, hv1, hv9, hq, rfl, rfl⟩
  rcases Nat.lt_or_ge v 9 with hlt | hge
  · have hd : decide ((v : Int) ≤ 8) = true := decide_eq_true (by omega)
    have w1 := wrapS v (by omega)
    obtain ⟨l1, l2, l3, l4, -⟩ := law v (by omega)
    simp only [go_sem, hd, Try.results3]
    rw [← hsy, ← Nd.d_eq]
    refine ac' (widthF_ac hS m p hok hn v _ _ _ ?_)
    rw [width_good l1, l2]
    obtain ⟨d, hd2⟩ : ∃ d, d = (dM S m p e v).take 20 := ⟨_, rfl⟩
    rw [← hd2]
    simp only [dgsD, List.length_map, go_sem, w1, Try.results3]
    have hz : ((v : Int) != (v : Int) || (v : Int) == w && decide (0 < (d.length : Int)) || (v : Int) != w && o != 0 && (d.length : Int) == 0) = false := by
      have x1 : ((v : Int) != (v : Int)) = false := by simp
      rw [x1, Bool.false_or]
      by_cases hvw : (v : Int) = w
      · have hd0 : d = [] := by rw [hd2, l3 hvw]; rfl
        subst hd0
        simp [hvw]
      · by_cases h0 : o = 0
        · simp [h0, hvw]
        · have hd0 : d ≠ [] := by rw [hd2]; exact fun hh => l4 hvw h0 (take20_nil.1 hh)
          simp [hvw, h0, hd0]
    rw [hz]
    refine ⟨fun a => ⟨a, fun b => by rw [a, b]; rfl⟩, fun a => ⟨a, fun b => by rw [a, b]; rfl⟩, fun a => ⟨a, fun b => by rw [a, b]; rfl⟩, fun c => Bool.noConfusion c, fun _ => ?_⟩
    exact Wk.keep [1, 2, 4, 7, 9, 10, 12, 13] [0, 1] (by decide) (Nat.le_refl _) hbd ⟨9 - (v + 1), by omega, v + 1, by omega, by omega, rfl, by (simp only [go_sem]) <;> rfl, by (simp only [go_sem]) <;> rfl⟩
  · have hd : decide ((v : Int) ≤ 8) = false := decide_eq_false (by omega)
    simp only [go_sem, hd, Try.results3]
    exact ret_bd hbd rfl h
end Go.Proofs.Ytfoblkeefpaceaa
end PartW3

section PartL6
/- The law package: one declaration's trees alone. -/
set_option linter.unusedSimpArgs false
set_option linter.unusedVariables false
set_option maxRecDepth 100000
namespace Go.Proofs.Ytfoblkeefpaceaa
open Go Go.Ab

theorem mid_take {P M : List A} {n : Nat} (h : P.length = n) (k : Nat) : (P ++ M).take (n + k) = P ++ M.take k := by
  subst h; rw [List.take_length_add_append]
theorem mid_drop {P M : List A} {n : Nat} (h : P.length = n) (k : Nat) : (P ++ M).drop (n + k) = M.drop k := by
  subst h; rw [List.drop_length_add_append]
abbrev nilsy : Option Ob := some (.cells [.d .nils, .d .nils, .d .nils, .d .nils, .d .nils])
abbrev ncs0 : Option Ob := some (.cells [di 63, .d (.str []), .d (.str []), di 0, di 0, di 0, db false, .d .nils, di 0])
abbrev ndZ : List D := [iD 63, .str [], .str [], iD 0, iD 0, iD 0, .bool false, .nils, iD 0]
/-- Declarations without trees, as they lie. -/
def moZ (m : Mo) : D := .agg ([.str m.name, .str m.owner] ++ ndZ ++ ndZ ++ [.nils, iD m.pos])
def lkZ (l : Lk) : D := .agg ([.str l.name, iD l.mod] ++ ndZ ++ [iD l.pos])
def prZ (p : Pr) : D := .agg ([.str p.name, iD p.mod, vrsD p.params, vrsD p.locals, .str p.locked] ++ ndZ ++ [isD p.calls, iD p.pos])
def pickD {α : Type} (f g : α → D) (a : Int) (l : List α) : List D := l.zipIdx.map fun x => if (x.2 : Int) = a then f x.1 else g x.1
theorem pick_len {α : Type} (f g : α → D) (a : Int) (l : List α) : (pickD f g a l).length = l.length := by simp [pickD]
theorem pick_take {α : Type} (f g : α → D) (a : Int) (l : List α) (d : α) {j : Nat} (h : j < l.length) : (pickD f g a l).take (j + 1) = (pickD f g a l).take j ++ [if (j : Int) = a then f (l.getD j d) else g (l.getD j d)] := by
  rw [List.take_add_one]
  congr 1
  unfold pickD
  rw [List.getElem?_map, List.getElem?_zipIdx, List.getElem?_eq_getElem h]
  simp only [Option.map_some, Nat.zero_add, Option.toList_some]
  rw [List.getD_eq_getElem?_getD, List.getElem?_eq_getElem h]; rfl
theorem map_drop {α : Type} (f : α → D) (l : List α) (d : α) {j : Nat} (h : j < l.length) : (l.map f).drop j = f (l.getD j d) :: (l.map f).drop (j + 1) := by
  rw [← List.map_drop, drop_getD d h, List.map_cons, List.map_drop]
theorem flat_cons' (x : D) (l : List D) : flat (x :: l) = x.cells.map .d ++ flat l := by simp [flat]
theorem mo_cells (m : Mo) : (moD m).cells.length = 22 := rfl
theorem lk_cells (m : Lk) : (lkD m).cells.length = 12 := rfl
theorem pr_cells (m : Pr) : (prD m).cells.length = 16 := rfl
theorem pick_flat {α : Type} {f g : α → D} {sz : Nat} (hf : ∀ x, (f x).cells.length = sz) (hg : ∀ x, (g x).cells.length = sz) (a : Int) (l : List α) {j : Nat} (h : j ≤ l.length) : (flat ((pickD f g a l).take j)).length = j * sz := by
  rw [flat_len (sz := sz)]
  · rw [List.length_take, pick_len, Nat.min_eq_left h]
  · intro x hx
    have hx := List.mem_of_mem_take hx
    unfold pickD at hx
    obtain ⟨y, -, rfl⟩ := List.mem_map.1 hx
    split
    · exact hf _
    · exact hg _
theorem nil_maps {β : Type} {u v : β → D} (h : ∀ x, NilD (u x) (v x)) : ∀ l : List β, NilDL (l.map u) (l.map v)
  | [] => .nil
  | x :: r => .cons (h x) (nil_maps h r)
theorem nil_pick {α : Type} {f g : α → D} {z : α → α} (hz : ∀ x, NilD (g x) (f (z x))) (a : Int) (l : List α) : NilDL (pickD f g a l) ((l.zipIdx.map fun x => if (x.2 : Int) = a then x.1 else z x.1).map f) := by
  unfold pickD
  rw [List.map_map]
  refine nil_maps (fun x => ?_) _
  simp only [Function.comp_def]
  split
  · exact .refl _
  · exact hz _
theorem nil_mo (m : Mo) : NilD (moZ m) (moD { m with rely := Nd.none, guar := Nd.none, frame := [] }) := .agg (.cons (.refl _) (.cons (.refl _) (.cons (.refl _) (.cons (.refl _) (.cons (.refl _) (.cons (.refl _) (.cons (.refl _) (.cons (.refl _) (.cons (.refl _) (.cons (.nil 9) (.cons (.refl _) (.cons (.refl _) (.cons (.refl _) (.cons (.refl _) (.cons (.refl _) (.cons (.refl _) (.cons (.refl _) (.cons (.refl _) (.cons (.nil 9) (.cons (.refl _) (.cons (.nil 9) (.cons (.refl _) (.nil)))))))))))))))))))))))
theorem nil_lk (l : Lk) : NilD (lkZ l) (lkD { l with inv := Nd.none }) := .agg (.cons (.refl _) (.cons (.refl _) (.cons (.refl _) (.cons (.refl _) (.cons (.refl _) (.cons (.refl _) (.cons (.refl _) (.cons (.refl _) (.cons (.refl _) (.cons (.nil 9) (.cons (.refl _) (.cons (.refl _) (.nil)))))))))))))
theorem nil_pr (l : Pr) : NilD (prZ l) (prD { l with body := Nd.none }) := .agg (.cons (.refl _) (.cons (.refl _) (.cons (.refl _) (.cons (.refl _) (.cons (.refl _) (.cons (.refl _) (.cons (.refl _) (.cons (.refl _) (.cons (.refl _) (.cons (.refl _) (.cons (.refl _) (.cons (.refl _) (.cons (.nil 9) (.cons (.refl _) (.cons (.refl _) (.cons (.refl _) (.nil)))))))))))))))))
theorem lies_pick {α : Type} {f g : α → D} {sz : Nat} (hf : ∀ x, (f x).cells.length = sz) (hg : ∀ x, (g x).cells.length = sz) (of : ∀ x, (f x).cells.all D.one = true) (og : ∀ x, (g x).cells.all D.one = true) (a : Int) (l : List α) : Lies (flat (pickD f g a l)) sz 0 (pickD f g a l) := by
  refine lies_of fun x hx => ?_
  unfold pickD at hx
  obtain ⟨y, -, rfl⟩ := List.mem_map.1 hx
  split
  · exact ⟨hf _, List.all_eq_true.1 (of _)⟩
  · exact ⟨hg _, List.all_eq_true.1 (og _)⟩
set_option maxHeartbeats 8000000 in
theorem only_gen {S : Sy} (hS : S.Ok) (hs1 : S.mods.length ≤ 12) (hs2 : S.locks.length ≤ 12) (hs3 : S.procs.length ≤ 12) (a b c : Int) (σ : St) (G : Glob) (R : A → St → Prop) (h : Bd σ.length σ → ∀ o1 o2 o3 o4 : Option Ob, ∃ r σ', Weak G σ.length [A.agg [A.rs (σ.length + 4) 22 0 S.mods.length (some 59), A.d (vrsD S.vars), A.rs (σ.length + 5) 12 0 S.locks.length (some 61), A.rs (σ.length + 6) 16 0 S.procs.length (some 63), A.d (D.sl 5 (S.threads.map thD))]] (σ ++ [o1, o2, o3, o4, some (.cells (flat (pickD moD moZ a S.mods))), some (.cells (flat (pickD lkD lkZ b S.locks))), some (.cells (flat (pickD prD prZ c S.procs)))]) [r] σ' ∧ R r σ') : AC Try.prog G 18 [.d (syD S), di a, di b, di c] σ R := by
  have hre : reachBytes < 9223372036854775806 := by decide
  have hl := hS.mods
  have hlv := hS.vars
  have hll := hS.locks
  have hlp := hS.procs
  have hsy : syD S = .agg [.sl 22 (S.mods.map moD), vrsD S.vars, .sl 12 (S.locks.map lkD), .sl 16 (S.procs.map prD), .sl 5 (S.threads.map thD)] := rfl
  rw [hsy]
  refine ac_enterC [6] mixed Try.func18 rfl Try.ntmps18 (by simp only [go_sem]) fun hbd => ?_
  simp only [List.length_cons, List.length_nil, Nat.reduceAdd, Nat.reduceSub, List.replicate_succ, List.replicate_zero, List.cons_append, List.nil_append]
  simp only [go_sem, List.length_map, Try.results18]
  obtain ⟨outO, hout⟩ : ∃ o : Option Ob, o = some (.cells [.rs (σ.length + 4) 22 0 S.mods.length (some 59), .d (vrsD S.vars), .rs (σ.length + 5) 12 0 S.locks.length (some 61), .rs (σ.length + 6) 16 0 S.procs.length (some 63), .d (.sl 5 (S.threads.map thD))]) := ⟨_, rfl⟩
  refine ⟨⟨by simp only [maxLen]; omega, by omega⟩, ⟨by simp only [maxLen]; omega, by omega⟩, ?_⟩
  refine aw_cut (fun fr st => fr = [.any, di a, di b, di c, .ref σ.length 0, .any, .any, .any, .ref (σ.length + 1) 0, .ref (σ.length + 2) 0, .ref (σ.length + 3) 0, .any, .any, .any, .any, .any, .any, .any, .any, .any, .any, .any, .any, .any, .any, .any, .any, .any, .any, .any, .any, .any, .any, .any, .any, .any, .any, .any, .any, .any, .any, .any, .any, .any, .any, .any, .any, .any, .any, .any, .any, .any, .any, .any, .any, .any, .any, .any, .any, .any, .any, .any, .any, .any, .any, .any, .any, .any, .any, .any, .any, .any, .any, .any, .any, .any, .any, .any, .any, .any, .any, .any, .any, .any, .any, .any, .any, .any, .any, .any, .any] ∧
    st = σ ++ [scs S, nilsy, ncs0, some (.cells [.rs (σ.length + 4) 22 0 S.mods.length (some 59), .d (vrsD S.vars), .rs (σ.length + 5) 12 0 S.locks.length (some 61), .rs (σ.length + 6) 16 0 S.procs.length (some 63), .d (.sl 5 (S.threads.map thD))]), some (.cells (flat (S.mods.map moD))), some (.cells (flat (S.locks.map lkD))), some (.cells (flat (S.procs.map prD)))]) ?_ ?_
  · simp only [go_sem, List.length_map, Try.results18]
    refine ⟨⟨by simp only [maxLen]; omega, by omega⟩, ?_⟩
    exact Wk.keep [1, 2, 3, 4, 8, 9, 10] [0, 1, 2, 3, 5, 7, 9] (by decide) (Nat.le_refl _) hbd ⟨by (simp only [go_sem]) <;> rfl, by (simp only [go_sem]) <;> rfl⟩
  rintro fr st ⟨rfl, rfl⟩
  simp only [go_sem, Try.results18]
  refine aw_loop (fun m fr st => ∃ j : Nat, j ≤ S.mods.length ∧ m = S.mods.length - j ∧ fr = [.any, di a, di b, di c, .ref σ.length 0, .any, .any, .any, .ref (σ.length + 1) 0, .ref (σ.length + 2) 0, .ref (σ.length + 3) 0, dn j, .any, .any, .any, .any, .any, .any, .any, .any, .any, .any, .any, .any, .any, .any, .any, .any, .any, .any, .any, .any, .any, .any, .any, .any, .any, .any, .any, .any, .any, .any, .any, .any, .any, .any, .any, .any, .any, .any, .any, .any, .any, .any, .any, .any, .any, .any, .any, .any, .any, .any, .any, .any, .any, .any, .any, .any, .any, .any, .any, .any, .any, .any, .any, .any, .any, .any, .any, .any, .any, .any, .any, .any, .any, .any, .any, .any, .any, .any, .any] ∧
    st = σ ++ [scs S, nilsy, ncs0, some (.cells [.rs (σ.length + 4) 22 0 S.mods.length (some 59), .d (vrsD S.vars), .rs (σ.length + 5) 12 0 S.locks.length (some 61), .rs (σ.length + 6) 16 0 S.procs.length (some 63), .d (.sl 5 (S.threads.map thD))]), some (.cells (flat ((pickD moD moZ a S.mods).take j) ++ flat ((S.mods.map moD).drop j))), some (.cells (flat (S.locks.map lkD))), some (.cells (flat (S.procs.map prD)))]) S.mods.length _ ?_ ?_
  · exact Wk.mask [1, 2, 3, 4, 8, 9, 10, 11] ⟨0, by omega, by omega, rfl, rfl⟩
  rintro m fr st ⟨j, hj, hm, rfl, rfl⟩
  rcases Nat.lt_or_ge j S.mods.length with hlt | hge
  · have hd : decide ((j : Int) < (S.mods.length : Int)) = true := by simp; omega
    have w1 := wrapS j (by omega)
    have e1 := map_drop moD S.mods mo0 hlt
    have e2 := pick_take moD moZ a S.mods mo0 hlt
    have hP := pick_flat mo_cells (fun m => rfl : ∀ m, (moZ m).cells.length = 22) a S.mods hj
    generalize S.mods.getD j mo0 = v at e1 e2
    rw [e1, flat_cons']
    by_cases hja : (j : Int) = a
    · have hb : ((j : Int) != a) = false := by simpa using hja
      simp only [go_sem, List.length_map, hd, w1, hb, Try.results18]
      refine Wk.mask [1, 2, 3, 4, 8, 9, 10, 11] ⟨S.mods.length - (j + 1), by omega, j + 1, by omega, rfl, rfl, ?_⟩
      rw [e2, if_pos hja, flat_append, flat_cons', List.append_assoc, List.append_assoc]; rfl
    · have hb : ((j : Int) != a) = true := by simpa using hja
      have t1 := fun (M : List A) (k : Nat) => mid_take (M := M) hP k
      have d1 := fun (M : List A) (k : Nat) => mid_drop (M := M) hP k
      have hvd : (moD v).cells.map A.d = [.d (.str v.name), .d (.str v.owner), di v.rely.kind, .d (.str v.rely.name), .d (.str v.rely.other), di v.rely.n, di v.rely.len, di v.rely.init, db v.rely.ghost, .d (.sl 9 (v.rely.kids.map Nd.d)), di v.rely.pos, di v.guar.kind, .d (.str v.guar.name), .d (.str v.guar.other), di v.guar.n, di v.guar.len, di v.guar.init, db v.guar.ghost, .d (.sl 9 (v.guar.kids.map Nd.d)), di v.guar.pos, .d (.sl 9 (v.frame.map Nd.d)), di v.pos] := rfl
      rw [hvd]
      simp only [go_sem, List.length_map, hd, w1, hb, hP, t1, d1, Nat.add_assoc, Nat.reduceAdd, List.append_assoc, List.cons_append, List.nil_append, List.take_succ_cons, List.drop_succ_cons, List.take_zero, List.drop_zero, Try.results18]
      refine ⟨⟨by omega, by omega⟩, by omega, ⟨by omega, by omega⟩, by omega, ⟨by omega, by omega⟩, by omega, ?_⟩
      refine Wk.mask [1, 2, 3, 4, 8, 9, 10, 11] ⟨S.mods.length - (j + 1), by omega, j + 1, by omega, rfl, rfl, ?_⟩
      rw [e2, if_neg hja, flat_append, flat_cons', List.append_assoc]; rfl
  have hd : decide ((j : Int) < (S.mods.length : Int)) = false := by simp; omega
  obtain rfl : j = S.mods.length := by omega
  have e3 : (pickD moD moZ a S.mods).take S.mods.length = pickD moD moZ a S.mods := List.take_of_length_le (by rw [pick_len]; exact Nat.le_refl _)
  have e4 : (S.mods.map moD).drop S.mods.length = [] := List.drop_of_length_le (by rw [List.length_map]; exact Nat.le_refl _)
  have e5 : flat [] = [] := rfl
  simp only [go_sem, List.length_map, hd, e3, e4, e5, List.append_nil, Try.results18]
  clear hd e3 e4 hge hm hj
  refine aw_loop (fun m fr st => ∃ j : Nat, j ≤ S.locks.length ∧ m = S.locks.length - j ∧ fr = [.any, di a, di b, di c, .ref σ.length 0, .any, .any, .any, .ref (σ.length + 1) 0, .ref (σ.length + 2) 0, .ref (σ.length + 3) 0, .any, dn j, .any, .any, .any, .any, .any, .any, .any, .any, .any, .any, .any, .any, .any, .any, .any, .any, .any, .any, .any, .any, .any, .any, .any, .any, .any, .any, .any, .any, .any, .any, .any, .any, .any, .any, .any, .any, .any, .any, .any, .any, .any, .any, .any, .any, .any, .any, .any, .any, .any, .any, .any, .any, .any, .any, .any, .any, .any, .any, .any, .any, .any, .any, .any, .any, .any, .any, .any, .any, .any, .any, .any, .any, .any, .any, .any, .any, .any, .any] ∧
    st = σ ++ [scs S, nilsy, ncs0, some (.cells [.rs (σ.length + 4) 22 0 S.mods.length (some 59), .d (vrsD S.vars), .rs (σ.length + 5) 12 0 S.locks.length (some 61), .rs (σ.length + 6) 16 0 S.procs.length (some 63), .d (.sl 5 (S.threads.map thD))]), some (.cells (flat (pickD moD moZ a S.mods))), some (.cells (flat ((pickD lkD lkZ b S.locks).take j) ++ flat ((S.locks.map lkD).drop j))), some (.cells (flat (S.procs.map prD)))]) S.locks.length _ ?_ ?_
  · refine Wk.mask [1, 2, 3, 4, 8, 9, 10, 12] ⟨0, by omega, by omega, rfl, rfl⟩
  rintro m fr st ⟨j, hj, hm, rfl, rfl⟩
  rcases Nat.lt_or_ge j S.locks.length with hlt | hge
  · have hd : decide ((j : Int) < (S.locks.length : Int)) = true := by simp; omega
    have w1 := wrapS j (by omega)
    have e1 := map_drop lkD S.locks lk0 hlt
    have e2 := pick_take lkD lkZ b S.locks lk0 hlt
    have hP := pick_flat lk_cells (fun m => rfl : ∀ m, (lkZ m).cells.length = 12) b S.locks hj
    generalize S.locks.getD j lk0 = v at e1 e2
    rw [e1, flat_cons']
    by_cases hja : (j : Int) = b
    · have hb : ((j : Int) != b) = false := by simpa using hja
      simp only [go_sem, List.length_map, hd, w1, hb, Try.results18]
      refine Wk.mask [1, 2, 3, 4, 8, 9, 10, 12] ⟨S.locks.length - (j + 1), by omega, j + 1, by omega, rfl, rfl, ?_⟩
      rw [e2, if_pos hja, flat_append, flat_cons', List.append_assoc, List.append_assoc]; rfl
    · have hb : ((j : Int) != b) = true := by simpa using hja
      have t1 := fun (M : List A) (k : Nat) => mid_take (M := M) hP k
      have d1 := fun (M : List A) (k : Nat) => mid_drop (M := M) hP k
      have hvd : (lkD v).cells.map A.d = [.d (.str v.name), di v.mod, di v.inv.kind, .d (.str v.inv.name), .d (.str v.inv.other), di v.inv.n, di v.inv.len, di v.inv.init, db v.inv.ghost, .d (.sl 9 (v.inv.kids.map Nd.d)), di v.inv.pos, di v.pos] := rfl
      rw [hvd]
      simp only [go_sem, List.length_map, hd, w1, hb, hP, t1, d1, Nat.add_assoc, Nat.reduceAdd, List.append_assoc, List.cons_append, List.nil_append, List.take_succ_cons, List.drop_succ_cons, List.take_zero, List.drop_zero, Try.results18]
      refine ⟨⟨by omega, by omega⟩, by omega, ?_⟩
      refine Wk.mask [1, 2, 3, 4, 8, 9, 10, 12] ⟨S.locks.length - (j + 1), by omega, j + 1, by omega, rfl, rfl, ?_⟩
      rw [e2, if_neg hja, flat_append, flat_cons', List.append_assoc]; rfl
  have hd : decide ((j : Int) < (S.locks.length : Int)) = false := by simp; omega
  obtain rfl : j = S.locks.length := by omega
  have e3 : (pickD lkD lkZ b S.locks).take S.locks.length = pickD lkD lkZ b S.locks := List.take_of_length_le (by rw [pick_len]; exact Nat.le_refl _)
  have e4 : (S.locks.map lkD).drop S.locks.length = [] := List.drop_of_length_le (by rw [List.length_map]; exact Nat.le_refl _)
  have e5 : flat [] = [] := rfl
  simp only [go_sem, List.length_map, hd, e3, e4, e5, List.append_nil, Try.results18]
  clear hd e3 e4 hge hm hj
  refine aw_loop (fun m fr st => ∃ j : Nat, j ≤ S.procs.length ∧ m = S.procs.length - j ∧ fr = [.any, di a, di b, di c, .ref σ.length 0, .any, .any, .any, .ref (σ.length + 1) 0, .ref (σ.length + 2) 0, .ref (σ.length + 3) 0, .any, .any, dn j, .any, .any, .any, .any, .any, .any, .any, .any, .any, .any, .any, .any, .any, .any, .any, .any, .any, .any, .any, .any, .any, .any, .any, .any, .any, .any, .any, .any, .any, .any, .any, .any, .any, .any, .any, .any, .any, .any, .any, .any, .any, .any, .any, .any, .any, .any, .any, .any, .any, .any, .any, .any, .any, .any, .any, .any, .any, .any, .any, .any, .any, .any, .any, .any, .any, .any, .any, .any, .any, .any, .any, .any, .any, .any, .any, .any, .any] ∧
    st = σ ++ [scs S, nilsy, ncs0, some (.cells [.rs (σ.length + 4) 22 0 S.mods.length (some 59), .d (vrsD S.vars), .rs (σ.length + 5) 12 0 S.locks.length (some 61), .rs (σ.length + 6) 16 0 S.procs.length (some 63), .d (.sl 5 (S.threads.map thD))]), some (.cells (flat (pickD moD moZ a S.mods))), some (.cells (flat (pickD lkD lkZ b S.locks))), some (.cells (flat ((pickD prD prZ c S.procs).take j) ++ flat ((S.procs.map prD).drop j)))]) S.procs.length _ ?_ ?_
  · refine Wk.mask [1, 2, 3, 4, 8, 9, 10, 13] ⟨0, by omega, by omega, rfl, rfl⟩
  rintro m fr st ⟨j, hj, hm, rfl, rfl⟩
  rcases Nat.lt_or_ge j S.procs.length with hlt | hge
  · have hd : decide ((j : Int) < (S.procs.length : Int)) = true := by simp; omega
    have w1 := wrapS j (by omega)
    have e1 := map_drop prD S.procs pr0 hlt
    have e2 := pick_take prD prZ c S.procs pr0 hlt
    have hP := pick_flat pr_cells (fun m => rfl : ∀ m, (prZ m).cells.length = 16) c S.procs hj
    generalize S.procs.getD j pr0 = v at e1 e2
    rw [e1, flat_cons']
    by_cases hja : (j : Int) = c
    · have hb : ((j : Int) != c) = false := by simpa using hja
      simp only [go_sem, List.length_map, hd, w1, hb, Try.results18]
      refine Wk.mask [1, 2, 3, 4, 8, 9, 10, 13] ⟨S.procs.length - (j + 1), by omega, j + 1, by omega, rfl, rfl, ?_⟩
      rw [e2, if_pos hja, flat_append, flat_cons', List.append_assoc, List.append_assoc]; rfl
    · have hb : ((j : Int) != c) = true := by simpa using hja
      have t1 := fun (M : List A) (k : Nat) => mid_take (M := M) hP k
      have d1 := fun (M : List A) (k : Nat) => mid_drop (M := M) hP k
      have hvd : (prD v).cells.map A.d = [.d (.str v.name), di v.mod, .d (vrsD v.params), .d (vrsD v.locals), .d (.str v.locked), di v.body.kind, .d (.str v.body.name), .d (.str v.body.other), di v.body.n, di v.body.len, di v.body.init, db v.body.ghost, .d (.sl 9 (v.body.kids.map Nd.d)), di v.body.pos, .d (isD v.calls), di v.pos] := rfl
      rw [hvd]
      simp only [go_sem, List.length_map, hd, w1, hb, hP, t1, d1, Nat.add_assoc, Nat.reduceAdd, List.append_assoc, List.cons_append, List.nil_append, List.take_succ_cons, List.drop_succ_cons, List.take_zero, List.drop_zero, Try.results18]
      refine ⟨⟨by omega, by omega⟩, by omega, ?_⟩
      refine Wk.mask [1, 2, 3, 4, 8, 9, 10, 13] ⟨S.procs.length - (j + 1), by omega, j + 1, by omega, rfl, rfl, ?_⟩
      rw [e2, if_neg hja, flat_append, flat_cons', List.append_assoc]; rfl
  have hd : decide ((j : Int) < (S.procs.length : Int)) = false := by simp; omega
  obtain rfl : j = S.procs.length := by omega
  have e3 : (pickD prD prZ c S.procs).take S.procs.length = pickD prD prZ c S.procs := List.take_of_length_le (by rw [pick_len]; exact Nat.le_refl _)
  have e4 : (S.procs.map prD).drop S.procs.length = [] := List.drop_of_length_le (by rw [List.length_map]; exact Nat.le_refl _)
  have e5 : flat [] = [] := rfl
  simp only [go_sem, List.length_map, hd, e3, e4, e5, List.append_nil, Try.results18]
  clear hd e3 e4 hge hm hj
  exact h hbd _ _ _ _
theorem only_ac {S : Sy} (hS : S.Ok) (hs1 : S.mods.length ≤ 12) (hs2 : S.locks.length ≤ 12) (hs3 : S.procs.length ≤ 12) (a b c : Int) (σ : St) (G : Glob) (R : A → St → Prop) (h : R (.d (syD (onlyM S a b c))) σ) : AC Try.prog G 18 [.d (syD S), di a, di b, di c] σ R := by
  refine only_gen hS hs1 hs2 hs3 a b c σ G R fun hbd o1 o2 o3 o4 => ?_
  have x1 : A.frz (σ.length + 4) 22 0 (pickD moD moZ a S.mods) (.agg [.rs (σ.length + 4) 22 0 S.mods.length (some 59), .d (vrsD S.vars), .rs (σ.length + 5) 12 0 S.locks.length (some 61), .rs (σ.length + 6) 16 0 S.procs.length (some 63), .d (.sl 5 (S.threads.map thD))]) = .agg [.d (.sl 22 (pickD moD moZ a S.mods)), .d (vrsD S.vars), .rs (σ.length + 5) 12 0 S.locks.length (some 61), .rs (σ.length + 6) 16 0 S.procs.length (some 63), .d (.sl 5 (S.threads.map thD))] := by
    simp [A.frz, frzL, mkAgg, pick_len]; rfl
  have x2 : A.frz (σ.length + 5) 12 0 (pickD lkD lkZ b S.locks) (.agg [.d (.sl 22 (pickD moD moZ a S.mods)), .d (vrsD S.vars), .rs (σ.length + 5) 12 0 S.locks.length (some 61), .rs (σ.length + 6) 16 0 S.procs.length (some 63), .d (.sl 5 (S.threads.map thD))]) = .agg [.d (.sl 22 (pickD moD moZ a S.mods)), .d (vrsD S.vars), .d (.sl 12 (pickD lkD lkZ b S.locks)), .rs (σ.length + 6) 16 0 S.procs.length (some 63), .d (.sl 5 (S.threads.map thD))] := by
    simp [A.frz, frzL, mkAgg, pick_len]; rfl
  have x3 : A.frz (σ.length + 6) 16 0 (pickD prD prZ c S.procs) (.agg [.d (.sl 22 (pickD moD moZ a S.mods)), .d (vrsD S.vars), .d (.sl 12 (pickD lkD lkZ b S.locks)), .rs (σ.length + 6) 16 0 S.procs.length (some 63), .d (.sl 5 (S.threads.map thD))]) = .d (.agg [.sl 22 (pickD moD moZ a S.mods), vrsD S.vars, .sl 12 (pickD lkD lkZ b S.locks), .sl 16 (pickD prD prZ c S.procs), .sl 5 (S.threads.map thD)]) := by
    simp [A.frz, frzL, mkAgg, pick_len]; rfl
  refine ret_frz 4 22 0 (pickD moD moZ a S.mods) rfl (lies_pick mo_cells (fun m => rfl) (fun m => rfl) (fun m => rfl) _ _) ?_
  rw [x1]
  refine ret_frz 5 12 0 (pickD lkD lkZ b S.locks) rfl (lies_pick lk_cells (fun m => rfl) (fun m => rfl) (fun m => rfl) _ _) ?_
  rw [x2]
  refine ret_frz 6 16 0 (pickD prD prZ c S.procs) rfl (lies_pick pr_cells (fun m => rfl) (fun m => rfl) (fun m => rfl) _ _) ?_
  rw [x3]
  refine ret_via (Weak.nils (.cons (.d (.agg ?_)) .nil)) (ret_bd hbd rfl h)
  exact .cons (.sl 22 (nil_pick nil_mo a S.mods)) (.cons (.refl _) (.cons (.sl 12 (nil_pick nil_lk b S.locks)) (.cons (.sl 16 (nil_pick nil_pr c S.procs)) (.cons (.refl _) .nil))))
/-- The same; the copies stay one's own. -/
theorem only_own {S : Sy} (hS : S.Ok) (hs1 : S.mods.length ≤ 12) (hs2 : S.locks.length ≤ 12) (hs3 : S.procs.length ≤ 12) (a b c : Int) (σ : St) (G : Glob) (R : A → St → Prop)
    (h : R (.agg [.rs σ.length 22 0 S.mods.length (some 59), .d (vrsD S.vars), .rs (σ.length + 1) 12 0 S.locks.length (some 61), .rs (σ.length + 2) 16 0 S.procs.length (some 63), .d (.sl 5 (S.threads.map thD))]) (σ ++ [some (.cells (flat (pickD moD moZ a S.mods))), some (.cells (flat (pickD lkD lkZ b S.locks))), some (.cells (flat (pickD prD prZ c S.procs)))])) : AC Try.prog G 18 [.d (syD S), di a, di b, di c] σ R := by
  refine only_gen hS hs1 hs2 hs3 a b c σ G R fun hbd o1 o2 o3 o4 => ?_
  refine ret_keep [4, 5, 6] (by decide) hbd ?_
  simp only [go_sem]
  exact h
end Go.Proofs.Ytfoblkeefpaceaa
end PartL6
