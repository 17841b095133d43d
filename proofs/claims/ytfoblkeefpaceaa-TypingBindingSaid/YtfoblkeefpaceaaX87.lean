import Derived.Test.YtfoblkeefpaceaaX86
import Derived.Test.YtfoblkeefpaceaaX85

section PartL2
/- The law package: short symbols. -/
set_option linter.unusedSimpArgs false
set_option linter.unusedVariables false
set_option maxRecDepth 100000
namespace Go.Proofs.Ytfoblkeefpaceaa
open Go Go.Ab

def shMo (m : Mo) : Bool := smallM m.rely && smallM m.guar && decide (m.frame.length ≤ 12)
def shPr (p : Pr) : Bool := smallM p.body && decide (p.params.length ≤ 12) && decide (p.locals.length ≤ 12)
def shortM (S : Sy) : Bool := decide (S.mods.length ≤ 12 ∧ S.vars.length ≤ 40 ∧ S.locks.length ≤ 12 ∧ S.procs.length ≤ 12 ∧ S.threads.length ≤ 12) && S.mods.all shMo && S.locks.all (fun l => smallM l.inv) && S.procs.all shPr
theorem small_fit {e : Nd} (h : smallM e = true) : FitB [] e := fit_nil (by unfold smallM at h; simp at h; omega)
theorem short_fit {S : Sy} (h : shortM S = true) : S.Fit := by
  unfold shortM at h
  simp only [Bool.and_eq_true, List.all_eq_true] at h
  obtain ⟨⟨⟨-, h1⟩, h2⟩, h3⟩ := h
  refine ⟨fun m hm => ?_, fun l hl => small_fit (h2 l hl), fun p hp => ?_⟩
  · have := h1 m hm
    unfold shMo at this
    simp only [Bool.and_eq_true] at this
    exact ⟨small_fit this.1.1, small_fit this.1.2⟩
  · have := h3 p hp
    unfold shPr at this
    simp only [Bool.and_eq_true] at this
    exact small_fit this.1.1
set_option maxHeartbeats 8000000 in
theorem short_ac (S : Sy) (hS : S.Ok) (σ : St) (G : Glob) (R : A → St → Prop) (h : R (db (shortM S)) σ) : AC Try.prog G 10 [.d (syD S)] σ R := by
  have hre : reachBytes < 9223372036854775806 := by decide
  have hl := hS.mods
  have hlv := hS.vars
  have hll := hS.locks
  have hlp := hS.procs
  have hsy : syD S = .agg [.sl 22 (S.mods.map moD), .sl 7 (S.vars.map vrD), .sl 12 (S.locks.map lkD), .sl 16 (S.procs.map prD), .sl 5 (S.threads.map thD)] := rfl
  rw [hsy]
  refine ac_enter mixed Try.func10 rfl Try.ntmps10 (by simp only [go_sem]) fun hbd => ?_
  simp only [List.length_cons, List.length_nil, Nat.reduceAdd, Nat.reduceSub, List.replicate_succ, List.replicate_zero, List.cons_append, List.nil_append]
  obtain ⟨b, hb⟩ : ∃ b, b = decide (S.mods.length ≤ 12 ∧ S.vars.length ≤ 40 ∧ S.locks.length ≤ 12 ∧ S.procs.length ≤ 12 ∧ S.threads.length ≤ 12) := ⟨_, rfl⟩
  have hc : (decide (12 < (S.mods.length : Int)) || decide (40 < (S.vars.length : Int)) || decide (12 < (S.locks.length : Int)) || decide (12 < (S.procs.length : Int)) || decide (12 < (S.threads.length : Int))) = !b := by
    rw [hb, Bool.eq_iff_iff]; simp; omega
  simp only [go_sem, List.length_map, hc, Try.results10]
  cases b with
  | false =>
    have : shortM S = false := by unfold shortM; rw [← hb]; rfl
    rw [this] at h
    simp only [Bool.not_false]
    exact ⟨fun _ => ret_bd hbd rfl h, fun c => Bool.noConfusion c⟩
  | true =>
  simp only [Bool.not_true]
  refine ⟨fun c => Bool.noConfusion c, fun _ => ?_⟩
  have hu : shortM S = (S.mods.all shMo && S.locks.all (fun l => smallM l.inv) && S.procs.all shPr) := by unfold shortM; rw [← hb]; rfl
  clear hc hb
  refine aw_loop (fun m fr st => ∃ j : Nat, j ≤ S.mods.length ∧ m = S.mods.length - j ∧ (S.mods.take j).all shMo = true ∧ fr = [.any, .ref σ.length 0, .any, dn j, .any, .any, .any, .any, .any, .any, .any, .any, .any, .any, .any, .any, .any, .any, .any, .any, .any, .any, .any, .any, .any, .any, .any, .any, .any, .any, .any, .any, .any, .any, .any, .any, .any, .any, .any, .any, .any, .any, .any, .any, .any, .any, .any, .any, .any, .any, .any, .any, .any, .any, .any, .any, .any, .any, .any, .any, .any, .any, .any, .any, .any, .any, .any, .any, .any, .any, .any, .any, .any, .any, .any, .any, .any, .any, .any, .any, .any, .any, .any, .any, .any, .any, .any, .any, .any, .any, .any, .any, .any, .any, .any, .any, .any, .any, .any, .any, .any, .any, .any, .any, .any, .any, .any] ∧ st = σ ++ [some (.cells [.d (.sl 22 (S.mods.map moD)), .d (.sl 7 (S.vars.map vrD)), .d (.sl 12 (S.locks.map lkD)), .d (.sl 16 (S.procs.map prD)), .d (.sl 5 (S.threads.map thD))])]) S.mods.length _
    (Wk.mask [1, 3] ⟨0, by omega, by omega, rfl, rfl, rfl⟩) ?_
  rintro m fr st ⟨j, hj, hm, ha, rfl, rfl⟩
  rcases Nat.lt_or_ge j S.mods.length with hlt | hge
  · have hd : decide ((j : Int) < (S.mods.length : Int)) = true := by simp; omega
    have e1 := mo_get hlt
    have w1 := wrapS j (by omega)
    have hmo := hS.mo _ (getD_mem mo0 hlt)
    generalize hv : S.mods.getD j mo0 = v at e1 hmo
    have hvd : moD v = .agg [.str v.name, .str v.owner, iD v.rely.kind, .str v.rely.name, .str v.rely.other, iD v.rely.n, iD v.rely.len, iD v.rely.init, .bool v.rely.ghost, .sl 9 (v.rely.kids.map Nd.d), iD v.rely.pos, iD v.guar.kind, .str v.guar.name, .str v.guar.other, iD v.guar.n, iD v.guar.len, iD v.guar.init, .bool v.guar.ghost, .sl 9 (v.guar.kids.map Nd.d), iD v.guar.pos, .sl 9 (v.frame.map Nd.d), iD v.pos] := rfl
    rw [hvd] at e1
    have hc : (!smallM v.rely || !smallM v.guar || decide (12 < (v.frame.length : Int))) = !shMo v := by
      unfold shMo
      rw [Bool.eq_iff_iff]
      simp only [Bool.or_eq_true, Bool.not_eq_true', Bool.and_eq_false_iff, decide_eq_true_eq, decide_eq_false_iff_not]
      constructor
      · rintro ((c | c) | c)
        · exact .inl (.inl c)
        · exact .inl (.inr c)
        · exact .inr (by omega)
      · rintro ((c | c) | c)
        · exact .inl (.inl c)
        · exact .inl (.inr c)
        · exact .inr (by omega)
    simp only [go_sem, List.length_map, hd, e1, w1, Try.results10]
    rw [← Nd.d_eq v.rely]
    refine ⟨⟨by omega, by omega⟩, ac' (small_ac hmo.rely _ _ _ ?_)⟩
    simp only [go_sem, List.length_map, Try.results10]
    refine ex' (.bool (smallM v.guar)) ⟨fun q => ?_, ?_⟩
    · simp only [go_sem, Try.results10]
      rw [← Nd.d_eq v.guar]
      exact ⟨by simpa using q, ac' (small_ac hmo.guar _ _ _ ⟨rfl, rfl⟩)⟩
    simp only [go_sem, List.length_map, hc, w1, Try.results10]
    refine ⟨fun q => by simpa using q, fun c => ?_, fun c => ?_⟩
    · have c' : shMo v = false := by simpa using c
      have : shortM S = false := by rw [hu, all_bad (p := shMo) mo0 hlt (by rw [hv]; exact c')]; rfl
      rw [this] at h
      exact ret_bd hbd rfl h
    · have c' : shMo v = true := by simpa using c
      exact Wk.keep [1, 3] [0] (by decide) (Nat.le_refl _) hbd ⟨S.mods.length - (j + 1), by omega, j + 1, hlt, rfl, by rw [all_take mo0 hlt, ha, hv, c']; rfl, by simp only [go_sem], by simp only [go_sem]⟩
  have hd : decide ((j : Int) < (S.mods.length : Int)) = false := by simp; omega
  rw [List.take_of_length_le hge] at ha
  rw [ha, Bool.true_and] at hu
  simp only [go_sem, List.length_map, hd, Try.results10]
  clear hd ha hge hm hj
  refine aw_loop (fun m fr st => ∃ j : Nat, j ≤ S.locks.length ∧ m = S.locks.length - j ∧ (S.locks.take j).all (fun l => smallM l.inv) = true ∧ fr = [.any, .ref σ.length 0, .any, .any, .any, dn j, .any, .any, .any, .any, .any, .any, .any, .any, .any, .any, .any, .any, .any, .any, .any, .any, .any, .any, .any, .any, .any, .any, .any, .any, .any, .any, .any, .any, .any, .any, .any, .any, .any, .any, .any, .any, .any, .any, .any, .any, .any, .any, .any, .any, .any, .any, .any, .any, .any, .any, .any, .any, .any, .any, .any, .any, .any, .any, .any, .any, .any, .any, .any, .any, .any, .any, .any, .any, .any, .any, .any, .any, .any, .any, .any, .any, .any, .any, .any, .any, .any, .any, .any, .any, .any, .any, .any, .any, .any, .any, .any, .any, .any, .any, .any, .any, .any, .any, .any, .any, .any] ∧ st = σ ++ [some (.cells [.d (.sl 22 (S.mods.map moD)), .d (.sl 7 (S.vars.map vrD)), .d (.sl 12 (S.locks.map lkD)), .d (.sl 16 (S.procs.map prD)), .d (.sl 5 (S.threads.map thD))])]) S.locks.length _
    (Wk.mask [1, 5] ⟨0, by omega, by omega, rfl, rfl, rfl⟩) ?_
  rintro m fr st ⟨j, hj, hm, ha, rfl, rfl⟩
  rcases Nat.lt_or_ge j S.locks.length with hlt | hge
  · have hd : decide ((j : Int) < (S.locks.length : Int)) = true := by simp; omega
    have e1 := lk_d hlt
    have w1 := wrapS j (by omega)
    have hmo := hS.lo _ (getD_mem lk0 hlt)
    generalize hv : S.locks.getD j lk0 = v at e1 hmo
    simp only [lkD, Nd.cs, List.cons_append, List.nil_append] at e1
    simp only [go_sem, List.length_map, hd, e1, w1, Try.results10]
    rw [← Nd.d_eq v.inv]
    refine ⟨⟨by omega, by omega⟩, ac' (small_ac hmo _ _ _ ?_)⟩
    simp only [go_sem, List.length_map, w1, Try.results10]
    refine ⟨fun c => ?_, fun c => ?_⟩
    · have c' : smallM v.inv = false := by simpa using c
      have : shortM S = false := by rw [hu, all_bad (p := fun l : Lk => smallM l.inv) lk0 hlt (by rw [hv]; exact c')]; rfl
      rw [this] at h
      exact ret_bd hbd rfl h
    · have c' : smallM v.inv = true := by simpa using c
      exact Wk.keep [1, 5] [0] (by decide) (Nat.le_refl _) hbd ⟨S.locks.length - (j + 1), by omega, j + 1, hlt, rfl, by rw [all_take lk0 hlt, ha, hv, c']; rfl, by simp only [go_sem], by simp only [go_sem]⟩
  have hd : decide ((j : Int) < (S.locks.length : Int)) = false := by simp; omega
  rw [List.take_of_length_le hge] at ha
  rw [ha, Bool.true_and] at hu
  simp only [go_sem, List.length_map, hd, Try.results10]
  clear hd ha hge hm hj
  refine aw_loop (fun m fr st => ∃ j : Nat, j ≤ S.procs.length ∧ m = S.procs.length - j ∧ (S.procs.take j).all shPr = true ∧ fr = [.any, .ref σ.length 0, .any, .any, .any, .any, dn j, .any, .any, .any, .any, .any, .any, .any, .any, .any, .any, .any, .any, .any, .any, .any, .any, .any, .any, .any, .any, .any, .any, .any, .any, .any, .any, .any, .any, .any, .any, .any, .any, .any, .any, .any, .any, .any, .any, .any, .any, .any, .any, .any, .any, .any, .any, .any, .any, .any, .any, .any, .any, .any, .any, .any, .any, .any, .any, .any, .any, .any, .any, .any, .any, .any, .any, .any, .any, .any, .any, .any, .any, .any, .any, .any, .any, .any, .any, .any, .any, .any, .any, .any, .any, .any, .any, .any, .any, .any, .any, .any, .any, .any, .any, .any, .any, .any, .any, .any, .any] ∧ st = σ ++ [some (.cells [.d (.sl 22 (S.mods.map moD)), .d (.sl 7 (S.vars.map vrD)), .d (.sl 12 (S.locks.map lkD)), .d (.sl 16 (S.procs.map prD)), .d (.sl 5 (S.threads.map thD))])]) S.procs.length _
    (Wk.mask [1, 6] ⟨0, by omega, by omega, rfl, rfl, rfl⟩) ?_
  rintro m fr st ⟨j, hj, hm, ha, rfl, rfl⟩
  rcases Nat.lt_or_ge j S.procs.length with hlt | hge
  · have hd : decide ((j : Int) < (S.procs.length : Int)) = true := by simp; omega
    have e1 := pr_d hlt
    have w1 := wrapS j (by omega)
    have hmo := hS.pr _ (getD_mem pr0 hlt)
    generalize hv : S.procs.getD j pr0 = v at e1 hmo
    have hvd : prD v = .agg [.str v.name, iD v.mod, .sl 7 (v.params.map vrD), .sl 7 (v.locals.map vrD), .str v.locked, iD v.body.kind, .str v.body.name, .str v.body.other, iD v.body.n, iD v.body.len, iD v.body.init, .bool v.body.ghost, .sl 9 (v.body.kids.map Nd.d), iD v.body.pos, .sl 1 (v.calls.map iD), iD v.pos] := rfl
    rw [hvd] at e1
    have hc : (!smallM v.body || decide (12 < (v.params.length : Int)) || decide (12 < (v.locals.length : Int))) = !shPr v := by
      unfold shPr
      rw [Bool.eq_iff_iff]
      simp only [Bool.or_eq_true, Bool.not_eq_true', Bool.and_eq_false_iff, decide_eq_true_eq, decide_eq_false_iff_not]
      constructor
      · rintro ((c | c) | c)
        · exact .inl (.inl c)
        · exact .inl (.inr (by omega))
        · exact .inr (by omega)
      · rintro ((c | c) | c)
        · exact .inl (.inl c)
        · exact .inl (.inr (by omega))
        · exact .inr (by omega)
    simp only [go_sem, List.length_map, hd, e1, w1, Try.results10]
    rw [← Nd.d_eq v.body]
    refine ⟨⟨by omega, by omega⟩, ac' (small_ac hmo.body _ _ _ ?_)⟩
    simp only [go_sem, List.length_map, hc, w1, Try.results10]
    refine ⟨fun q => by simpa using q, fun c => ?_, fun c => ?_⟩
    · have c' : shPr v = false := by simpa using c
      have : shortM S = false := by rw [hu, all_bad (p := shPr) pr0 hlt (by rw [hv]; exact c')]
      rw [this] at h
      exact ret_bd hbd rfl h
    · have c' : shPr v = true := by simpa using c
      exact Wk.keep [1, 6] [0] (by decide) (Nat.le_refl _) hbd ⟨S.procs.length - (j + 1), by omega, j + 1, hlt, rfl, by rw [all_take pr0 hlt, ha, hv, c']; rfl, by simp only [go_sem], by simp only [go_sem]⟩
  have hd : decide ((j : Int) < (S.procs.length : Int)) = false := by simp; omega
  rw [List.take_of_length_le hge] at ha
  rw [ha] at hu
  rw [hu] at h
  simp only [go_sem, List.length_map, hd, Try.results10]
  exact ret_bd hbd rfl h
end Go.Proofs.Ytfoblkeefpaceaa
end PartL2

section PartL3
/- The law package: the fixed examples. -/
set_option linter.unusedSimpArgs false
set_option linter.unusedVariables false
set_option maxRecDepth 100000
namespace Go.Proofs.Ytfoblkeefpaceaa
open Go Go.Ab

/-- A node of the examples. -/
def nN (k : Int) (s : Str) (ks : List Nd) : Nd := .mk k s [] 0 0 0 false ks 0
def numN (k at_ : Int) : Nd := .mk 1 [] [] k 0 0 false [] at_
def noneN : Nd := nN 63 [] []
def benchBody : Nd := nN 34 [] [nN 21 [] [nN 2 [120] [], numN 9 7]]
def benchM : Sy := ⟨[⟨[77], [65], noneN, noneN, [], 0⟩], [⟨[120], 3, 0, 0, false, 0, 0⟩, ⟨[118], 2, 2, 0, false, 0, 0⟩], [], [⟨[102], 0, [⟨[112], 1, 0, 0, false, 0, 0⟩], [], [], benchBody, [], 0⟩], []⟩
def xN : Nd := nN 2 [120] []
def iN : Nd := nN 2 [105] []
def vN : Nd := nN 2 [118] [iN]
def allN (n : Int) : Nd := .mk 7 [105] [] n 0 0 false [nN 5 [60, 61] [vN, iN]] 0
def oldN : Nd := nN 5 [60, 61] [nN 3 [] [xN], xN]
def e1N : Nd := nN 5 [43] [xN, numN 1 0]
def e2N : Nd := nN 5 [43] [numN 1 0, numN 2 0]
def e3N : Nd := nN 5 [61, 61] [xN, numN 9 0]
def e4N : Nd := nN 2 [118] [nN 2 [112] []]
def e5N : Nd := nN 2 [118] [numN 2 0]
def e6N : Nd := nN 2 [118] []
def e7N : Nd := nN 2 [112] []
theorem g1 : widthR benchM 0 (-1) e1N 0 = (3, []) := by kernel_rfl
theorem g2 : widthR benchM 0 (-1) e2N 0 = (2, []) := by kernel_rfl
theorem g3 : widthR benchM 0 (-1) e3N 0 = (1, [⟨50, 0⟩]) := by kernel_rfl
theorem g4 : widthR benchM 0 0 e4N 0 = (2, []) := by kernel_rfl
theorem g5 : widthR benchM 0 0 e5N 0 = (2, [⟨51, 0⟩]) := by kernel_rfl
theorem g6 : widthR benchM 0 0 e6N 0 = (2, [⟨51, 0⟩]) := by kernel_rfl
theorem g7 : widthR benchM 0 (-1) e7N 0 = (1, [⟨40, 0⟩]) := by kernel_rfl
theorem g8 : widthR benchM 0 (-1) (allN 2) 0 = (1, []) := by kernel_rfl
theorem g9 : widthR benchM 0 (-1) (allN 3) 0 = (1, [⟨51, 0⟩]) := by kernel_rfl
theorem g10 : widthR benchM 0 (-1) oldN 0 = (1, []) := by kernel_rfl
theorem g11 : widthR benchM 0 0 oldN 0 = (1, [⟨44, 0⟩]) := by kernel_rfl
theorem g12 : checkR benchM = [⟨50, 7⟩] := by kernel_rfl
theorem g13 : (widthR benchM 1 (-1) xN 0).2 = [⟨1, 0⟩] := by kernel_rfl
theorem ret_via {G : Glob} {n0 : Nat} {fr fr' : Fr} {τ τ' : St} {R : A → St → Prop} (hw : Weak G n0 fr τ fr' τ') (h : ∃ r σ', Weak G n0 fr' τ' [r] σ' ∧ R r σ') : ∃ r σ', Weak G n0 fr τ [r] σ' ∧ R r σ' := by
  obtain ⟨r, σ', h1, h2⟩ := h
  exact ⟨r, σ', hw.trans h1, h2⟩
/-- A node as data. -/
def nD (k : Int) (s : Str) (n : Int) (kd : List D) (at_ : Int) : D := .agg [iD k, .str s, .str [], iD n, iD 0, iD 0, .bool false, .sl 9 kd, iD at_]
theorem nF_ac (k : Int) (s : Str) (kd : List D) (σ : St) (G : Glob) (R : A → St → Prop) (h : R (.d (nD k s 0 kd 0)) σ) : AC Try.prog G 21 [di k, .d (.str s), .d (.sl 9 kd)] σ R := by
  unfold nD at h
  refine ac_enter mixed Try.func21 rfl Try.ntmps21 (by simp only [go_sem]) fun hbd => ?_
  simp only [List.length_cons, List.length_nil, Nat.reduceAdd, Nat.reduceSub, List.replicate_succ, List.replicate_zero, List.cons_append, List.nil_append]
  simp only [go_sem, Try.results21]
  exact ret_bd hbd rfl h
theorem nF0_ac (k : Int) (s : Str) (σ : St) (G : Glob) (R : A → St → Prop) (h : R (.d (nD k s 0 [] 0)) σ) : AC Try.prog G 21 [di k, .d (.str s), .d .nils] σ R :=
  ac_weak (Weak.nils (.cons (.refl _) (.cons (.refl _) (.cons (.d (.nil 9)) .nil)))) (nF_ac k s [] σ G R h)
theorem numF_ac (k at_ : Int) (σ : St) (G : Glob) (R : A → St → Prop) (h : R (.d (nD 1 [] k [] at_)) σ) : AC Try.prog G 20 [di k, di at_] σ R := by
  unfold nD at h
  refine ac_enter mixed Try.func20 rfl Try.ntmps20 (by simp only [go_sem]) fun hbd => ?_
  simp only [List.length_cons, List.length_nil, Nat.reduceAdd, Nat.reduceSub, List.replicate_succ, List.replicate_zero, List.cons_append, List.nil_append]
  simp only [go_sem, Try.results20]
  refine ret_via (Weak.nils (.cons (.d (.agg ?_)) .nil)) (ret_bd hbd rfl h)
  exact .cons (.refl _) (.cons (.refl _) (.cons (.refl _) (.cons (.refl _) (.cons (.refl _) (.cons (.refl _) (.cons (.refl _) (.cons (.nil 9) (NilDL.refl _))))))))
set_option maxHeartbeats 8000000 in
theorem bench_ac (σ : St) (G : Glob) (R : A → St → Prop) (h : R (.d (syD benchM)) σ) : AC Try.prog G 23 [] σ R := by
  refine ac_enter mixed Try.func23 rfl Try.ntmps23 (by simp only [go_sem]) fun hbd => ?_
  simp only [List.length_cons, List.length_nil, Nat.reduceAdd, Nat.reduceSub, List.replicate_succ, List.replicate_zero, List.cons_append, List.nil_append]
  simp only [go_sem, Try.results23]
  refine ac' (nF0_ac _ _ _ _ _ ?_)
  simp only [go_sem, Try.results23]
  refine ac' (numF_ac _ _ _ _ _ ?_)
  simp only [nD, go_sem, Try.results23]
  refine ac' (ac_weak (Weak.deep [2] 4) ?_)
  simp only [go_sem, Try.results23]
  refine nF_ac _ _ _ _ _ _ ?_
  simp only [nD, go_sem, Try.results23]
  refine ac' (ac_weak (Weak.deep [3] 4) ?_)
  simp only [go_sem, Try.results23]
  refine nF_ac _ _ _ _ _ _ ?_
  simp only [nD, go_sem, Try.results23]
  refine ret_via (Weak.deep [0, 1, 2, 3, 4, 5, 6, 7, 8, 9] 6) ?_
  simp only [go_sem, Nat.add_assoc, Nat.reduceAdd, Try.results23]
  refine ret_via (fr' := [.d (syD benchM)]) (Weak.nils ?_) (ret_bd hbd rfl h)
  simp only [syD, Sy.cs, benchM, benchBody, noneN, nN, numN, List.map_cons, List.map_nil, moD, vrsD, vrD, prD, isD, Nd.d_eq, Nd.cs, Nd.kind, Nd.name, Nd.other, Nd.n, Nd.len, Nd.init, Nd.ghost, Nd.kids, Nd.pos, List.cons_append, List.nil_append]
  repeat' first | exact NilAL.nil | apply NilAL.cons | exact NilA.refl _ | apply NilA.d | exact NilD.refl _ | exact NilD.nil _ | apply NilD.sl | apply NilD.agg | apply NilDL.cons | exact NilDL.nil
theorem nN_ok {k : Int} {s : Str} {ks : List Nd} {n at_ : Int} (h1 : s.length ≤ reachBytes) (h2 : ks.length ≤ reachBytes) (h3 : I64 n) (h : ∀ e ∈ ks, e.Ok) : (Nd.mk k s [] n 0 0 false ks at_).Ok := .mk h2 h1 h3 h
theorem i64_small {n : Int} (h : 0 ≤ n ∧ n ≤ 100) : I64 n := by unfold I64; omega
theorem numN_ok {k at_ : Int} (h : I64 k) : (numN k at_).Ok := nN_ok (by decide) (by decide) h (fun e he => by cases he)
theorem leaf_ok {k : Int} {s : Str} (h : s.length ≤ reachBytes) : (nN k s []).Ok := nN_ok h (by decide) (i64_small (by decide)) (fun e he => by cases he)
theorem one_ok {k : Int} {s : Str} {a : Nd} (h : s.length ≤ reachBytes) (ha : a.Ok) : (nN k s [a]).Ok := nN_ok h (by simp only [List.length_cons, List.length_nil]; decide) (i64_small (by decide)) (fun e he => by simp only [List.mem_cons, List.not_mem_nil, or_false] at he; subst he; exact ha)
theorem two_ok {k : Int} {s : Str} {a b : Nd} (h : s.length ≤ reachBytes) (ha : a.Ok) (hb : b.Ok) : (nN k s [a, b]).Ok := nN_ok h (by simp only [List.length_cons, List.length_nil]; decide) (i64_small (by decide)) (fun e he => by
  simp only [List.mem_cons, List.not_mem_nil, or_false] at he
  rcases he with rfl | rfl
  · exact ha
  · exact hb)
theorem xN_ok : xN.Ok := leaf_ok (by decide)
theorem iN_ok : iN.Ok := leaf_ok (by decide)
theorem vN_ok : vN.Ok := one_ok (by decide) iN_ok
theorem allN_ok {n : Int} (h : 0 ≤ n ∧ n ≤ 100) : (allN n).Ok := nN_ok (by decide) (by decide) (i64_small h) (fun e he => by
  simp only [List.mem_cons, List.not_mem_nil, or_false] at he
  subst he
  exact two_ok (by decide) vN_ok iN_ok)
theorem oldN_ok : oldN.Ok := two_ok (by decide) (one_ok (by decide) xN_ok) xN_ok
theorem vr_ok {v : Vr} (h1 : I64 v.w) (h2 : I64 v.len) : v.Ok := ⟨h1, h2⟩
theorem bench_ok : benchM.Ok := by
  refine ⟨by decide, by decide, by decide, by decide, by decide, fun m hm => ?_, fun v hv => ?_, fun l hl => (List.not_mem_nil hl).elim, fun p hp => ?_⟩
  · simp only [benchM, List.mem_cons, List.not_mem_nil, or_false] at hm
    subst hm
    exact ⟨leaf_ok (by decide), leaf_ok (by decide), by decide, fun e he => by cases he⟩
  · simp only [benchM, List.mem_cons, List.not_mem_nil, or_false] at hv
    rcases hv with rfl | rfl
    · exact ⟨i64_small (by decide), i64_small (by decide)⟩
    · exact ⟨i64_small (by decide), i64_small (by decide)⟩
  · simp only [benchM, List.mem_cons, List.not_mem_nil, or_false] at hp
    subst hp
    refine ⟨by decide, by decide, fun v hv => ?_, fun v hv => (List.not_mem_nil hv).elim, one_ok (by decide) (two_ok (by decide) xN_ok (numN_ok (i64_small (by decide))))⟩
    simp only [List.mem_cons, List.not_mem_nil, or_false] at hv
    subst hv
    exact ⟨i64_small (by decide), i64_small (by decide)⟩
theorem bench_fit : benchM.Fit := by
  refine ⟨fun m hm => ?_, fun l hl => (List.not_mem_nil hl).elim, fun p hp => ?_⟩
  · simp only [benchM, List.mem_cons, List.not_mem_nil, or_false] at hm
    subst hm
    exact ⟨fit_nil (by decide), fit_nil (by decide)⟩
  · simp only [benchM, List.mem_cons, List.not_mem_nil, or_false] at hp
    subst hp
    exact fit_nil (by decide)
set_option maxHeartbeats 4000000 in
theorem gives_ac {p w f : Int} {e : Nd} {x : D} (hx : e.d = x) (hok : e.Ok) (hn : e.nodes ≤ 10000) (hw : (f = 0 ∧ widthR benchM 0 p e 0 = (w, [])) ∨ (f ≠ 0 ∧ ∃ y, widthR benchM 0 p e 0 = (w, [⟨f, y⟩]))) (σ : St) (G : Glob) (R : A → St → Prop) (h : R (db true) σ) : AC Try.prog G 29 [di p, .d x, di w, di f] σ R := by
  subst hx
  rw [Nd.d_eq]
  refine ac_enter' mixed Try.func29 rfl Try.ntmps29 (by simp only [go_sem]) fun hbd => ?_
  simp only [List.length_cons, List.length_nil, Nat.reduceAdd, Nat.reduceSub, List.replicate_succ, List.replicate_zero, List.cons_append, List.nil_append]
  simp only [go_sem, Try.results29]
  refine aw_plan (.take 1 <| .pure 0 <| .tk 7 2 <| .done) (by kernel_rfl) ?_
  simp only [go_sem, Try.results29]
  refine exP (.d (syD benchM)) ⟨fun σ' => ?_, ?_⟩
  · simp only [go_sem, Try.results29]
    exact ac' (bench_ac _ _ _ ⟨rfl, rfl⟩)
  simp only [syD, Sy.cs, vrsD]
  simp only [go_sem, Try.results29]
  have hs : syD benchM = .agg [.sl 22 (benchM.mods.map moD), .sl 7 (benchM.vars.map vrD), .sl 12 (benchM.locks.map lkD), .sl 16 (benchM.procs.map prD), .sl 5 (benchM.threads.map thD)] := rfl
  rw [← hs, ← Nd.d_eq]
  refine ac' (widthF_ac bench_ok 0 p hok hn 0 _ _ _ ?_)
  rcases hw with ⟨rfl, hw⟩ | ⟨hf, y, hw⟩
  · rw [hw]
    have c : ((0 : Int) == 0) = true := rfl
    have c1 : (((0 : Nat) : Int) == 0) = true := rfl
    simp only [dgsD, List.map_nil, List.length_nil, go_sem, c, c1, beq_self_eq_true, Bool.and_self, Try.results29]
    exact ret_bd hbd rfl h
  · rw [hw]
    have c : (f == 0) = false := beq_f hf
    have c1 : (((1 : Nat) : Int) == 1) = true := rfl
    simp only [dgsD, dgD, List.map_cons, List.map_nil, go_sem, c, c1, beq_self_eq_true, Bool.and_self, Int.reduceToNat, List.getD_cons_zero, Try.results29]
    exact ⟨⟨by omega, by omega⟩, ret_bd hbd rfl h⟩
end Go.Proofs.Ytfoblkeefpaceaa
end PartL3

section PartL4
/- The law package: the head of every law. -/
set_option linter.unusedSimpArgs false
set_option linter.unusedVariables false
set_option maxRecDepth 100000
namespace Go.Proofs.Ytfoblkeefpaceaa
open Go Go.Ab

theorem nO_ac {k : Int} {s : Str} {j len : Nat} {ow : Option TypeId} {σ l : St} {G : Glob} {R : A → St → Prop}
    (h : AC Try.prog G 21 ([di k, .d (.str s), .rs (σ.length + j) 9 0 len ow].map (dpA σ.length [j] l 4)) (σ ++ dpSt [j] (dpA σ.length [j] l 4) 0 l) R) : AC Try.prog G 21 [di k, .d (.str s), .rs (σ.length + j) 9 0 len ow] (σ ++ l) R :=
  ac_weak (Weak.deep [j] 4) h
/-- A node as an object. -/
abbrev oN (k : Int) (s : Str) (n : Int) (kd : List D) : Option Ob := some (.cells [di k, .d (.str s), .d (.str []), di n, di 0, di 0, db false, .d (.sl 9 kd), di 0])
abbrev xK : D := .agg [iD 2, .str [120], .str [], iD 0, iD 0, iD 0, .bool false, .sl 9 [], iD 0]
abbrev iK : D := .agg [iD 2, .str [105], .str [], iD 0, iD 0, iD 0, .bool false, .sl 9 [], iD 0]
abbrev vK : D := .agg [iD 2, .str [118], .str [], iD 0, iD 0, iD 0, .bool false, .sl 9 [iK], iD 0]
abbrev leK : D := .agg [iD 5, .str [60, 61], .str [], iD 0, iD 0, iD 0, .bool false, .sl 9 [vK, iK], iD 0]
abbrev opK : D := .agg [iD 3, .str [], .str [], iD 0, iD 0, iD 0, .bool false, .sl 9 [xK], iD 0]
abbrev oX : Option Ob := oN 2 [120] 0 []
abbrev oV : Option Ob := oN 2 [118] 0 [iK]
abbrev oA (n : Int) : Option Ob := oN 7 [105] n [leK]
abbrev oO : Option Ob := oN 5 [60, 61] 0 [opK, xK]
set_option maxHeartbeats 16000000 in
theorem head_ac (σ : St) (G : Glob) (R : A → St → Prop) (h : R (db true) σ) : AC Try.prog G 9 [] σ R := by
  refine ac_enterC' [2, 3, 4, 5, 6, 7, 8, 9, 10] mixed Try.func9 rfl Try.ntmps9 (by simp only [go_sem]) fun hbd => ?_
  simp only [List.length_cons, List.length_nil, Nat.reduceAdd, Nat.reduceSub, List.replicate_succ, List.replicate_zero, List.cons_append, List.nil_append]
  simp only [go_sem, Try.results9]
  refine aw_cut (fun fr st => fr = [.any, .ref σ.length 0, .any, .any, .any, .any, .any, .any, .any, .any, .any, .any, .any, .any, .any, .any, .any, .any, .any, .any, .any, .any, .any, .any, .any, .any, .any, .any, .any, .any, .any, .any, .any, .any, .any, .any, .any, .any, .any, .any, .any, .any, .any, .any, .any, .any, .any, .any, .any, .any, .any, .any, .any, .any, .any, .any, .any, .any, .any, .any, .any, .any, .any, .any, .any, .any, .any, .any, .any, .any, .any, .any, .any, .any, .any, .any, .any, .any, .any, .any, .any, .any, .any, .any, .any, .any, .any, .any, .any, .any, .any, .any, .any, .any, .any, .any, .any, .any, .any, .any, .any, .any, .any, .any, .any, .any, .any, .any, .any, .any, .any, .any, .any, .any, .any] ∧ st = σ ++ [oX]) ?_ ?_
  · simp only [go_sem, Try.results9]
    (refine ac' (nF0_ac _ _ _ _ _ ?_); try simp only [nD, go_sem, Nat.add_assoc, Nat.reduceAdd, Try.results9])
    exact Wk.keep [1] [0] (by decide) (Nat.le_refl _) hbd ⟨by simp only [go_sem], by simp only [go_sem]⟩
  rintro fr st ⟨rfl, rfl⟩
  refine aw_cut (fun fr st => fr = [.any, .ref σ.length 0, .ref (σ.length + 1) 0, .any, .any, .any, .any, .any, .any, .any, .any, .any, .any, .any, .any, .any, .any, .any, .any, .any, .any, .any, .any, .any, .any, .any, .any, .any, .any, .any, .any, .any, .any, .any, .any, .any, .any, .any, .any, .any, .any, .any, .any, .any, .any, .any, .any, .any, .any, .any, .any, .any, .any, .any, .any, .any, .any, .any, .any, .any, .any, .any, .any, .any, .any, .any, .any, .any, .any, .any, .any, .any, .any, .any, .any, .any, .any, .any, .any, .any, .any, .any, .any, .any, .any, .any, .any, .any, .any, .any, .any, .any, .any, .any, .any, .any, .any, .any, .any, .any, .any, .any, .any, .any, .any, .any, .any, .any, .any, .any, .any, .any, .any, .any, .any] ∧ st = σ ++ [oX, oV]) ?_ ?_
  · simp only [go_sem, Try.results9]
    (refine ac' (nF0_ac _ _ _ _ _ ?_); try simp only [nD, go_sem, Nat.add_assoc, Nat.reduceAdd, Try.results9])
    (refine ac' (nO_ac ?_); simp only [go_sem]; refine nF_ac _ _ _ _ _ _ ?_; try simp only [nD, go_sem, Nat.add_assoc, Nat.reduceAdd, Try.results9])
    exact Wk.keep [1, 2] [0, 2] (by decide) (Nat.le_refl _) hbd ⟨by (simp only [go_sem]) <;> rfl, by (simp only [go_sem]) <;> rfl⟩
  rintro fr st ⟨rfl, rfl⟩
  refine aw_cut (fun fr st => fr = [.any, .ref σ.length 0, .any, .ref (σ.length + 1) 0, .any, .any, .any, .any, .any, .any, .any, .any, .any, .any, .any, .any, .any, .any, .any, .any, .any, .any, .any, .any, .any, .any, .any, .any, .any, .any, .any, .any, .any, .any, .any, .any, .any, .any, .any, .any, .any, .any, .any, .any, .any, .any, .any, .any, .any, .any, .any, .any, .any, .any, .any, .any, .any, .any, .any, .any, .any, .any, .any, .any, .any, .any, .any, .any, .any, .any, .any, .any, .any, .any, .any, .any, .any, .any, .any, .any, .any, .any, .any, .any, .any, .any, .any, .any, .any, .any, .any, .any, .any, .any, .any, .any, .any, .any, .any, .any, .any, .any, .any, .any, .any, .any, .any, .any, .any, .any, .any, .any, .any, .any, .any] ∧ st = σ ++ [oX, oA 0]) ?_ ?_
  · simp only [go_sem, Try.results9]
    refine aw_plan (.pure 1 <| .take 0 <| .alt 2 (.alt 3 (.alt 4 (.alt 5 (.tk 2 6 <| .done) <| .alt 6 (.take 5 <| .take 7 <| .done) <| .stop) <| .alt 6 (.tk 2 4 <| .take 7 <| .done) <| .stop) <| .alt 6 (.tk 3 3 <| .take 7 <| .done) <| .stop) <| .alt 6 (.tk 4 2 <| .take 7 <| .done) <| .stop) (by kernel_rfl) ?_
    simp only [go_sem, Try.results9]
    refine exP (.d (nD 2 [105] 0 [] 0)) ⟨fun σ' => ?_, ?_⟩
    · simp only [go_sem, Try.results9]
      exact ac' (nF0_ac _ _ _ _ _ ⟨rfl, rfl⟩)
    simp only [nD, go_sem, Nat.add_assoc, Nat.reduceAdd, Try.results9]
    repeat' first | (with_reducible apply And.intro) | (refine ac' (nO_ac ?_); simp only [go_sem]; refine nF_ac _ _ _ _ _ _ ?_; try simp only [nD, go_sem, Nat.add_assoc, Nat.reduceAdd, Try.results9])
    all_goals first
      | (refine Wk.keep [1, 3] [0, 4] (by decide) (Nat.le_refl _) hbd ⟨?_, ?_⟩ <;> ((simp only [go_sem]) <;> rfl))
      | (refine Wk.keep [1, 3] [0, 3] (by decide) (Nat.le_refl _) hbd ⟨?_, ?_⟩ <;> ((simp only [go_sem]) <;> rfl))
      | (refine Wk.keep [1, 3] [0, 2] (by decide) (Nat.le_refl _) hbd ⟨?_, ?_⟩ <;> ((simp only [go_sem]) <;> rfl))
  rintro fr st ⟨rfl, rfl⟩
  refine aw_cut (fun fr st => fr = [.any, .ref σ.length 0, .any, .ref (σ.length + 1) 0, .any, .any, .any, .any, .any, .any, .any, .any, .any, .any, .any, .any, .any, .any, .any, .any, .any, .any, .any, .any, .any, .any, .any, .any, .any, .any, .any, .any, .any, .any, .any, .any, .any, .any, .any, .any, .any, .any, .any, .any, .any, .any, .any, .any, .any, .any, .any, .any, .any, .any, .any, .any, .any, .any, .any, .any, .any, .any, .any, .any, .any, .any, .any, .any, .any, .any, .any, .any, .any, .any, .any, .any, .any, .any, .any, .any, .any, .any, .any, .any, .any, .any, .any, .any, .any, .any, .any, .any, .any, .any, .any, .any, .any, .any, .any, .any, .any, .any, .any, .any, .any, .any, .any, .any, .any, .any, .any, .any, .any, .any, .any] ∧ st = σ ++ [oX, oA 2]) ?_ ?_
  · simp only [go_sem, Try.results9]
    exact Wk.keep [1, 3] [0, 1] (by decide) (Nat.le_refl _) hbd ⟨by (simp only [go_sem]) <;> rfl, by (simp only [go_sem]) <;> rfl⟩
  rintro fr st ⟨rfl, rfl⟩
  refine aw_cut (fun fr st => fr = [.any, .ref σ.length 0, .any, .ref (σ.length + 1) 0, .ref (σ.length + 2) 0, .any, .any, .any, .any, .any, .any, .any, .any, .any, .any, .any, .any, .any, .any, .any, .any, .any, .any, .any, .any, .any, .any, .any, .any, .any, .any, .any, .any, .any, .any, .any, .any, .any, .any, .any, .any, .any, .any, .any, .any, .any, .any, .any, .any, .any, .any, .any, .any, .any, .any, .any, .any, .any, .any, .any, .any, .any, .any, .any, .any, .any, .any, .any, .any, .any, .any, .any, .any, .any, .any, .any, .any, .any, .any, .any, .any, .any, .any, .any, .any, .any, .any, .any, .any, .any, .any, .any, .any, .any, .any, .any, .any, .any, .any, .any, .any, .any, .any, .any, .any, .any, .any, .any, .any, .any, .any, .any, .any, .any, .any] ∧ st = σ ++ [oX, oA 2, oA 2]) ?_ ?_
  · simp only [go_sem, Try.results9]
    exact Wk.keep [1, 3, 4] [0, 1, 2] (by decide) (Nat.le_refl _) hbd ⟨by (simp only [go_sem]) <;> rfl, by (simp only [go_sem]) <;> rfl⟩
  rintro fr st ⟨rfl, rfl⟩
  refine aw_cut (fun fr st => fr = [.any, .ref σ.length 0, .any, .ref (σ.length + 1) 0, .ref (σ.length + 2) 0, .any, .any, .any, .any, .any, .any, .any, .any, .any, .any, .any, .any, .any, .any, .any, .any, .any, .any, .any, .any, .any, .any, .any, .any, .any, .any, .any, .any, .any, .any, .any, .any, .any, .any, .any, .any, .any, .any, .any, .any, .any, .any, .any, .any, .any, .any, .any, .any, .any, .any, .any, .any, .any, .any, .any, .any, .any, .any, .any, .any, .any, .any, .any, .any, .any, .any, .any, .any, .any, .any, .any, .any, .any, .any, .any, .any, .any, .any, .any, .any, .any, .any, .any, .any, .any, .any, .any, .any, .any, .any, .any, .any, .any, .any, .any, .any, .any, .any, .any, .any, .any, .any, .any, .any, .any, .any, .any, .any, .any, .any] ∧ st = σ ++ [oX, oA 2, oA 3]) ?_ ?_
  · simp only [go_sem, Try.results9]
    exact Wk.keep [1, 3, 4] [0, 1, 2] (by decide) (Nat.le_refl _) hbd ⟨by (simp only [go_sem]) <;> rfl, by (simp only [go_sem]) <;> rfl⟩
  rintro fr st ⟨rfl, rfl⟩
  refine aw_cut (fun fr st => fr = [.any, .ref σ.length 0, .any, .ref (σ.length + 1) 0, .ref (σ.length + 2) 0, .d (.sl 2 [.agg [iD 50, iD 7]]), .any, .any, .any, .any, .any, .any, .any, .any, .any, .any, .any, .any, .any, .any, .any, .any, .any, .any, .any, .any, .any, .any, .any, .any, .any, .any, .any, .any, .any, .any, .any, .any, .any, .any, .any, .any, .any, .any, .any, .any, .any, .any, .any, .any, .any, .any, .any, .any, .any, .any, .any, .any, .any, .any, .any, .any, .any, .any, .any, .any, .any, .any, .any, .any, .any, .any, .any, .any, .any, .any, .any, .any, .any, .any, .any, .any, .any, .any, .any, .any, .any, .any, .any, .any, .any, .any, .any, .any, .any, .any, .any, .any, .any, .any, .any, .any, .any, .any, .any, .any, .any, .any, .any, .any, .any, .any, .any, .any, .any] ∧ st = σ ++ [oX, oA 2, oA 3]) ?_ ?_
  · simp only [go_sem, Try.results9]
    refine ac' (bench_ac _ _ _ ?_)
    simp only [syD, Sy.cs, vrsD]
    simp only [go_sem, Try.results9]
    have hs : syD benchM = .agg [.sl 22 (benchM.mods.map moD), .sl 7 (benchM.vars.map vrD), .sl 12 (benchM.locks.map lkD), .sl 16 (benchM.procs.map prD), .sl 5 (benchM.threads.map thD)] := rfl
    rw [← hs]
    refine ac' (checkF_ac bench_ok bench_fit _ _ _ ?_)
    rw [g12]
    simp only [go_sem, Try.results9]
    exact Wk.keep [1, 3, 4, 5] [0, 1, 2] (by decide) (Nat.le_refl _) hbd ⟨by (simp only [go_sem]) <;> rfl, by (simp only [go_sem]) <;> rfl⟩
  rintro fr st ⟨rfl, rfl⟩
  refine aw_cut (fun fr st => fr = [.any, .ref σ.length 0, .any, .ref (σ.length + 1) 0, .ref (σ.length + 2) 0, .d (.sl 2 [.agg [iD 50, iD 7]]), .any, .d (.sl 2 [.agg [iD 1, iD 0]]), .any, .any, .any, .any, .any, .any, .any, .any, .any, .any, .any, .any, .any, .any, .any, .any, .any, .any, .any, .any, .any, .any, .any, .any, .any, .any, .any, .any, .any, .any, .any, .any, .any, .any, .any, .any, .any, .any, .any, .any, .any, .any, .any, .any, .any, .any, .any, .any, .any, .any, .any, .any, .any, .any, .any, .any, .any, .any, .any, .any, .any, .any, .any, .any, .any, .any, .any, .any, .any, .any, .any, .any, .any, .any, .any, .any, .any, .any, .any, .any, .any, .any, .any, .any, .any, .any, .any, .any, .any, .any, .any, .any, .any, .any, .any, .any, .any, .any, .any, .any, .any, .any, .any, .any, .any, .any, .any] ∧ st = σ ++ [oX, oA 2, oA 3]) ?_ ?_
  · simp only [go_sem, Try.results9]
    refine aw_plan (.pure 0 <| .tk 7 1 <| .done) (by kernel_rfl) ?_
    simp only [go_sem, Try.results9]
    refine exP (.d (syD benchM)) ⟨fun σ' => ?_, ?_⟩
    · simp only [go_sem, Try.results9]
      exact ac' (bench_ac _ _ _ ⟨rfl, rfl⟩)
    simp only [syD, Sy.cs, vrsD]
    simp only [go_sem, Try.results9]
    have hs : syD benchM = .agg [.sl 22 (benchM.mods.map moD), .sl 7 (benchM.vars.map vrD), .sl 12 (benchM.locks.map lkD), .sl 16 (benchM.procs.map prD), .sl 5 (benchM.threads.map thD)] := rfl
    rw [← hs]
    have hx : D.agg [D.int .i64 2, .str [120], .str [], D.int .i64 0, D.int .i64 0, D.int .i64 0, .bool false, .sl 9 [], D.int .i64 0] = xN.d := by kernel_rfl
    rw [hx]
    refine ac' (widthF_ac bench_ok 1 (-1) xN_ok (by decide) 0 _ _ _ ?_)
    rw [g13]
    simp only [go_sem, Try.results9]
    exact Wk.keep [1, 3, 4, 5, 7] [0, 1, 2] (by decide) (Nat.le_refl _) hbd ⟨by (simp only [go_sem]) <;> rfl, by (simp only [go_sem]) <;> rfl⟩
  rintro fr st ⟨rfl, rfl⟩
  refine aw_cut (fun fr st => fr = [.any, .ref σ.length 0, .any, .ref (σ.length + 1) 0, .ref (σ.length + 2) 0, .d (.sl 2 [.agg [iD 50, iD 7]]), .any, .d (.sl 2 [.agg [iD 1, iD 0]]), .ref (σ.length + 3) 0, .any, .any, .any, .any, .any, .any, .any, .any, .any, .any, .any, .any, .any, .any, .any, .any, .any, .any, .any, .any, .any, .any, .any, .any, .any, .any, .any, .any, .any, .any, .any, .any, .any, .any, .any, .any, .any, .any, .any, .any, .any, .any, .any, .any, .any, .any, .any, .any, .any, .any, .any, .any, .any, .any, .any, .any, .any, .any, .any, .any, .any, .any, .any, .any, .any, .any, .any, .any, .any, .any, .any, .any, .any, .any, .any, .any, .any, .any, .any, .any, .any, .any, .any, .any, .any, .any, .any, .any, .any, .any, .any, .any, .any, .any, .any, .any, .any, .any, .any, .any, .any, .any, .any, .any, .any, .any] ∧ st = σ ++ [oX, oA 2, oA 3, oO]) ?_ ?_
  · simp only [go_sem, Try.results9]
    refine aw_plan (.take 0 <| .alt 1 (.alt 2 (.take 3 <| .alt 4 (.alt 5 (.tk 2 6 <| .done) <| .alt 6 (.take 5 <| .take 7 <| .done) <| .stop) <| .alt 6 (.tk 2 4 <| .take 7 <| .done) <| .stop) <| .alt 3 (.alt 2 (.alt 4 (.alt 5 (.tk 2 6 <| .done) <| .alt 6 (.take 5 <| .take 7 <| .done) <| .stop) <| .alt 6 (.tk 2 4 <| .take 7 <| .done) <| .stop) <| .alt 6 (.take 2 <| .tk 2 4 <| .take 7 <| .done) <| .stop) <| .alt 6 (.alt 2 (.tk 3 3 <| .take 7 <| .done) <| .alt 3 (.take 2 <| .tk 2 4 <| .take 7 <| .done) <| .stop) <| .stop) <| .alt 3 (.alt 1 (.alt 2 (.alt 4 (.alt 5 (.tk 2 6 <| .done) <| .alt 6 (.take 5 <| .take 7 <| .done) <| .stop) <| .alt 6 (.tk 2 4 <| .take 7 <| .done) <| .stop) <| .alt 6 (.take 2 <| .tk 2 4 <| .take 7 <| .done) <| .stop) <| .alt 6 (.tk 2 1 <| .tk 2 4 <| .take 7 <| .done) <| .stop) <| .alt 6 (.alt 1 (.alt 2 (.tk 3 3 <| .take 7 <| .done) <| .alt 3 (.take 2 <| .tk 2 4 <| .take 7 <| .done) <| .stop) <| .alt 3 (.tk 2 1 <| .tk 2 4 <| .take 7 <| .done) <| .stop) <| .stop) (by kernel_rfl) ?_
    simp only [go_sem, Try.results9]
    repeat' first | (with_reducible apply And.intro) | (refine ac' (nO_ac ?_); simp only [go_sem]; refine nF_ac _ _ _ _ _ _ ?_; try simp only [nD, go_sem, Nat.add_assoc, Nat.reduceAdd, Try.results9])
    all_goals first
      | (refine Wk.keep [1, 3, 4, 5, 7, 8] [0, 1, 2, 5] (by decide) (Nat.le_refl _) hbd ⟨?_, ?_⟩ <;> ((simp only [go_sem]) <;> rfl))
      | (refine Wk.keep [1, 3, 4, 5, 7, 8] [0, 1, 2, 4] (by decide) (Nat.le_refl _) hbd ⟨?_, ?_⟩ <;> ((simp only [go_sem]) <;> rfl))
      | (refine Wk.keep [1, 3, 4, 5, 7, 8] [0, 1, 2, 3] (by decide) (Nat.le_refl _) hbd ⟨?_, ?_⟩ <;> ((simp only [go_sem]) <;> rfl))
  rintro fr st ⟨rfl, rfl⟩
  simp only [go_sem, Try.results9]
  simp only [List.append_eq, List.cons_append, List.nil_append]
  refine aw_plan (.pure 1 <| .take 0 <| .tk 11 2 <| .pure 14 <| .take 13 <| .tk 65 15 <| .done) (by kernel_rfl) ?_
  simp only [go_sem, Try.results9]
  refine exP (.d (nD 1 [] 1 [] 0)) ⟨fun σ' => ?_, ?_⟩
  · simp only [go_sem, Try.results9]
    exact ac' (numF_ac _ _ _ _ _ ⟨rfl, rfl⟩)
  simp only [nD, go_sem, Nat.add_assoc, Nat.reduceAdd, Try.results9]
  (refine ac' (nO_ac ?_); simp only [go_sem]; refine nF_ac _ _ _ _ _ _ ?_; try simp only [nD, go_sem, Nat.add_assoc, Nat.reduceAdd, Try.results9])
  refine ac' (gives_ac (e := e1N) (by kernel_rfl) (two_ok (by decide) xN_ok (numN_ok (i64_small (by decide)))) (by decide) (.inl ⟨rfl, g1⟩) _ _ _ ?_)
  simp only [go_sem, Nat.add_assoc, Nat.reduceAdd, Try.results9]
  (refine exs ⟨fun _ => ?_, fun h => Bool.noConfusion h⟩; simp only [go_sem, Nat.add_assoc, Nat.reduceAdd, Try.results9])
  (refine ac' (numF_ac _ _ _ _ _ ?_); try simp only [nD, go_sem, Nat.add_assoc, Nat.reduceAdd, Try.results9])
  (refine exs ⟨fun _ => ?_, fun h => Bool.noConfusion h⟩; simp only [go_sem, Nat.add_assoc, Nat.reduceAdd, Try.results9])
  (refine ac' (numF_ac _ _ _ _ _ ?_); try simp only [nD, go_sem, Nat.add_assoc, Nat.reduceAdd, Try.results9])
  (refine exs ⟨fun _ => ?_, fun h => Bool.noConfusion h⟩; simp only [go_sem, Nat.add_assoc, Nat.reduceAdd, Try.results9])
  (refine ac' (nO_ac ?_); simp only [go_sem]; refine nF_ac _ _ _ _ _ _ ?_; try simp only [nD, go_sem, Nat.add_assoc, Nat.reduceAdd, Try.results9])
  (refine exs ⟨fun _ => ?_, fun h => Bool.noConfusion h⟩; simp only [go_sem, Nat.add_assoc, Nat.reduceAdd, Try.results9])
  refine ac' (gives_ac (e := e2N) (by kernel_rfl) (two_ok (by decide) (numN_ok (i64_small (by decide))) (numN_ok (i64_small (by decide)))) (by decide) (.inl ⟨rfl, g2⟩) _ _ _ ?_)
  try simp only [nD, go_sem, Nat.add_assoc, Nat.reduceAdd, Try.results9]
  refine exQ (nD 1 [] 9 [] 0) ⟨fun q => ?_, ?_⟩
  · simp only [go_sem, Try.results9]
    exact fun σ' => ac' (numF_ac _ _ _ _ _ ⟨rfl, rfl⟩)
  try simp only [nD, go_sem, Nat.add_assoc, Nat.reduceAdd, Try.results9]
  (refine exs ⟨fun _ => ?_, fun h => Bool.noConfusion h⟩; simp only [go_sem, Nat.add_assoc, Nat.reduceAdd, Try.results9])
  (refine ac' (nO_ac ?_); simp only [go_sem]; refine nF_ac _ _ _ _ _ _ ?_; try simp only [nD, go_sem, Nat.add_assoc, Nat.reduceAdd, Try.results9])
  (refine exs ⟨fun _ => ?_, fun h => Bool.noConfusion h⟩; simp only [go_sem, Nat.add_assoc, Nat.reduceAdd, Try.results9])
  refine ac' (gives_ac (e := e3N) (by kernel_rfl) (two_ok (by decide) xN_ok (numN_ok (i64_small (by decide)))) (by decide) (.inr ⟨by decide, 0, g3⟩) _ _ _ ?_)
  try simp only [nD, go_sem, Nat.add_assoc, Nat.reduceAdd, Try.results9]
  (refine exs ⟨fun _ => ?_, fun h => Bool.noConfusion h⟩; simp only [go_sem, Nat.add_assoc, Nat.reduceAdd, Try.results9])
  (refine ac' (nF0_ac _ _ _ _ _ ?_); try simp only [nD, go_sem, Nat.add_assoc, Nat.reduceAdd, Try.results9])
  (refine exs ⟨fun _ => ?_, fun h => Bool.noConfusion h⟩; simp only [go_sem, Nat.add_assoc, Nat.reduceAdd, Try.results9])
  (refine ac' (nO_ac ?_); simp only [go_sem]; refine nF_ac _ _ _ _ _ _ ?_; try simp only [nD, go_sem, Nat.add_assoc, Nat.reduceAdd, Try.results9])
  (refine exs ⟨fun _ => ?_, fun h => Bool.noConfusion h⟩; simp only [go_sem, Nat.add_assoc, Nat.reduceAdd, Try.results9])
  refine ac' (gives_ac (e := e4N) (by kernel_rfl) (one_ok (by decide) (leaf_ok (by decide))) (by decide) (.inl ⟨rfl, g4⟩) _ _ _ ?_)
  try simp only [nD, go_sem, Nat.add_assoc, Nat.reduceAdd, Try.results9]
  (refine exs ⟨fun _ => ?_, fun h => Bool.noConfusion h⟩; simp only [go_sem, Nat.add_assoc, Nat.reduceAdd, Try.results9])
  (refine ac' (numF_ac _ _ _ _ _ ?_); try simp only [nD, go_sem, Nat.add_assoc, Nat.reduceAdd, Try.results9])
  (refine exs ⟨fun _ => ?_, fun h => Bool.noConfusion h⟩; simp only [go_sem, Nat.add_assoc, Nat.reduceAdd, Try.results9])
  (refine ac' (nO_ac ?_); simp only [go_sem]; refine nF_ac _ _ _ _ _ _ ?_; try simp only [nD, go_sem, Nat.add_assoc, Nat.reduceAdd, Try.results9])
  (refine exs ⟨fun _ => ?_, fun h => Bool.noConfusion h⟩; simp only [go_sem, Nat.add_assoc, Nat.reduceAdd, Try.results9])
  refine ac' (gives_ac (e := e5N) (by kernel_rfl) (one_ok (by decide) (numN_ok (i64_small (by decide)))) (by decide) (.inr ⟨by decide, 0, g5⟩) _ _ _ ?_)
  try simp only [nD, go_sem, Nat.add_assoc, Nat.reduceAdd, Try.results9]
  (refine exs ⟨fun _ => ?_, fun h => Bool.noConfusion h⟩; simp only [go_sem, Nat.add_assoc, Nat.reduceAdd, Try.results9])
  (refine ac' (nF0_ac _ _ _ _ _ ?_); try simp only [nD, go_sem, Nat.add_assoc, Nat.reduceAdd, Try.results9])
  (refine exs ⟨fun _ => ?_, fun h => Bool.noConfusion h⟩; simp only [go_sem, Nat.add_assoc, Nat.reduceAdd, Try.results9])
  refine ac' (gives_ac (e := e6N) (by kernel_rfl) (leaf_ok (by decide)) (by decide) (.inr ⟨by decide, 0, g6⟩) _ _ _ ?_)
  try simp only [nD, go_sem, Nat.add_assoc, Nat.reduceAdd, Try.results9]
  (refine exs ⟨fun _ => ?_, fun h => Bool.noConfusion h⟩; simp only [go_sem, Nat.add_assoc, Nat.reduceAdd, Try.results9])
  (refine ac' (nF0_ac _ _ _ _ _ ?_); try simp only [nD, go_sem, Nat.add_assoc, Nat.reduceAdd, Try.results9])
  (refine exs ⟨fun _ => ?_, fun h => Bool.noConfusion h⟩; simp only [go_sem, Nat.add_assoc, Nat.reduceAdd, Try.results9])
  refine ac' (gives_ac (e := e7N) (by kernel_rfl) (leaf_ok (by decide)) (by decide) (.inr ⟨by decide, 0, g7⟩) _ _ _ ?_)
  try simp only [nD, go_sem, Nat.add_assoc, Nat.reduceAdd, Try.results9]
  (refine exs ⟨fun _ => ?_, fun h => Bool.noConfusion h⟩; simp only [go_sem, Nat.add_assoc, Nat.reduceAdd, Try.results9])
  refine ac' (gives_ac (e := allN 2) (by kernel_rfl) (allN_ok (by decide)) (by decide) (.inl ⟨rfl, g8⟩) _ _ _ ?_)
  try simp only [nD, go_sem, Nat.add_assoc, Nat.reduceAdd, Try.results9]
  (refine exs ⟨fun _ => ?_, fun h => Bool.noConfusion h⟩; simp only [go_sem, Nat.add_assoc, Nat.reduceAdd, Try.results9])
  refine ac' (gives_ac (e := allN 3) (by kernel_rfl) (allN_ok (by decide)) (by decide) (.inr ⟨by decide, 0, g9⟩) _ _ _ ?_)
  try simp only [nD, go_sem, Nat.add_assoc, Nat.reduceAdd, Try.results9]
  (refine exs ⟨fun _ => ?_, fun h => Bool.noConfusion h⟩; simp only [go_sem, Nat.add_assoc, Nat.reduceAdd, Try.results9])
  refine ac' (gives_ac (e := oldN) (by kernel_rfl) (oldN_ok) (by decide) (.inl ⟨rfl, g10⟩) _ _ _ ?_)
  try simp only [nD, go_sem, Nat.add_assoc, Nat.reduceAdd, Try.results9]
  (refine exs ⟨fun _ => ?_, fun h => Bool.noConfusion h⟩; simp only [go_sem, Nat.add_assoc, Nat.reduceAdd, Try.results9])
  refine ac' (gives_ac (e := oldN) (by kernel_rfl) (oldN_ok) (by decide) (.inr ⟨by decide, 0, g11⟩) _ _ _ ?_)
  try simp only [nD, go_sem, Nat.add_assoc, Nat.reduceAdd, Try.results9]
  have c1 : (((1 : Nat) : Int) == 1) = true := rfl
  have t2 : List.take 2 [iD 50, iD 7] = [iD 50, iD 7] := rfl
  have hc1 : cmpD Try.prog .eql 75 (.agg [iD 50, iD 7]) (.agg [D.int .i64 50, D.int .i64 7]) = some true := by kernel_rfl
  have hc2 : cmpD Try.prog .eql 67 (iD 1) (D.int .i64 1) = some true := by kernel_rfl
  simp only [c1, t2, hc1, hc2, Int.reduceToNat, List.getD_cons_zero, List.length_cons, List.length_nil, Option.getD_some, Option.isSome_some, Bool.and_self, true_and, forall_const]
  exact ⟨⟨by omega, by omega⟩, by omega, ⟨by omega, by omega⟩, by omega, ret_bd hbd rfl h⟩
end Go.Proofs.Ytfoblkeefpaceaa
end PartL4

section PartW3
/- The law of widths. -/
set_option linter.unusedSimpArgs false
set_option linter.unusedVariables false
set_option maxRecDepth 100000
namespace Go.Proofs.Ytfoblkeefpaceaa
open Go Go.Ab

theorem width_nil {S : Sy} {m p : Int} {e : Nd} {want : Int} (h : (widthR S m p e want).2 = []) : goodM S m p want = true ∧ dM S m p e want = [] ∧ (widthR S m p e want).1 = wM S m p e want := by
  unfold widthR at h ⊢
  cases hg : goodM S m p want with
  | false => rw [hg] at h; simp at h
  | true =>
    rw [hg] at h
    simp only [if_true] at h ⊢
    exact ⟨trivial, take20_nil.1 h, trivial⟩
theorem width_good {S : Sy} {m p : Int} {e : Nd} {want : Int} (hg : goodM S m p want = true) : widthR S m p e want = (wM S m p e want, (dM S m p e want).take 20) := by
  unfold widthR; rw [hg]; rfl
set_option maxHeartbeats 16000000 in
theorem law3_ac {S : Sy} (hS : S.Ok) (m p : Int) {e : Nd} (hok : e.Ok) (σ : St) (G : Glob) (R : A → St → Prop) (h : R (db true) σ) : AC Try.prog G 3 [.d (syD S), di m, di p, .d e.d] σ R := by
  have hsy : syD S = .agg [.sl 22 (S.mods.map moD), vrsD S.vars, .sl 12 (S.locks.map lkD), .sl 16 (S.procs.map prD), .sl 5 (S.threads.map thD)] := rfl
  rw [hsy, Nd.d_eq]
  refine ac_enterC [4, 7, 10] mixed Try.func3 rfl Try.ntmps3 (by simp only [go_sem]) fun hbd => ?_
  simp only [List.length_cons, List.length_nil, Nat.reduceAdd, Nat.reduceSub, List.replicate_succ, List.replicate_zero, List.cons_append, List.nil_append]
  simp only [go_sem, Try.results3]
  refine ac' (head_ac _ _ _ ?_)
  simp only [go_sem, Try.results3]
  refine aw_cut (fun fr st => shortM S = true ∧ smallM e = true ∧ usableM S = true ∧ fr = [.any, di m, di p, .any, .ref σ.length 0, .any, .any, .ref (σ.length + 1) 0, .any, db true, .any, .any, .any, .any, .any, .any, .any, .any, .any, .any, .any, .any, .any, .any, .any, .any, .any, .any, .any, .any, .any, .any, .any, .any, .any, .any, .any, .any, .any, .any, .any, .any, .any, .any, .any, .any, .any, .any, .any, .any, .any, .any, .any, .any, .any, .any, .any, .any, .any, .any, .any, .any, .any, .any, .any, .any, .any, .any, .any, .any, .any, .any, .any, .any, .any, .any, .any, .any, .any, .any, .any, .any, .any, .any, .any, .any, .any, .any, .any, .any, .any, .any, .any, .any, .any, .any, .any] ∧ st = σ ++ [scs S, ncs e]) ?_ ?_
  · simp only [go_sem, Try.results3]
    rw [← hsy]
    refine ac' (short_ac S hS _ _ _ ?_)
    simp only [go_sem, Try.results3]
    refine ex' (.bool (smallM e)) ⟨fun q => ?_, ?_⟩
    · simp only [go_sem, Try.results3]
      rw [← Nd.d_eq]
      exact ⟨by simpa using q, ac' (small_ac hok _ _ _ ⟨rfl, rfl⟩)⟩
    simp only [go_sem, Try.results3]
    refine ⟨fun q => by simpa using q, ex' (.bool (usableM S)) ⟨fun q => ?_, ?_⟩⟩
    · simp only [go_sem, Try.results3]
      rw [← hsy]
      exact ⟨by simpa using q, ac' (rusable_ac S hS _ _ _ ⟨rfl, rfl⟩)⟩
    simp only [go_sem, Try.results3]
    refine ⟨fun c => ret_bd hbd rfl h, fun c => ?_⟩
    simp only [Bool.or_eq_false_iff, Bool.not_eq_false'] at c
    exact Wk.keep [1, 2, 4, 7, 9] [0, 1] (by decide) (Nat.le_refl _) hbd ⟨c.1.1, c.1.2, c.2, by (simp only [go_sem]) <;> rfl, by (simp only [go_sem]) <;> rfl⟩
  rintro fr st ⟨h1, h2, h3, rfl, rfl⟩
  have hsf := short_fit h1
  have hn : e.nodes ≤ 10000 := by unfold smallM at h2; simp at h2; omega
  obtain ⟨w, d, hwd⟩ : ∃ w d, widthR S m p e 0 = (w, d) := ⟨_, _, rfl⟩
  simp only [go_sem, Try.results3]
  rw [← hsy, ← Nd.d_eq]
  refine ac' (widthF_ac hS m p hok hn 0 _ _ _ ?_)
  rw [hwd]
  simp only [dgsD, List.length_map, go_sem, Try.results3]
  refine aw_cut (fun fr st => d = [] ∧ fr = [.any, di m, di p, .any, .ref σ.length 0, .any, .any, .ref (σ.length + 1) 0, .any, db true, di w, .any, .any, .any, .any, .any, .any, .any, .any, .any, .any, .any, .any, .any, .any, .any, .any, .any, .any, .any, .any, .any, .any, .any, .any, .any, .any, .any, .any, .any, .any, .any, .any, .any, .any, .any, .any, .any, .any, .any, .any, .any, .any, .any, .any, .any, .any, .any, .any, .any, .any, .any, .any, .any, .any, .any, .any, .any, .any, .any, .any, .any, .any, .any, .any, .any, .any, .any, .any, .any, .any, .any, .any, .any, .any, .any, .any, .any, .any, .any, .any, .any, .any, .any, .any, .any, .any] ∧ st = σ ++ [scs S, ncs e]) ?_ ?_
  · simp only [List.length_map, go_sem, Try.results3]
    refine ⟨fun c => ret_bd hbd rfl h, fun c => ?_⟩
    have hd : d = [] := by
      have : ¬ (0 : Int) < (d.length : Int) := of_decide_eq_false c
      exact List.length_eq_zero_iff.1 (by omega)
    exact Wk.keep [1, 2, 4, 7, 9, 10] [0, 1] (by decide) (Nat.le_refl _) hbd ⟨hd, by (simp only [go_sem]) <;> rfl, by (simp only [go_sem]) <;> rfl⟩
  rintro fr st ⟨rfl, rfl, rfl⟩
  obtain ⟨g1, g2, g3⟩ := width_nil (S := S) (m := m) (p := p) (e := e) (want := 0) (by rw [hwd])
  rw [hwd] at g3
  have g3 : w = wM S m p e 0 := g3
  obtain ⟨o, ho⟩ : ∃ o, o = ownM (den (declM S m p) []) e := ⟨_, rfl⟩
  have law := fun (v : Int) (hv : 1 ≤ v ∧ v ≤ 8) => widths_law g1 g2 hv
  rw [← ho, ← g3] at law
  have howw : o ≠ 0 → o = w := (law 1 (by omega)).2.2.2.2
  simp only [go_sem, Try.results3]
  have hcx : cxD S m p false = .agg [.sl 22 (S.mods.map moD), vrsD S.vars, .sl 12 (S.locks.map lkD), .sl 16 (S.procs.map prD), .sl 5 (S.threads.map thD), iD m, iD p, .nils, .bool false] := rfl
  rw [← hcx, ← Nd.d_eq]
  refine ac' (rown_ac S hS m p false G e hok _ _ ?_)
  rw [← ho]
  simp only [go_sem, Try.results3]
  refine aw_cut (fun fr st => fr = [.any, di m, di p, .any, .ref σ.length 0, .any, .any, .ref (σ.length + 1) 0, .any, db true, di w, .any, di o, .any, .any, .any, .any, .any, .any, .any, .any, .any, .any, .any, .any, .any, .any, .any, .any, .any, .any, .any, .any, .any, .any, .any, .any, .any, .any, .any, .any, .any, .any, .any, .any, .any, .any, .any, .any, .any, .any, .any, .any, .any, .any, .any, .any, .any, .any, .any, .any, .any, .any, .any, .any, .any, .any, .any, .any, .any, .any, .any, .any, .any, .any, .any, .any, .any, .any, .any, .any, .any, .any, .any, .any, .any, .any, .any, .any, .any, .any, .any, .any, .any, .any, .any, .any] ∧ st = σ ++ [scs S, ncs e]) ?_ ?_
  · have hc : (o != 0 && o != w) = false := by
      by_cases h0 : o = 0
      · simp [h0]
      · simp [howw h0]
    simp only [go_sem, hc, Try.results3]
    exact Wk.keep [1, 2, 4, 7, 9, 10, 12] [0, 1] (by decide) (Nat.le_refl _) hbd ⟨by (simp only [go_sem]) <;> rfl, by (simp only [go_sem]) <;> rfl⟩
  rintro fr st ⟨rfl, rfl⟩
  simp only [go_sem, Try.results3]
  refine aw_loop (fun q fr st => ∃ v : Nat, 1 ≤ v ∧ v ≤ 9 ∧ q = 9 - v ∧ fr = [.any, di m, di p, .any, .ref σ.length 0, .any, .any, .ref (σ.length + 1) 0, .any, db true, di w, .any, di o, dn v, .any, .any, .any, .any, .any, .any, .any, .any, .any, .any, .any, .any, .any, .any, .any, .any, .any, .any, .any, .any, .any, .any, .any, .any, .any, .any, .any, .any, .any, .any, .any, .any, .any, .any, .any, .any, .any, .any, .any, .any, .any, .any, .any, .any, .any, .any, .any, .any, .any, .any, .any, .any, .any, .any, .any, .any, .any, .any, .any, .any, .any, .any, .any, .any, .any, .any, .any, .any, .any, .any, .any, .any, .any, .any, .any, .any, .any, .any, .any, .any, .any, .any, .any] ∧ st = σ ++ [scs S, ncs e]) 8 _ ?_ ?_
  · exact Wk.keep [1, 2, 4, 7, 9, 10, 12, 13] [0, 1] (by decide) (Nat.le_refl _) hbd ⟨1, by omega, by omega, by omega, by (simp only [go_sem]) <;> rfl, by (simp only [go_sem]) <;> rfl⟩
  rintro q fr st ⟨v, hv1, hv9, hq, rfl, rfl⟩
  rcases Nat.lt_or_ge v 9 with hlt | hge
  · have hd : decide ((v : Int) ≤ 8) = true := decide_eq_true (by omega)
    have w1 := wrapS v (by omega)
    obtain ⟨l1, l2, l3, l4, -⟩ := law v (by omega)
    simp only [go_sem, hd, Try.results3]
    rw [← hsy, ← Nd.d_eq]
    refine ac' (widthF_ac hS m p hok hn v _ _ _ ?_)
    rw [width_good l1, l2]
    obtain ⟨d, hd2⟩ : ∃ d, d = (dM S m p e v).take 20 := ⟨_, rfl⟩
    rw [← hd2]
    simp only [dgsD, List.length_map, go_sem, w1, Try.results3]
    have hz : ((v : Int) != (v : Int) || (v : Int) == w && decide (0 < (d.length : Int)) || (v : Int) != w && o != 0 && (d.length : Int) == 0) = false := by
      have x1 : ((v : Int) != (v : Int)) = false := by simp
      rw [x1, Bool.false_or]
      by_cases hvw : (v : Int) = w
      · have hd0 : d = [] := by rw [hd2, l3 hvw]; rfl
        subst hd0
        simp [hvw]
      · by_cases h0 : o = 0
        · simp [h0, hvw]
        · have hd0 : d ≠ [] := by rw [hd2]; exact fun hh => l4 hvw h0 (take20_nil.1 hh)
          simp [hvw, h0, hd0]
    rw [hz]
    refine ⟨fun a => ⟨a, fun b => by rw [a, b]; rfl⟩, fun a => ⟨a, fun b => by rw [a, b]; rfl⟩, fun a => ⟨a, fun b => by rw [a, b]; rfl⟩, fun c => Bool.noConfusion c, fun _ => ?_⟩
    exact Wk.keep [1, 2, 4, 7, 9, 10, 12, 13] [0, 1] (by decide) (Nat.le_refl _) hbd ⟨9 - (v + 1), by omega, v + 1, by omega, by omega, rfl, by (simp only [go_sem]) <;> rfl, by (simp only [go_sem]) <;> rfl⟩
  · have hd : decide ((v : Int) ≤ 8) = false := decide_eq_false (by omega)
    simp only [go_sem, hd, Try.results3]
    exact ret_bd hbd rfl h
end Go.Proofs.Ytfoblkeefpaceaa
end PartW3

section PartW8
/- The law of bound variables. -/
set_option linter.unusedSimpArgs false
set_option linter.unusedVariables false
set_option maxRecDepth 100000
namespace Go.Proofs.Ytfoblkeefpaceaa
open Go Go.Ab

def someN (nm : Str) (N : Int) (e : Nd) : Nd := .mk 8 nm [] N 0 0 false [e] 0
theorem ren_ok (f t : Str) (ht : t.length ≤ reachBytes) : ∀ e : Nd, (e.Ok → (renM f t e).Ok) ∧ (renM f t e).nodes = e.nodes := by
  refine Nd.ind (by rw [ren_none]; exact ⟨fun h => h, rfl⟩) fun e _ hk => ⟨fun hok => ?_, ?_⟩
  · refine .mk (by rw [ren_kids, renKids_len]; exact hok.len) ?_ (by rw [ren_n]; exact hok.num) fun k hm => ?_
    · rw [ren_name]
      split
      · exact ht
      · exact hok.nm
    · rw [ren_kids] at hm
      have ho : ∀ k ∈ e.kids, k.Ok := by cases hok with | mk _ _ _ h => exact h
      have h2 : ∀ k ∈ e.kids.map (renM f t), k.Ok := fun k hk' => by
        obtain ⟨y, hy, rfl⟩ := List.mem_map.1 hk'
        exact (hk y hy).1 (ho y hy)
      unfold renKids at hm
      split at hm
      · rcases List.mem_append.1 hm with h3 | h3
        · exact ho k (List.mem_of_mem_take h3)
        · exact h2 k (List.mem_of_mem_drop h3)
      · exact h2 k hm
  · rw [Nd.nodes_eq, Nd.nodes_eq e, ren_kids]
    have h2 : (e.kids.map (renM f t)).map Nd.nodes = e.kids.map Nd.nodes := by
      rw [List.map_map]; exact List.map_congr_left fun k hk' => (hk k hk').2
    congr 2
    unfold renKids
    split
    · rw [List.map_append, List.map_drop, h2, ← List.map_drop, ← List.map_append, List.take_append_drop]
    · exact h2
theorem some_ok {s : Str} {N : Int} {k : Nd} (hN : I64 N) (h1 : s.length ≤ reachBytes) (h2 : k.Ok) : (someN s N k).Ok := nN_ok h1 (by simp only [List.length_cons, List.length_nil]; decide) hN (fun e he => by
    simp only [List.mem_cons, List.not_mem_nil, or_false] at he; subst he; exact h2)
theorem some_nodes {s : Str} {N : Int} {k : Nd} : (someN s N k).nodes = 1 + k.nodes := by simp [someN, Nd.nodes, Nd.nodesL]
theorem some_d (s : Str) (N : Int) (k : Nd) : (someN s N k).d = .agg [iD 8, .str s, .str [], iD N, iD 0, iD 0, .bool false, .sl 9 [k.d], iD 0] := by
  simp [someN, Nd.d, Nd.ds]
theorem some_width (S : Sy) (m p : Int) (nm : Str) (N : Int) (e : Nd) : widthR S m p (someN nm N e) 0 = if goodM S m p 0 then (1, (rep (decide (N < 0) || decide (8 < N)) 2 0 ++ exprM (cxM S m p (decide (p < 0))) e [(nm, N)] 1).take 20) else (0, [⟨1, 0⟩]) := by
  have h1 : wM S m p (someN nm N e) 0 = 1 := by
    unfold wM widthM
    rw [own_eq]
    simp [someN, Nd.kind]
  unfold widthR
  rw [h1]
  unfold dM
  rw [h1, expr_eq]
  simp [someN, Nd.kind, Nd.kid, Nd.kids, Nd.pos, Nd.n, Nd.name]
  rfl
theorem some_same (S : Sy) (m p : Int) (nm fr : Str) (N : Int) (e : Nd) (hf : fr ≠ []) (ho : occursM fr e = false) : widthR S m p (someN fr N (renM nm fr e)) 0 = widthR S m p (someN nm N e) 0 := by
  rw [some_width, some_width]
  have : exprM (cxM S m p (decide (p < 0))) (renM nm fr e) [(fr, N)] 1 = exprM (cxM S m p (decide (p < 0))) e [(nm, N)] 1 := binding_law _ _ nm fr hf e ho N 1
  rw [this]
theorem tg_shape (t : Tg) : ∃ a b f : Int, tgA t = .tup [.d (.agg [iD a, iD b]), di f] := by
  cases t <;> exact ⟨_, _, _, rfl⟩
theorem width_len (S : Sy) (m p : Int) (e : Nd) (w : Int) : (widthR S m p e w).2.length ≤ 20 := by
  unfold widthR
  split
  · simp only [List.length_take]; omega
  · simp
abbrev freshS : Str := [102, 114, 101, 115, 104]
set_option maxHeartbeats 16000000 in
theorem law8_ac {S : Sy} (hS : S.Ok) (m p : Int) {e : Nd} (hok : e.Ok) (many : Nat) (hmany : many ≤ 255) (nm : Str) (hnm : nm.length ≤ reachBytes) (σ : St) (G : Glob) (R : A → St → Prop) (h : R (db true) σ) : AC Try.prog G 8 [.d (syD S), di m, di p, .d e.d, .d (.int .u8 many), .d (.str nm)] σ R := by
  have hsy : syD S = .agg [.sl 22 (S.mods.map moD), vrsD S.vars, .sl 12 (S.locks.map lkD), .sl 16 (S.procs.map prD), .sl 5 (S.threads.map thD)] := rfl
  rw [hsy, Nd.d_eq]
  refine ac_enterC [4, 8, 12] mixed Try.func8 rfl Try.ntmps8 (by simp only [go_sem]) fun hbd => ?_
  simp only [List.length_cons, List.length_nil, Nat.reduceAdd, Nat.reduceSub, List.replicate_succ, List.replicate_zero, List.cons_append, List.nil_append]
  simp only [go_sem, Try.results8]
  refine ac' (head_ac _ _ _ ?_)
  simp only [go_sem, Try.results8]
  refine aw_cut (fun fr st => smallM e = true ∧ shortM S = true ∧ fr = [.any, di m, di p, .any, .d (.int .u8 many), .d (.str nm), .ref σ.length 0, .any, .any, .ref (σ.length + 1) 0, .any, .any, .any, db true, .any, .any, .any, .any, .any, .any, .any, .any, .any, .any, .any, .any, .any, .any, .any, .any, .any, .any, .any, .any, .any, .any, .any, .any, .any, .any, .any, .any, .any, .any, .any, .any, .any, .any, .any, .any, .any, .any, .any, .any, .any, .any, .any, .any, .any, .any, .any, .any, .any, .any, .any, .any, .any, .any, .any, .any, .any, .any, .any, .any, .any, .any, .any, .any, .any, .any, .any, .any, .any, .any, .any, .any, .any, .any, .any, .any, .any, .any, .any, .any, .any, .any, .any, .any, .any, .any] ∧ st = σ ++ [scs S, ncs e]) ?_ ?_
  · simp only [go_sem, Try.results8]
    rw [← hsy]
    refine ac' (short_ac S hS _ _ _ ?_)
    simp only [go_sem, Try.results8]
    refine ex' (.bool (smallM e)) ⟨fun q => ?_, ?_⟩
    · simp only [go_sem, Try.results8]
      rw [← Nd.d_eq]
      exact ⟨by simpa using q, ac' (small_ac hok _ _ _ ⟨rfl, rfl⟩)⟩
    simp only [go_sem, Try.results8]
    refine ⟨fun q => by simpa using q, ex' (.bool (usableM S)) ⟨fun q => ?_, ?_⟩⟩
    · simp only [go_sem, Try.results8]
      rw [← hsy]
      exact ⟨by simpa using q, ac' (rusable_ac S hS _ _ _ ⟨rfl, rfl⟩)⟩
    simp only [go_sem, Try.results8]
    refine ⟨fun c => ret_bd hbd rfl h, fun c => ?_⟩
    simp only [Bool.or_eq_false_iff, Bool.not_eq_false'] at c
    exact Wk.keep [1, 2, 4, 5, 6, 9, 13] [0, 1] (by decide) (Nat.le_refl _) hbd ⟨c.1.2, c.1.1, by (simp only [go_sem]) <;> rfl, by (simp only [go_sem]) <;> rfl⟩
  rintro fr st ⟨h1, h2, rfl, rfl⟩
  have hn : e.nodes ≤ 10000 := by unfold smallM at h1; simp at h1; omega
  simp only [go_sem, Try.results8]
  rw [← hsy]
  refine ac' (rlook_ac S hS _ _ _ (by decide) _ _ _ ?_)
  obtain ⟨a, b, f, hf⟩ := tg_shape (lookM S m p [102, 114, 101, 115, 104])
  rw [hf]
  simp only [go_sem, Try.results8]
  refine aw_cut (fun fr st => occursM freshS e = false ∧ fr = [.any, di m, di p, .any, .d (.int .u8 many), .d (.str nm), .ref σ.length 0, .any, .any, .ref (σ.length + 1) 0, .any, .any, .any, db true, .d (.str freshS), .any, .any, .any, .any, .any, .any, .any, .any, .any, .any, .any, .any, .any, .any, .any, .any, .any, .any, .any, .any, .any, .any, .any, .any, .any, .any, .any, .any, .any, .any, .any, .any, .any, .any, .any, .any, .any, .any, .any, .any, .any, .any, .any, .any, .any, .any, .any, .any, .any, .any, .any, .any, .any, .any, .any, .any, .any, .any, .any, .any, .any, .any, .any, .any, .any, .any, .any, .any, .any, .any, .any, .any, .any, .any, .any, .any, .any, .any, .any, .any, .any, .any, .any, .any, .any] ∧ st = σ ++ [scs S, ncs e]) ?_ ?_
  · simp only [go_sem, Try.results8]
    refine ex' (.bool (occursM freshS e)) ⟨fun q => ?_, ?_⟩
    · simp only [go_sem, Try.results8]
      rw [← Nd.d_eq]
      exact ⟨by simpa using q, ac' (occ_ac freshS e hok _ _ _ ⟨rfl, rfl⟩)⟩
    simp only [go_sem, Try.results8]
    refine ⟨fun c => ret_bd hbd rfl h, fun c => ?_⟩
    simp only [Bool.or_eq_false_iff] at c
    exact Wk.keep [1, 2, 4, 5, 6, 9, 13, 14] [0, 1] (by decide) (Nat.le_refl _) hbd ⟨c.2, by (simp only [go_sem]) <;> rfl, by (simp only [go_sem]) <;> rfl⟩
  rintro fr st ⟨h3, rfl, rfl⟩
  simp only [go_sem, Try.results8]
  (refine ac' (nO_ac ?_); simp only [go_sem]; refine nF_ac _ _ _ _ _ _ ?_; try simp only [nD, go_sem, Nat.add_assoc, Nat.reduceAdd, Try.results8])
  have hN : IntKind.i64.wrap ((many : Int).tmod 9) = ((many % 9 : Nat) : Int) := by
    have : ((many : Int).tmod 9) = ((many % 9 : Nat) : Int) := (Int.ofNat_tmod many 9).symm
    rw [this]; exact wrap64_id _ (by omega) (by omega)
  have hN2 : many % 9 < 9 := Nat.mod_lt _ (by omega)
  generalize many % 9 = N at hN hN2
  refine ⟨by decide, ?_⟩
  rw [← Nd.d_eq]
  have hs := some_same S m p nm freshS N e (by decide) h3
  have hren := ren_ac nm freshS e hn
  have hto := (ren_ok nm freshS (by decide) e).1 hok
  have htn := (ren_ok nm freshS (by decide) e).2
  generalize renM nm freshS e = t at hs hren hto htn
  refine ac' (hren _ _ _ ?_)
  rw [Nd.d_eq t]
  simp only [go_sem, hN, Try.results8]
  refine ac' (nO_ac ?_)
  simp only [go_sem]
  refine nF_ac _ _ _ _ _ _ ?_
  simp only [nD, go_sem, Nat.add_assoc, Nat.reduceAdd, hN, Try.results8]
  refine aw_cut (fun fr st => fr = [.any, di m, di p, .any, .any, .any, .ref σ.length 0, .any, .any, .any, .any, .any, .any, db true, .any, .any, .any, .ref (σ.length + 1) 0, .ref (σ.length + 2) 0, .any, .any, .any, .any, .any, .any, .any, .any, .any, .any, .any, .any, .any, .any, .any, .any, .any, .any, .any, .any, .any, .any, .any, .any, .any, .any, .any, .any, .any, .any, .any, .any, .any, .any, .any, .any, .any, .any, .any, .any, .any, .any, .any, .any, .any, .any, .any, .any, .any, .any, .any, .any, .any, .any, .any, .any, .any, .any, .any, .any, .any, .any, .any, .any, .any, .any, .any, .any, .any, .any, .any, .any, .any, .any, .any, .any, .any, .any, .any, .any, .any] ∧ st = σ ++ [scs S, oN 8 nm N [e.d], oN 8 freshS N [t.d]]) ?_ ?_
  · simp only [go_sem, hN, Try.results8]
    refine ⟨by decide, ?_⟩
    rw [← Nd.d_eq e, ← Nd.d_eq t]
    exact Wk.keep [1, 2, 6, 13, 17, 18] [0, 3, 5] (by decide) (Nat.le_refl _) hbd ⟨by (simp only [go_sem]) <;> rfl, by (simp only [go_sem]) <;> rfl⟩
  rintro fr st ⟨rfl, rfl⟩
  simp only [go_sem, Try.results8]
  have hi : I64 (N : Int) := by unfold I64; omega
  have hae := some_d nm N e
  have hbe := some_d freshS N t
  have hw1 := widthF_ac hS m p (some_ok hi hnm hok) (by rw [some_nodes]; unfold smallM at h1; simp at h1; omega) 0
  have hw2 := widthF_ac hS m p (some_ok hi (by decide : freshS.length ≤ reachBytes) hto) (by rw [some_nodes, htn]; unfold smallM at h1; simp at h1; omega) 0
  rw [hae] at hw1
  rw [hbe, hs] at hw2
  have hlen : (widthR S m p (someN nm N e) 0).2.length ≤ reachBytes := by
    have := width_len S m p (someN nm N e) 0
    have hre : 20 ≤ reachBytes := by decide
    omega
  obtain ⟨w, d, hwd⟩ : ∃ w d, widthR S m p (someN nm N e) 0 = (w, d) := ⟨_, _, rfl⟩
  rw [hwd] at hw1 hw2 hlen
  rw [← hsy]
  refine ac' (hw1 _ _ _ ?_)
  simp only [go_sem, Try.results8]
  rw [← hsy]
  refine ac' (hw2 _ _ _ ?_)
  have hsd := same_ac d d hlen hlen
  rw [beq_self_eq_true] at hsd
  simp only [go_sem, beq_self_eq_true, Try.results8]
  refine ex' (.bool true) ⟨fun q => ?_, ?_⟩
  · simp only [go_sem, Try.results8]
    exact ac' (hsd _ _ _ ⟨rfl, rfl⟩)
  simp only [go_sem, beq_self_eq_true, Try.results8]
  exact ret_bd hbd rfl h
end Go.Proofs.Ytfoblkeefpaceaa
end PartW8
