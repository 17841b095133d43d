import Derived.Test.YtfoblkeefpaceaaX65
import Derived.Test.YtfoblkeefpaceaaX62

section PartL1
/- The law package: sizes of trees. -/
set_option linter.unusedSimpArgs false
set_option linter.unusedVariables false
set_option maxRecDepth 100000
namespace Go.Proofs.Ytfoblkeefpaceaa
open Go Go.Ab

def sumN (l : List Nd) : Nat := (l.map Nd.nodes).sum
theorem sumN_take {l : List Nd} {j : Nat} (h : j < l.length) : sumN (l.take (j + 1)) = sumN (l.take j) + (l.getD j Nd.none).nodes := by
  unfold sumN
  rw [take_getD Nd.none h]; simp
theorem sumN_le (l : List Nd) (j : Nat) : sumN (l.take j) ≤ sumN l := by
  unfold sumN
  conv => rhs; rw [← List.take_append_drop j l]
  rw [List.map_append, List.sum_append]; omega
theorem nodes_sum (e : Nd) : e.nodes = 1 + sumN e.kids := Nd.nodes_eq e
def FewAt (e : Nd) : Prop := ∀ lim : Int, I64 lim → ∀ (σ : St) (G : Glob) (R : A → St → Prop), R (di (min (e.nodes : Int) (max lim 0))) σ → AC Try.prog G 30 [.d e.d, di lim] σ R
set_option maxHeartbeats 4000000 in
theorem few_step (e : Nd) (hok : e.Ok) (ih : ∀ k ∈ e.kids, FewAt k) : FewAt e := by
  intro lim hlim σ G R h
  have hre : reachBytes < 9223372036854775806 := by decide
  have hl := hok.len
  unfold I64 at hlim
  have hn := nodes_sum e
  rw [Nd.d_eq]
  refine ac_enter mixed Try.func30 rfl Try.ntmps30 (by simp only [go_sem]) fun hbd => ?_
  simp only [List.length_cons, List.length_nil, Nat.reduceAdd, Nat.reduceSub, List.replicate_succ, List.replicate_zero, List.cons_append, List.nil_append]
  simp only [go_sem, Try.results30]
  refine aw_loop (fun m fr st => ∃ j : Nat, j ≤ e.kids.length ∧ m = e.kids.length - j ∧ fr = [.any, di lim, .ref σ.length 0, .any, .any, di (min (1 + (sumN (e.kids.take j) : Int)) (max lim 1)), dn j, .any, .any, .any, .any, .any, .any, .any, .any, .any, .any, .any, .any, .any, .any, .any, .any, .any, .any, .any, .any, .any, .any, .any, .any, .any, .any, .any] ∧ st = σ ++ [ncs e]) e.kids.length _ ?_ ?_
  · refine Wk.mask [1, 2, 5, 6] ⟨0, by omega, by omega, ?_, rfl⟩
    have : (min (1 + (sumN (e.kids.take 0) : Int)) (max lim 1)) = 1 := by simp only [List.take_zero, sumN, List.map_nil, List.sum_nil]; omega
    rw [this]; rfl
  rintro m fr st ⟨j, hj, hm, rfl, rfl⟩
  have hle := sumN_le e.kids j
  obtain ⟨s, hs⟩ : ∃ s, s = sumN (e.kids.take j) := ⟨_, rfl⟩
  obtain ⟨k, hk⟩ : ∃ k, k = min (1 + (s : Int)) (max lim 1) := ⟨_, rfl⟩
  rw [← hs] at hle
  rw [← hs, ← hk]
  have hend : k ≥ lim ∨ e.kids.length ≤ j → R (di (min k (max lim 0))) σ := fun hh => by
    have : min k (max lim 0) = min (e.nodes : Int) (max lim 0) := by
      rcases hh with hh | hh
      · omega
      · rw [List.take_of_length_le hh] at hs
        omega
    rw [this]; exact h
  rcases Nat.lt_or_ge j e.kids.length with hlt | hge
  · have hd : decide ((j : Int) < (e.kids.length : Int)) = true := by simp; omega
    rcases (Decidable.em (k < lim)).imp id (fun h : ¬ k < lim => (by omega : k ≥ lim)) with hkl | hkl
    · have hd2 : decide (k < lim) = true := decide_eq_true hkl
      have e1 := kid_d hlt
      have w1 := wrapS j (by omega)
      have hsn := sumN_take hlt
      rw [← hs] at hsn
      have ihj := ih _ (getD_mem Nd.none hlt)
      have hkd : e.kids.getD j Nd.none = e.kid j := rfl
      rw [hkd] at hsn ihj
      have w2 : IntKind.i64.wrap (lim - k) = lim - k := wrap64_id _ (by omega) (by omega)
      have w3 : IntKind.i64.wrap (k + min ((e.kid j).nodes : Int) (max (lim - k) 0)) = min (1 + (sumN (e.kids.take (j + 1)) : Int)) (max lim 1) := by
        rw [hsn]
        have : k + min ((e.kid j).nodes : Int) (max (lim - k) 0) = min (1 + ((s + (e.kid j).nodes : Nat) : Int)) (max lim 1) := by omega
        rw [this]
        exact wrap64_id _ (by omega) (by omega)
      simp only [go_sem, hd, hd2, e1, w1, w2, Nd.cs, List.length_map, Try.results30]
      rw [← Nd.d_eq (e.kid j)]
      refine ⟨⟨by omega, by omega⟩, ac' (ihj (lim - k) (by unfold I64; omega) _ _ _ ?_)⟩
      simp only [go_sem, w1, w3, Try.results30]
      exact Wk.mask [1, 2, 5, 6] ⟨e.kids.length - (j + 1), by omega, j + 1, by omega, rfl, rfl, rfl⟩
    · have hd2 : decide (k < lim) = false := decide_eq_false (by omega)
      simp only [go_sem, hd, hd2, List.length_map, Try.results30]
      exact ret_bd hbd rfl (hend (.inl hkl))
  · have hd : decide ((j : Int) < (e.kids.length : Int)) = false := by simp; omega
    simp only [go_sem, hd, List.length_map, Try.results30]
    exact ret_bd hbd rfl (hend (.inr hge))
theorem few_ac : ∀ e : Nd, e.Ok → FewAt e := by
  refine Nd.ind (fun _ => few_step _ Nd.none_ok fun k hk => by cases hk) fun e _ hk hok => few_step e hok fun k hm => hk k hm ?_
  cases hok with | mk _ _ _ h => exact h k hm
def smallM (e : Nd) : Bool := decide (e.nodes ≤ 120)
theorem small_ac {e : Nd} (hok : e.Ok) (σ : St) (G : Glob) (R : A → St → Prop) (h : R (db (smallM e)) σ) : AC Try.prog G 11 [.d e.d] σ R := by
  rw [Nd.d_eq]
  refine ac_enter mixed Try.func11 rfl Try.ntmps11 (by simp only [go_sem]) fun hbd => ?_
  simp only [List.length_cons, List.length_nil, Nat.reduceAdd, Nat.reduceSub, List.replicate_succ, List.replicate_zero, List.cons_append, List.nil_append]
  simp only [go_sem, Try.results11]
  rw [← Nd.d_eq]
  refine ac' (few_ac e hok 121 (by unfold I64; omega) _ _ _ ?_)
  have : decide (min (e.nodes : Int) (max 121 0) ≤ 120) = smallM e := by unfold smallM; rw [decide_eq_decide]; omega
  simp only [go_sem, this, Try.results11]
  exact ret_bd hbd rfl h
end Go.Proofs.Ytfoblkeefpaceaa
end PartL1

section PartL2
/- The law package: short symbols. -/
set_option linter.unusedSimpArgs false
set_option linter.unusedVariables false
set_option maxRecDepth 100000
namespace Go.Proofs.Ytfoblkeefpaceaa
open Go Go.Ab

def shMo (m : Mo) : Bool := smallM m.rely && smallM m.guar && decide (m.frame.length ≤ 12)
def shPr (p : Pr) : Bool := smallM p.body && decide (p.params.length ≤ 12) && decide (p.locals.length ≤ 12)
def shortM (S : Sy) : Bool := decide (S.mods.length ≤ 12 ∧ S.vars.length ≤ 40 ∧ S.locks.length ≤ 12 ∧ S.procs.length ≤ 12 ∧ S.threads.length ≤ 12) && S.mods.all shMo && S.locks.all (fun l => smallM l.inv) && S.procs.all shPr
theorem small_fit {e : Nd} (h : smallM e = true) : FitB [] e := fit_nil (by unfold smallM at h; simp at h; omega)
theorem short_fit {S : Sy} (h : shortM S = true) : S.Fit := by
  unfold shortM at h
  simp only [Bool.and_eq_true, List.all_eq_true] at h
  obtain ⟨⟨⟨-, h1⟩, h2⟩, h3⟩ := h
  refine ⟨fun m hm => ?_, fun l hl => small_fit (h2 l hl), fun p hp => ?_⟩
  · have := h1 m hm
    unfold shMo at this
    simp only [Bool.and_eq_true] at this
    exact ⟨small_fit this.1.1, small_fit this.1.2⟩
  · have := h3 p hp
    unfold shPr at this
    simp only [Bool.and_eq_true] at this
    exact small_fit this.1.1
set_option maxHeartbeats 8000000 in
theorem short_ac (S : Sy) (hS : S.Ok) (σ : St) (G : Glob) (R : A → St → Prop) (h : R (db (shortM S)) σ) : AC Try.prog G 10 [.d (syD S)] σ R := by
  have hre : reachBytes < 9223372036854775806 := by decide
  have hl := hS.mods
  have hlv := hS.vars
  have hll := hS.locks
  have hlp := hS.procs
  have hsy : syD S = .agg [.sl 22 (S.mods.map moD), .sl 7 (S.vars.map vrD), .sl 12 (S.locks.map lkD), .sl 16 (S.procs.map prD), .sl 5 (S.threads.map thD)] := rfl
  rw [hsy]
  refine ac_enter mixed Try.func10 rfl Try.ntmps10 (by simp only [go_sem]) fun hbd => ?_
  simp only [List.length_cons, List.length_nil, Nat.reduceAdd, Nat.reduceSub, List.replicate_succ, List.replicate_zero, List.cons_append, List.nil_append]
  obtain ⟨b, hb⟩ : ∃ b, b = decide (S.mods.length ≤ 12 ∧ S.vars.length ≤ 40 ∧ S.locks.length ≤ 12 ∧ S.procs.length ≤ 12 ∧ S.threads.length ≤ 12) := ⟨_, rfl⟩
  have hc : (decide (12 < (S.mods.length : Int)) || decide (40 < (S.vars.length : Int)) || decide (12 < (S.locks.length : Int)) || decide (12 < (S.procs.length : Int)) || decide (12 < (S.threads.length : Int))) = !b := by
    rw [hb, Bool.eq_iff_iff]; simp; omega
  simp only [go_sem, List.length_map, hc, Try.results10]
  cases b with
  | false =>
    have : shortM S = false := by unfold shortM; rw [← hb]; rfl
    rw [this] at h
    simp only [Bool.not_false]
    exact ⟨fun _ => ret_bd hbd rfl h, fun c => Bool.noConfusion c⟩
  | true =>
  simp only [Bool.not_true]
  refine ⟨fun c => Bool.noConfusion c, fun _ => ?_⟩
  have hu : shortM S = (S.mods.all shMo && S.locks.all (fun l => smallM l.inv) && S.procs.all shPr) := by unfold shortM; rw [← hb]; rfl
  clear hc hb
  refine aw_loop (fun m fr st => ∃ j : Nat, j ≤ S.mods.length ∧ m = S.mods.length - j ∧ (S.mods.take j).all shMo = true ∧ fr = [.any, .ref σ.length 0, .any, dn j, .any, .any, .any, .any, .any, .any, .any, .any, .any, .any, .any, .any, .any, .any, .any, .any, .any, .any, .any, .any, .any, .any, .any, .any, .any, .any, .any, .any, .any, .any, .any, .any, .any, .any, .any, .any, .any, .any, .any, .any, .any, .any, .any, .any, .any, .any, .any, .any, .any, .any, .any, .any, .any, .any, .any, .any, .any, .any, .any, .any, .any, .any, .any, .any, .any, .any, .any, .any, .any, .any, .any, .any, .any, .any, .any, .any, .any, .any, .any, .any, .any, .any, .any, .any, .any, .any, .any, .any, .any, .any, .any, .any, .any, .any, .any, .any, .any, .any, .any, .any, .any, .any, .any] ∧ st = σ ++ [some (.cells [.d (.sl 22 (S.mods.map moD)), .d (.sl 7 (S.vars.map vrD)), .d (.sl 12 (S.locks.map lkD)), .d (.sl 16 (S.procs.map prD)), .d (.sl 5 (S.threads.map thD))])]) S.mods.length _
    (Wk.mask [1, 3] ⟨0, by omega, by omega, rfl, rfl, rfl⟩) ?_
  rintro m fr st ⟨j, hj, hm, ha, rfl, rfl⟩
  rcases Nat.lt_or_ge j S.mods.length with hlt | hge
  · have hd : decide ((j : Int) < (S.mods.length : Int)) = true := by simp; omega
    have e1 := mo_get hlt
    have w1 := wrapS j (by omega)
    have hmo := hS.mo _ (getD_mem mo0 hlt)
    generalize hv : S.mods.getD j mo0 = v at e1 hmo
    have hvd : moD v = .agg [.str v.name, .str v.owner, iD v.rely.kind, .str v.rely.name, .str v.rely.other, iD v.rely.n, iD v.rely.len, iD v.rely.init, .bool v.rely.ghost, .sl 9 (v.rely.kids.map Nd.d), iD v.rely.pos, iD v.guar.kind, .str v.guar.name, .str v.guar.other, iD v.guar.n, iD v.guar.len, iD v.guar.init, .bool v.guar.ghost, .sl 9 (v.guar.kids.map Nd.d), iD v.guar.pos, .sl 9 (v.frame.map Nd.d), iD v.pos] := rfl
    rw [hvd] at e1
    have hc : (!smallM v.rely || !smallM v.guar || decide (12 < (v.frame.length : Int))) = !shMo v := by
      unfold shMo
      rw [Bool.eq_iff_iff]
      simp only [Bool.or_eq_true, Bool.not_eq_true', Bool.and_eq_false_iff, decide_eq_true_eq, decide_eq_false_iff_not]
      constructor
      · rintro ((c | c) | c)
        · exact .inl (.inl c)
        · exact .inl (.inr c)
        · exact .inr (by omega)
      · rintro ((c | c) | c)
        · exact .inl (.inl c)
        · exact .inl (.inr c)
        · exact .inr (by omega)
    simp only [go_sem, List.length_map, hd, e1, w1, Try.results10]
    rw [← Nd.d_eq v.rely]
    refine ⟨⟨by omega, by omega⟩, ac' (small_ac hmo.rely _ _ _ ?_)⟩
    simp only [go_sem, List.length_map, Try.results10]
    refine ex' (.bool (smallM v.guar)) ⟨fun q => ?_, ?_⟩
    · simp only [go_sem, Try.results10]
      rw [← Nd.d_eq v.guar]
      exact ⟨by simpa using q, ac' (small_ac hmo.guar _ _ _ ⟨rfl, rfl⟩)⟩
    simp only [go_sem, List.length_map, hc, w1, Try.results10]
    refine ⟨fun q => by simpa using q, fun c => ?_, fun c => ?_⟩
    · have c' : shMo v = false := by simpa using c
      have : shortM S = false := by rw [hu, all_bad (p := shMo) mo0 hlt (by rw [hv]; exact c')]; rfl
      rw [this] at h
      exact ret_bd hbd rfl h
    · have c' : shMo v = true := by simpa using c
      exact Wk.keep [1, 3] [0] (by decide) (Nat.le_refl _) hbd ⟨S.mods.length - (j + 1), by omega, j + 1, hlt, rfl, by rw [all_take mo0 hlt, ha, hv, c']; rfl, by simp only [go_sem], by simp only [go_sem]⟩
  have hd : decide ((j : Int) < (S.mods.length : Int)) = false := by simp; omega
  rw [List.take_of_length_le hge] at ha
  rw [ha, Bool.true_and] at hu
  simp only [go_sem, List.length_map, hd, Try.results10]
  clear hd ha hge hm hj
  refine aw_loop (fun m fr st => ∃ j : Nat, j ≤ S.locks.length ∧ m = S.locks.length - j ∧ (S.locks.take j).all (fun l => smallM l.inv) = true ∧ fr = [.any, .ref σ.length 0, .any, .any, .any, dn j, .any, .any, .any, .any, .any, .any, .any, .any, .any, .any, .any, .any, .any, .any, .any, .any, .any, .any, .any, .any, .any, .any, .any, .any, .any, .any, .any, .any, .any, .any, .any, .any, .any, .any, .any, .any, .any, .any, .any, .any, .any, .any, .any, .any, .any, .any, .any, .any, .any, .any, .any, .any, .any, .any, .any, .any, .any, .any, .any, .any, .any, .any, .any, .any, .any, .any, .any, .any, .any, .any, .any, .any, .any, .any, .any, .any, .any, .any, .any, .any, .any, .any, .any, .any, .any, .any, .any, .any, .any, .any, .any, .any, .any, .any, .any, .any, .any, .any, .any, .any, .any] ∧ st = σ ++ [some (.cells [.d (.sl 22 (S.mods.map moD)), .d (.sl 7 (S.vars.map vrD)), .d (.sl 12 (S.locks.map lkD)), .d (.sl 16 (S.procs.map prD)), .d (.sl 5 (S.threads.map thD))])]) S.locks.length _
    (Wk.mask [1, 5] ⟨0, by omega, by omega, rfl, rfl, rfl⟩) ?_
  rintro m fr st ⟨j, hj, hm, ha, rfl, rfl⟩
  rcases Nat.lt_or_ge j S.locks.length with hlt | hge
  · have hd : decide ((j : Int) < (S.locks.length : Int)) = true := by simp; omega
    have e1 := lk_d hlt
    have w1 := wrapS j (by omega)
    have hmo := hS.lo _ (getD_mem lk0 hlt)
    generalize hv : S.locks.getD j lk0 = v at e1 hmo
    simp only [lkD, Nd.cs, List.cons_append, List.nil_append] at e1
    simp only [go_sem, List.length_map, hd, e1, w1, Try.results10]
    rw [← Nd.d_eq v.inv]
    refine ⟨⟨by omega, by omega⟩, ac' (small_ac hmo _ _ _ ?_)⟩
    simp only [go_sem, List.length_map, w1, Try.results10]
    refine ⟨fun c => ?_, fun c => ?_⟩
    · have c' : smallM v.inv = false := by simpa using c
      have : shortM S = false := by rw [hu, all_bad (p := fun l : Lk => smallM l.inv) lk0 hlt (by rw [hv]; exact c')]; rfl
      rw [this] at h
      exact ret_bd hbd rfl h
    · have c' : smallM v.inv = true := by simpa using c
      exact Wk.keep [1, 5] [0] (by decide) (Nat.le_refl _) hbd ⟨S.locks.length - (j + 1), by omega, j + 1, hlt, rfl, by rw [all_take lk0 hlt, ha, hv, c']; rfl, by simp only [go_sem], by simp only [go_sem]⟩
  have hd : decide ((j : Int) < (S.locks.length : Int)) = false := by simp; omega
  rw [List.take_of_length_le hge] at ha
  rw [ha, Bool.true_and] at hu
  simp only [go_sem, List.length_map, hd, Try.results10]
  clear hd ha hge hm hj
  refine aw_loop (fun m fr st => ∃ j : Nat, j ≤ S.procs.length ∧ m = S.procs.length - j ∧ (S.procs.take j).all shPr = true ∧ fr = [.any, .ref σ.length 0, .any, .any, .any, .any, dn j, .any, .any, .any, .any, .any, .any, .any, .any, .any, .any, .any, .any, .any, .any, .any, .any, .any, .any, .any, .any, .any, .any, .any, .any, .any, .any, .any, .any, .any, .any, .any, .any, .any, .any, .any, .any, .any, .any, .any, .any, .any, .any, .any, .any, .any, .any, .any, .any, .any, .any, .any, .any, .any, .any, .any, .any, .any, .any, .any, .any, .any, .any, .any, .any, .any, .any, .any, .any, .any, .any, .any, .any, .any, .any, .any, .any, .any, .any, .any, .any, .any, .any, .any, .any, .any, .any, .any, .any, .any, .any, .any, .any, .any, .any, .any, .any, .any, .any, .any, .any] ∧ st = σ ++ [some (.cells [.d (.sl 22 (S.mods.map moD)), .d (.sl 7 (S.vars.map vrD)), .d (.sl 12 (S.locks.map lkD)), .d (.sl 16 (S.procs.map prD)), .d (.sl 5 (S.threads.map thD))])]) S.procs.length _
    (Wk.mask [1, 6] ⟨0, by omega, by omega, rfl, rfl, rfl⟩) ?_
  rintro m fr st ⟨j, hj, hm, ha, rfl, rfl⟩
  rcases Nat.lt_or_ge j S.procs.length with hlt | hge
  · have hd : decide ((j : Int) < (S.procs.length : Int)) = true := by simp; omega
    have e1 := pr_d hlt
    have w1 := wrapS j (by omega)
    have hmo := hS.pr _ (getD_mem pr0 hlt)
    generalize hv : S.procs.getD j pr0 = v at e1 hmo
    have hvd : prD v = .agg [.str v.name, iD v.mod, .sl 7 (v.params.map vrD), .sl 7 (v.locals.map vrD), .str v.locked, iD v.body.kind, .str v.body.name, .str v.body.other, iD v.body.n, iD v.body.len, iD v.body.init, .bool v.body.ghost, .sl 9 (v.body.kids.map Nd.d), iD v.body.pos, .sl 1 (v.calls.map iD), iD v.pos] := rfl
    rw [hvd] at e1
    have hc : (!smallM v.body || decide (12 < (v.params.length : Int)) || decide (12 < (v.locals.length : Int))) = !shPr v := by
      unfold shPr
      rw [Bool.eq_iff_iff]
      simp only [Bool.or_eq_true, Bool.not_eq_true', Bool.and_eq_false_iff, decide_eq_true_eq, decide_eq_false_iff_not]
      constructor
      · rintro ((c | c) | c)
        · exact .inl (.inl c)
        · exact .inl (.inr (by omega))
        · exact .inr (by omega)
      · rintro ((c | c) | c)
        · exact .inl (.inl c)
        · exact .inl (.inr (by omega))
        · exact .inr (by omega)
    simp only [go_sem, List.length_map, hd, e1, w1, Try.results10]
    rw [← Nd.d_eq v.body]
    refine ⟨⟨by omega, by omega⟩, ac' (small_ac hmo.body _ _ _ ?_)⟩
    simp only [go_sem, List.length_map, hc, w1, Try.results10]
    refine ⟨fun q => by simpa using q, fun c => ?_, fun c => ?_⟩
    · have c' : shPr v = false := by simpa using c
      have : shortM S = false := by rw [hu, all_bad (p := shPr) pr0 hlt (by rw [hv]; exact c')]
      rw [this] at h
      exact ret_bd hbd rfl h
    · have c' : shPr v = true := by simpa using c
      exact Wk.keep [1, 6] [0] (by decide) (Nat.le_refl _) hbd ⟨S.procs.length - (j + 1), by omega, j + 1, hlt, rfl, by rw [all_take pr0 hlt, ha, hv, c']; rfl, by simp only [go_sem], by simp only [go_sem]⟩
  have hd : decide ((j : Int) < (S.procs.length : Int)) = false := by simp; omega
  rw [List.take_of_length_le hge] at ha
  rw [ha] at hu
  rw [hu] at h
  simp only [go_sem, List.length_map, hd, Try.results10]
  exact ret_bd hbd rfl h
end Go.Proofs.Ytfoblkeefpaceaa
end PartL2

section PartL3
/- The law package: the fixed examples. -/
set_option linter.unusedSimpArgs false
set_option linter.unusedVariables false
set_option maxRecDepth 100000
namespace Go.Proofs.Ytfoblkeefpaceaa
open Go Go.Ab

/-- A node of the examples. -/
def nN (k : Int) (s : Str) (ks : List Nd) : Nd := .mk k s [] 0 0 0 false ks 0
def numN (k at_ : Int) : Nd := .mk 1 [] [] k 0 0 false [] at_
def noneN : Nd := nN 63 [] []
def benchBody : Nd := nN 34 [] [nN 21 [] [nN 2 [120] [], numN 9 7]]
def benchM : Sy := ⟨[⟨[77], [65], noneN, noneN, [], 0⟩], [⟨[120], 3, 0, 0, false, 0, 0⟩, ⟨[118], 2, 2, 0, false, 0, 0⟩], [], [⟨[102], 0, [⟨[112], 1, 0, 0, false, 0, 0⟩], [], [], benchBody, [], 0⟩], []⟩
def xN : Nd := nN 2 [120] []
def iN : Nd := nN 2 [105] []
def vN : Nd := nN 2 [118] [iN]
def allN (n : Int) : Nd := .mk 7 [105] [] n 0 0 false [nN 5 [60, 61] [vN, iN]] 0
def oldN : Nd := nN 5 [60, 61] [nN 3 [] [xN], xN]
def e1N : Nd := nN 5 [43] [xN, numN 1 0]
def e2N : Nd := nN 5 [43] [numN 1 0, numN 2 0]
def e3N : Nd := nN 5 [61, 61] [xN, numN 9 0]
def e4N : Nd := nN 2 [118] [nN 2 [112] []]
def e5N : Nd := nN 2 [118] [numN 2 0]
def e6N : Nd := nN 2 [118] []
def e7N : Nd := nN 2 [112] []
theorem g1 : widthR benchM 0 (-1) e1N 0 = (3, []) := by kernel_rfl
theorem g2 : widthR benchM 0 (-1) e2N 0 = (2, []) := by kernel_rfl
theorem g3 : widthR benchM 0 (-1) e3N 0 = (1, [⟨50, 0⟩]) := by kernel_rfl
theorem g4 : widthR benchM 0 0 e4N 0 = (2, []) := by kernel_rfl
theorem g5 : widthR benchM 0 0 e5N 0 = (2, [⟨51, 0⟩]) := by kernel_rfl
theorem g6 : widthR benchM 0 0 e6N 0 = (2, [⟨51, 0⟩]) := by kernel_rfl
theorem g7 : widthR benchM 0 (-1) e7N 0 = (1, [⟨40, 0⟩]) := by kernel_rfl
theorem g8 : widthR benchM 0 (-1) (allN 2) 0 = (1, []) := by kernel_rfl
theorem g9 : widthR benchM 0 (-1) (allN 3) 0 = (1, [⟨51, 0⟩]) := by kernel_rfl
theorem g10 : widthR benchM 0 (-1) oldN 0 = (1, []) := by kernel_rfl
theorem g11 : widthR benchM 0 0 oldN 0 = (1, [⟨44, 0⟩]) := by kernel_rfl
theorem g12 : checkR benchM = [⟨50, 7⟩] := by kernel_rfl
theorem g13 : (widthR benchM 1 (-1) xN 0).2 = [⟨1, 0⟩] := by kernel_rfl
theorem ret_via {G : Glob} {n0 : Nat} {fr fr' : Fr} {τ τ' : St} {R : A → St → Prop} (hw : Weak G n0 fr τ fr' τ') (h : ∃ r σ', Weak G n0 fr' τ' [r] σ' ∧ R r σ') : ∃ r σ', Weak G n0 fr τ [r] σ' ∧ R r σ' := by
  obtain ⟨r, σ', h1, h2⟩ := h
  exact ⟨r, σ', hw.trans h1, h2⟩
/-- A node as data. -/
def nD (k : Int) (s : Str) (n : Int) (kd : List D) (at_ : Int) : D := .agg [iD k, .str s, .str [], iD n, iD 0, iD 0, .bool false, .sl 9 kd, iD at_]
theorem nF_ac (k : Int) (s : Str) (kd : List D) (σ : St) (G : Glob) (R : A → St → Prop) (h : R (.d (nD k s 0 kd 0)) σ) : AC Try.prog G 21 [di k, .d (.str s), .d (.sl 9 kd)] σ R := by
  unfold nD at h
  refine ac_enter mixed Try.func21 rfl Try.ntmps21 (by simp only [go_sem]) fun hbd => ?_
  simp only [List.length_cons, List.length_nil, Nat.reduceAdd, Nat.reduceSub, List.replicate_succ, List.replicate_zero, List.cons_append, List.nil_append]
  simp only [go_sem, Try.results21]
  exact ret_bd hbd rfl h
theorem nF0_ac (k : Int) (s : Str) (σ : St) (G : Glob) (R : A → St → Prop) (h : R (.d (nD k s 0 [] 0)) σ) : AC Try.prog G 21 [di k, .d (.str s), .d .nils] σ R :=
  ac_weak (Weak.nils (.cons (.refl _) (.cons (.refl _) (.cons (.d (.nil 9)) .nil)))) (nF_ac k s [] σ G R h)
theorem numF_ac (k at_ : Int) (σ : St) (G : Glob) (R : A → St → Prop) (h : R (.d (nD 1 [] k [] at_)) σ) : AC Try.prog G 20 [di k, di at_] σ R := by
  unfold nD at h
  refine ac_enter mixed Try.func20 rfl Try.ntmps20 (by simp only [go_sem]) fun hbd => ?_
  simp only [List.length_cons, List.length_nil, Nat.reduceAdd, Nat.reduceSub, List.replicate_succ, List.replicate_zero, List.cons_append, List.nil_append]
  simp only [go_sem, Try.results20]
  refine ret_via (Weak.nils (.cons (.d (.agg ?_)) .nil)) (ret_bd hbd rfl h)
  exact .cons (.refl _) (.cons (.refl _) (.cons (.refl _) (.cons (.refl _) (.cons (.refl _) (.cons (.refl _) (.cons (.refl _) (.cons (.nil 9) (NilDL.refl _))))))))
set_option maxHeartbeats 8000000 in
theorem bench_ac (σ : St) (G : Glob) (R : A → St → Prop) (h : R (.d (syD benchM)) σ) : AC Try.prog G 23 [] σ R := by
  refine ac_enter mixed Try.func23 rfl Try.ntmps23 (by simp only [go_sem]) fun hbd => ?_
  simp only [List.length_cons, List.length_nil, Nat.reduceAdd, Nat.reduceSub, List.replicate_succ, List.replicate_zero, List.cons_append, List.nil_append]
  simp only [go_sem, Try.results23]
  refine ac' (nF0_ac _ _ _ _ _ ?_)
  simp only [go_sem, Try.results23]
  refine ac' (numF_ac _ _ _ _ _ ?_)
  simp only [nD, go_sem, Try.results23]
  refine ac' (ac_weak (Weak.deep [2] 4) ?_)
  simp only [go_sem, Try.results23]
  refine nF_ac _ _ _ _ _ _ ?_
  simp only [nD, go_sem, Try.results23]
  refine ac' (ac_weak (Weak.deep [3] 4) ?_)
  simp only [go_sem, Try.results23]
  refine nF_ac _ _ _ _ _ _ ?_
  simp only [nD, go_sem, Try.results23]
  refine ret_via (Weak.deep [0, 1, 2, 3, 4, 5, 6, 7, 8, 9] 6) ?_
  simp only [go_sem, Nat.add_assoc, Nat.reduceAdd, Try.results23]
  refine ret_via (fr' := [.d (syD benchM)]) (Weak.nils ?_) (ret_bd hbd rfl h)
  simp only [syD, Sy.cs, benchM, benchBody, noneN, nN, numN, List.map_cons, List.map_nil, moD, vrsD, vrD, prD, isD, Nd.d_eq, Nd.cs, Nd.kind, Nd.name, Nd.other, Nd.n, Nd.len, Nd.init, Nd.ghost, Nd.kids, Nd.pos, List.cons_append, List.nil_append]
  repeat' first | exact NilAL.nil | apply NilAL.cons | exact NilA.refl _ | apply NilA.d | exact NilD.refl _ | exact NilD.nil _ | apply NilD.sl | apply NilD.agg | apply NilDL.cons | exact NilDL.nil
theorem nN_ok {k : Int} {s : Str} {ks : List Nd} {n at_ : Int} (h1 : s.length ≤ reachBytes) (h2 : ks.length ≤ reachBytes) (h3 : I64 n) (h : ∀ e ∈ ks, e.Ok) : (Nd.mk k s [] n 0 0 false ks at_).Ok := .mk h2 h1 h3 h
theorem i64_small {n : Int} (h : 0 ≤ n ∧ n ≤ 100) : I64 n := by unfold I64; omega
theorem numN_ok {k at_ : Int} (h : I64 k) : (numN k at_).Ok := nN_ok (by decide) (by decide) h (fun e he => by cases he)
theorem leaf_ok {k : Int} {s : Str} (h : s.length ≤ reachBytes) : (nN k s []).Ok := nN_ok h (by decide) (i64_small (by decide)) (fun e he => by cases he)
theorem one_ok {k : Int} {s : Str} {a : Nd} (h : s.length ≤ reachBytes) (ha : a.Ok) : (nN k s [a]).Ok := nN_ok h (by simp only [List.length_cons, List.length_nil]; decide) (i64_small (by decide)) (fun e he => by simp only [List.mem_cons, List.not_mem_nil, or_false] at he; subst he; exact ha)
theorem two_ok {k : Int} {s : Str} {a b : Nd} (h : s.length ≤ reachBytes) (ha : a.Ok) (hb : b.Ok) : (nN k s [a, b]).Ok := nN_ok h (by simp only [List.length_cons, List.length_nil]; decide) (i64_small (by decide)) (fun e he => by
  simp only [List.mem_cons, List.not_mem_nil, or_false] at he
  rcases he with rfl | rfl
  · exact ha
  · exact hb)
theorem xN_ok : xN.Ok := leaf_ok (by decide)
theorem iN_ok : iN.Ok := leaf_ok (by decide)
theorem vN_ok : vN.Ok := one_ok (by decide) iN_ok
theorem allN_ok {n : Int} (h : 0 ≤ n ∧ n ≤ 100) : (allN n).Ok := nN_ok (by decide) (by decide) (i64_small h) (fun e he => by
  simp only [List.mem_cons, List.not_mem_nil, or_false] at he
  subst he
  exact two_ok (by decide) vN_ok iN_ok)
theorem oldN_ok : oldN.Ok := two_ok (by decide) (one_ok (by decide) xN_ok) xN_ok
theorem vr_ok {v : Vr} (h1 : I64 v.w) (h2 : I64 v.len) : v.Ok := ⟨h1, h2⟩
theorem bench_ok : benchM.Ok := by
  refine ⟨by decide, by decide, by decide, by decide, by decide, fun m hm => ?_, fun v hv => ?_, fun l hl => (List.not_mem_nil hl).elim, fun p hp => ?_⟩
  · simp only [benchM, List.mem_cons, List.not_mem_nil, or_false] at hm
    subst hm
    exact ⟨leaf_ok (by decide), leaf_ok (by decide), by decide, fun e he => by cases he⟩
  · simp only [benchM, List.mem_cons, List.not_mem_nil, or_false] at hv
    rcases hv with rfl | rfl
    · exact ⟨i64_small (by decide), i64_small (by decide)⟩
    · exact ⟨i64_small (by decide), i64_small (by decide)⟩
  · simp only [benchM, List.mem_cons, List.not_mem_nil, or_false] at hp
    subst hp
    refine ⟨by decide, by decide, fun v hv => ?_, fun v hv => (List.not_mem_nil hv).elim, one_ok (by decide) (two_ok (by decide) xN_ok (numN_ok (i64_small (by decide))))⟩
    simp only [List.mem_cons, List.not_mem_nil, or_false] at hv
    subst hv
    exact ⟨i64_small (by decide), i64_small (by decide)⟩
theorem bench_fit : benchM.Fit := by
  refine ⟨fun m hm => ?_, fun l hl => (List.not_mem_nil hl).elim, fun p hp => ?_⟩
  · simp only [benchM, List.mem_cons, List.not_mem_nil, or_false] at hm
    subst hm
    exact ⟨fit_nil (by decide), fit_nil (by decide)⟩
  · simp only [benchM, List.mem_cons, List.not_mem_nil, or_false] at hp
    subst hp
    exact fit_nil (by decide)
set_option maxHeartbeats 4000000 in
theorem gives_ac {p w f : Int} {e : Nd} {x : D} (hx : e.d = x) (hok : e.Ok) (hn : e.nodes ≤ 10000) (hw : (f = 0 ∧ widthR benchM 0 p e 0 = (w, [])) ∨ (f ≠ 0 ∧ ∃ y, widthR benchM 0 p e 0 = (w, [⟨f, y⟩]))) (σ : St) (G : Glob) (R : A → St → Prop) (h : R (db true) σ) : AC Try.prog G 29 [di p, .d x, di w, di f] σ R := by
  subst hx
  rw [Nd.d_eq]
  refine ac_enter' mixed Try.func29 rfl Try.ntmps29 (by simp only [go_sem]) fun hbd => ?_
  simp only [List.length_cons, List.length_nil, Nat.reduceAdd, Nat.reduceSub, List.replicate_succ, List.replicate_zero, List.cons_append, List.nil_append]
  simp only [go_sem, Try.results29]
  refine aw_plan (.take 1 <| .pure 0 <| .tk 7 2 <| .done) (by kernel_rfl) ?_
  simp only [go_sem, Try.results29]
  refine exP (.d (syD benchM)) ⟨fun σ' => ?_, ?_⟩
  · simp only [go_sem, Try.results29]
    exact ac' (bench_ac _ _ _ ⟨rfl, rfl⟩)
  simp only [syD, Sy.cs, vrsD]
  simp only [go_sem, Try.results29]
  have hs : syD benchM = .agg [.sl 22 (benchM.mods.map moD), .sl 7 (benchM.vars.map vrD), .sl 12 (benchM.locks.map lkD), .sl 16 (benchM.procs.map prD), .sl 5 (benchM.threads.map thD)] := rfl
  rw [← hs, ← Nd.d_eq]
  refine ac' (widthF_ac bench_ok 0 p hok hn 0 _ _ _ ?_)
  rcases hw with ⟨rfl, hw⟩ | ⟨hf, y, hw⟩
  · rw [hw]
    have c : ((0 : Int) == 0) = true := rfl
    have c1 : (((0 : Nat) : Int) == 0) = true := rfl
    simp only [dgsD, List.map_nil, List.length_nil, go_sem, c, c1, beq_self_eq_true, Bool.and_self, Try.results29]
    exact ret_bd hbd rfl h
  · rw [hw]
    have c : (f == 0) = false := beq_f hf
    have c1 : (((1 : Nat) : Int) == 1) = true := rfl
    simp only [dgsD, dgD, List.map_cons, List.map_nil, go_sem, c, c1, beq_self_eq_true, Bool.and_self, Int.reduceToNat, List.getD_cons_zero, Try.results29]
    exact ⟨⟨by omega, by omega⟩, ret_bd hbd rfl h⟩
end Go.Proofs.Ytfoblkeefpaceaa
end PartL3

section PartL4
/- The law package: the head of every law. -/
set_option linter.unusedSimpArgs false
set_option linter.unusedVariables false
set_option maxRecDepth 100000
namespace Go.Proofs.Ytfoblkeefpaceaa
open Go Go.Ab

theorem nO_ac {k : Int} {s : Str} {j len : Nat} {ow : Option TypeId} {σ l : St} {G : Glob} {R : A → St → Prop}
    (h : AC Try.prog G 21 ([di k, .d (.str s), .rs (σ.length + j) 9 0 len ow].map (dpA σ.length [j] l 4)) (σ ++ dpSt [j] (dpA σ.length [j] l 4) 0 l) R) : AC Try.prog G 21 [di k, .d (.str s), .rs (σ.length + j) 9 0 len ow] (σ ++ l) R :=
  ac_weak (Weak.deep [j] 4) h
/-- A node as an object. -/
abbrev oN (k : Int) (s : Str) (n : Int) (kd : List D) : Option Ob := some (.cells [di k, .d (.str s), .d (.str []), di n, di 0, di 0, db false, .d (.sl 9 kd), di 0])
abbrev xK : D := .agg [iD 2, .str [120], .str [], iD 0, iD 0, iD 0, .bool false, .sl 9 [], iD 0]
abbrev iK : D := .agg [iD 2, .str [105], .str [], iD 0, iD 0, iD 0, .bool false, .sl 9 [], iD 0]
abbrev vK : D := .agg [iD 2, .str [118], .str [], iD 0, iD 0, iD 0, .bool false, .sl 9 [iK], iD 0]
abbrev leK : D := .agg [iD 5, .str [60, 61], .str [], iD 0, iD 0, iD 0, .bool false, .sl 9 [vK, iK], iD 0]
abbrev opK : D := .agg [iD 3, .str [], .str [], iD 0, iD 0, iD 0, .bool false, .sl 9 [xK], iD 0]
abbrev oX : Option Ob := oN 2 [120] 0 []
abbrev oV : Option Ob := oN 2 [118] 0 [iK]
abbrev oA (n : Int) : Option Ob := oN 7 [105] n [leK]
abbrev oO : Option Ob := oN 5 [60, 61] 0 [opK, xK]
set_option maxHeartbeats 16000000 in
theorem head_ac (σ : St) (G : Glob) (R : A → St → Prop) (h : R (db true) σ) : AC Try.prog G 9 [] σ R := by
  refine ac_enterC' [2, 3, 4, 5, 6, 7, 8, 9, 10] mixed Try.func9 rfl Try.ntmps9 (by simp only [go_sem]) fun hbd => ?_
  simp only [List.length_cons, List.length_nil, Nat.reduceAdd, Nat.reduceSub, List.replicate_succ, List.replicate_zero, List.cons_append, List.nil_append]
  simp only [go_sem, Try.results9]
  refine aw_cut (fun fr st => fr = [.any, .ref σ.length 0, .any, .any, .any, .any, .any, .any, .any, .any, .any, .any, .any, .any, .any, .any, .any, .any, .any, .any, .any, .any, .any, .any, .any, .any, .any, .any, .any, .any, .any, .any, .any, .any, .any, .any, .any, .any, .any, .any, .any, .any, .any, .any, .any, .any, .any, .any, .any, .any, .any, .any, .any, .any, .any, .any, .any, .any, .any, .any, .any, .any, .any, .any, .any, .any, .any, .any, .any, .any, .any, .any, .any, .any, .any, .any, .any, .any, .any, .any, .any, .any, .any, .any, .any, .any, .any, .any, .any, .any, .any, .any, .any, .any, .any, .any, .any, .any, .any, .any, .any, .any, .any, .any, .any, .any, .any, .any, .any, .any, .any, .any, .any, .any, .any] ∧ st = σ ++ [oX]) ?_ ?_
  · simp only [go_sem, Try.results9]
    (refine ac' (nF0_ac _ _ _ _ _ ?_); try simp only [nD, go_sem, Nat.add_assoc, Nat.reduceAdd, Try.results9])
    exact Wk.keep [1] [0] (by decide) (Nat.le_refl _) hbd ⟨by simp only [go_sem], by simp only [go_sem]⟩
  rintro fr st ⟨rfl, rfl⟩
  refine aw_cut (fun fr st => fr = [.any, .ref σ.length 0, .ref (σ.length + 1) 0, .any, .any, .any, .any, .any, .any, .any, .any, .any, .any, .any, .any, .any, .any, .any, .any, .any, .any, .any, .any, .any, .any, .any, .any, .any, .any, .any, .any, .any, .any, .any, .any, .any, .any, .any, .any, .any, .any, .any, .any, .any, .any, .any, .any, .any, .any, .any, .any, .any, .any, .any, .any, .any, .any, .any, .any, .any, .any, .any, .any, .any, .any, .any, .any, .any, .any, .any, .any, .any, .any, .any, .any, .any, .any, .any, .any, .any, .any, .any, .any, .any, .any, .any, .any, .any, .any, .any, .any, .any, .any, .any, .any, .any, .any, .any, .any, .any, .any, .any, .any, .any, .any, .any, .any, .any, .any, .any, .any, .any, .any, .any, .any] ∧ st = σ ++ [oX, oV]) ?_ ?_
  · simp only [go_sem, Try.results9]
    (refine ac' (nF0_ac _ _ _ _ _ ?_); try simp only [nD, go_sem, Nat.add_assoc, Nat.reduceAdd, Try.results9])
    (refine ac' (nO_ac ?_); simp only [go_sem]; refine nF_ac _ _ _ _ _ _ ?_; try simp only [nD, go_sem, Nat.add_assoc, Nat.reduceAdd, Try.results9])
    exact Wk.keep [1, 2] [0, 2] (by decide) (Nat.le_refl _) hbd ⟨by (simp only [go_sem]) <;> rfl, by (simp only [go_sem]) <;> rfl⟩
  rintro fr st ⟨rfl, rfl⟩
  refine aw_cut (fun fr st => fr = [.any, .ref σ.length 0, .any, .ref (σ.length + 1) 0, .any, .any, .any, .any, .any, .any, .any, .any, .any, .any, .any, .any, .any, .any, .any, .any, .any, .any, .any, .any, .any, .any, .any, .any, .any, .any, .any, .any, .any, .any, .any, .any, .any, .any, .any, .any, .any, .any, .any, .any, .any, .any, .any, .any, .any, .any, .any, .any, .any, .any, .any, .any, .any, .any, .any, .any, .any, .any, .any, .any, .any, .any, .any, .any, .any, .any, .any, .any, .any, .any, .any, .any, .any, .any, .any, .any, .any, .any, .any, .any, .any, .any, .any, .any, .any, .any, .any, .any, .any, .any, .any, .any, .any, .any, .any, .any, .any, .any, .any, .any, .any, .any, .any, .any, .any, .any, .any, .any, .any, .any, .any] ∧ st = σ ++ [oX, oA 0]) ?_ ?_
  · simp only [go_sem, Try.results9]
    refine aw_plan (.pure 1 <| .take 0 <| .alt 2 (.alt 3 (.alt 4 (.alt 5 (.tk 2 6 <| .done) <| .alt 6 (.take 5 <| .take 7 <| .done) <| .stop) <| .alt 6 (.tk 2 4 <| .take 7 <| .done) <| .stop) <| .alt 6 (.tk 3 3 <| .take 7 <| .done) <| .stop) <| .alt 6 (.tk 4 2 <| .take 7 <| .done) <| .stop) (by kernel_rfl) ?_
    simp only [go_sem, Try.results9]
    refine exP (.d (nD 2 [105] 0 [] 0)) ⟨fun σ' => ?_, ?_⟩
    · simp only [go_sem, Try.results9]
      exact ac' (nF0_ac _ _ _ _ _ ⟨rfl, rfl⟩)
    simp only [nD, go_sem, Nat.add_assoc, Nat.reduceAdd, Try.results9]
    repeat' first | (with_reducible apply And.intro) | (refine ac' (nO_ac ?_); simp only [go_sem]; refine nF_ac _ _ _ _ _ _ ?_; try simp only [nD, go_sem, Nat.add_assoc, Nat.reduceAdd, Try.results9])
    all_goals first
      | (refine Wk.keep [1, 3] [0, 4] (by decide) (Nat.le_refl _) hbd ⟨?_, ?_⟩ <;> ((simp only [go_sem]) <;> rfl))
      | (refine Wk.keep [1, 3] [0, 3] (by decide) (Nat.le_refl _) hbd ⟨?_, ?_⟩ <;> ((simp only [go_sem]) <;> rfl))
      | (refine Wk.keep [1, 3] [0, 2] (by decide) (Nat.le_refl _) hbd ⟨?_, ?_⟩ <;> ((simp only [go_sem]) <;> rfl))
  rintro fr st ⟨rfl, rfl⟩
  refine aw_cut (fun fr st => fr = [.any, .ref σ.length 0, .any, .ref (σ.length + 1) 0, .any, .any, .any, .any, .any, .any, .any, .any, .any, .any, .any, .any, .any, .any, .any, .any, .any, .any, .any, .any, .any, .any, .any, .any, .any, .any, .any, .any, .any, .any, .any, .any, .any, .any, .any, .any, .any, .any, .any, .any, .any, .any, .any, .any, .any, .any, .any, .any, .any, .any, .any, .any, .any, .any, .any, .any, .any, .any, .any, .any, .any, .any, .any, .any, .any, .any, .any, .any, .any, .any, .any, .any, .any, .any, .any, .any, .any, .any, .any, .any, .any, .any, .any, .any, .any, .any, .any, .any, .any, .any, .any, .any, .any, .any, .any, .any, .any, .any, .any, .any, .any, .any, .any, .any, .any, .any, .any, .any, .any, .any, .any] ∧ st = σ ++ [oX, oA 2]) ?_ ?_
  · simp only [go_sem, Try.results9]
    exact Wk.keep [1, 3] [0, 1] (by decide) (Nat.le_refl _) hbd ⟨by (simp only [go_sem]) <;> rfl, by (simp only [go_sem]) <;> rfl⟩
  rintro fr st ⟨rfl, rfl⟩
  refine aw_cut (fun fr st => fr = [.any, .ref σ.length 0, .any, .ref (σ.length + 1) 0, .ref (σ.length + 2) 0, .any, .any, .any, .any, .any, .any, .any, .any, .any, .any, .any, .any, .any, .any, .any, .any, .any, .any, .any, .any, .any, .any, .any, .any, .any, .any, .any, .any, .any, .any, .any, .any, .any, .any, .any, .any, .any, .any, .any, .any, .any, .any, .any, .any, .any, .any, .any, .any, .any, .any, .any, .any, .any, .any, .any, .any, .any, .any, .any, .any, .any, .any, .any, .any, .any, .any, .any, .any, .any, .any, .any, .any, .any, .any, .any, .any, .any, .any, .any, .any, .any, .any, .any, .any, .any, .any, .any, .any, .any, .any, .any, .any, .any, .any, .any, .any, .any, .any, .any, .any, .any, .any, .any, .any, .any, .any, .any, .any, .any, .any] ∧ st = σ ++ [oX, oA 2, oA 2]) ?_ ?_
  · simp only [go_sem, Try.results9]
    exact Wk.keep [1, 3, 4] [0, 1, 2] (by decide) (Nat.le_refl _) hbd ⟨by (simp only [go_sem]) <;> rfl, by (simp only [go_sem]) <;> rfl⟩
  rintro fr st ⟨rfl, rfl⟩
  refine aw_cut (fun fr st => fr = [.any, .ref σ.length 0, .any, .ref (σ.length + 1) 0, .ref (σ.length + 2) 0, .any, .any, .any, .any, .any, .any, .any, .any, .any, .any, .any, .any, .any, .any, .any, .any, .any, .any, .any, .any, .any, .any, .any, .any, .any, .any, .any, .any, .any, .any, .any, .any, .any, .any, .any, .any, .any, .any, .any, .any, .any, .any, .any, .any, .any, .any, .any, .any, .any, .any, .any, .any, .any, .any, .any, .any, .any, .any, .any, .any, .any, .any, .any, .any, .any, .any, .any, .any, .any, .any, .any, .any, .any, .any, .any, .any, .any, .any, .any, .any, .any, .any, .any, .any, .any, .any, .any, .any, .any, .any, .any, .any, .any, .any, .any, .any, .any, .any, .any, .any, .any, .any, .any, .any, .any, .any, .any, .any, .any, .any] ∧ st = σ ++ [oX, oA 2, oA 3]) ?_ ?_
  · simp only [go_sem, Try.results9]
    exact Wk.keep [1, 3, 4] [0, 1, 2] (by decide) (Nat.le_refl _) hbd ⟨by (simp only [go_sem]) <;> rfl, by (simp only [go_sem]) <;> rfl⟩
  rintro fr st ⟨rfl, rfl⟩
  refine aw_cut (fun fr st => fr = [.any, .ref σ.length 0, .any, .ref (σ.length + 1) 0, .ref (σ.length + 2) 0, .d (.sl 2 [.agg [iD 50, iD 7]]), .any, .any, .any, .any, .any, .any, .any, .any, .any, .any, .any, .any, .any, .any, .any, .any, .any, .any, .any, .any, .any, .any, .any, .any, .any, .any, .any, .any, .any, .any, .any, .any, .any, .any, .any, .any, .any, .any, .any, .any, .any, .any, .any, .any, .any, .any, .any, .any, .any, .any, .any, .any, .any, .any, .any, .any, .any, .any, .any, .any, .any, .any, .any, .any, .any, .any, .any, .any, .any, .any, .any, .any, .any, .any, .any, .any, .any, .any, .any, .any, .any, .any, .any, .any, .any, .any, .any, .any, .any, .any, .any, .any, .any, .any, .any, .any, .any, .any, .any, .any, .any, .any, .any, .any, .any, .any, .any, .any, .any] ∧ st = σ ++ [oX, oA 2, oA 3]) ?_ ?_
  · simp only [go_sem, Try.results9]
    refine ac' (bench_ac _ _ _ ?_)
    simp only [syD, Sy.cs, vrsD]
    simp only [go_sem, Try.results9]
    have hs : syD benchM = .agg [.sl 22 (benchM.mods.map moD), .sl 7 (benchM.vars.map vrD), .sl 12 (benchM.locks.map lkD), .sl 16 (benchM.procs.map prD), .sl 5 (benchM.threads.map thD)] := rfl
    rw [← hs]
    refine ac' (checkF_ac bench_ok bench_fit _ _ _ ?_)
    rw [g12]
    simp only [go_sem, Try.results9]
    exact Wk.keep [1, 3, 4, 5] [0, 1, 2] (by decide) (Nat.le_refl _) hbd ⟨by (simp only [go_sem]) <;> rfl, by (simp only [go_sem]) <;> rfl⟩
  rintro fr st ⟨rfl, rfl⟩
  refine aw_cut (fun fr st => fr = [.any, .ref σ.length 0, .any, .ref (σ.length + 1) 0, .ref (σ.length + 2) 0, .d (.sl 2 [.agg [iD 50, iD 7]]), .any, .d (.sl 2 [.agg [iD 1, iD 0]]), .any, .any, .any, .any, .any, .any, .any, .any, .any, .any, .any, .any, .any, .any, .any, .any, .any, .any, .any, .any, .any, .any, .any, .any, .any, .any, .any, .any, .any, .any, .any, .any, .any, .any, .any, .any, .any, .any, .any, .any, .any, .any, .any, .any, .any, .any, .any, .any, .any, .any, .any, .any, .any, .any, .any, .any, .any, .any, .any, .any, .any, .any, .any, .any, .any, .any, .any, .any, .any, .any, .any, .any, .any, .any, .any, .any, .any, .any, .any, .any, .any, .any, .any, .any, .any, .any, .any, .any, .any, .any, .any, .any, .any, .any, .any, .any, .any, .any, .any, .any, .any, .any, .any, .any, .any, .any, .any] ∧ st = σ ++ [oX, oA 2, oA 3]) ?_ ?_
  · simp only [go_sem, Try.results9]
    refine aw_plan (.pure 0 <| .tk 7 1 <| .done) (by kernel_rfl) ?_
    simp only [go_sem, Try.results9]
    refine exP (.d (syD benchM)) ⟨fun σ' => ?_, ?_⟩
    · simp only [go_sem, Try.results9]
      exact ac' (bench_ac _ _ _ ⟨rfl, rfl⟩)
    simp only [syD, Sy.cs, vrsD]
    simp only [go_sem, Try.results9]
    have hs : syD benchM = .agg [.sl 22 (benchM.mods.map moD), .sl 7 (benchM.vars.map vrD), .sl 12 (benchM.locks.map lkD), .sl 16 (benchM.procs.map prD), .sl 5 (benchM.threads.map thD)] := rfl
    rw [← hs]
    have hx : D.agg [D.int .i64 2, .str [120], .str [], D.int .i64 0, D.int .i64 0, D.int .i64 0, .bool false, .sl 9 [], D.int .i64 0] = xN.d := by kernel_rfl
    rw [hx]
    refine ac' (widthF_ac bench_ok 1 (-1) xN_ok (by decide) 0 _ _ _ ?_)
    rw [g13]
    simp only [go_sem, Try.results9]
    exact Wk.keep [1, 3, 4, 5, 7] [0, 1, 2] (by decide) (Nat.le_refl _) hbd ⟨by (simp only [go_sem]) <;> rfl, by (simp only [go_sem]) <;> rfl⟩
  rintro fr st ⟨rfl, rfl⟩
  refine aw_cut (fun fr st => fr = [.any, .ref σ.length 0, .any, .ref (σ.length + 1) 0, .ref (σ.length + 2) 0, .d (.sl 2 [.agg [iD 50, iD 7]]), .any, .d (.sl 2 [.agg [iD 1, iD 0]]), .ref (σ.length + 3) 0, .any, .any, .any, .any, .any, .any, .any, .any, .any, .any, .any, .any, .any, .any, .any, .any, .any, .any, .any, .any, .any, .any, .any, .any, .any, .any, .any, .any, .any, .any, .any, .any, .any, .any, .any, .any, .any, .any, .any, .any, .any, .any, .any, .any, .any, .any, .any, .any, .any, .any, .any, .any, .any, .any, .any, .any, .any, .any, .any, .any, .any, .any, .any, .any, .any, .any, .any, .any, .any, .any, .any, .any, .any, .any, .any, .any, .any, .any, .any, .any, .any, .any, .any, .any, .any, .any, .any, .any, .any, .any, .any, .any, .any, .any, .any, .any, .any, .any, .any, .any, .any, .any, .any, .any, .any, .any] ∧ st = σ ++ [oX, oA 2, oA 3, oO]) ?_ ?_
  · simp only [go_sem, Try.results9]
    refine aw_plan (.take 0 <| .alt 1 (.alt 2 (.take 3 <| .alt 4 (.alt 5 (.tk 2 6 <| .done) <| .alt 6 (.take 5 <| .take 7 <| .done) <| .stop) <| .alt 6 (.tk 2 4 <| .take 7 <| .done) <| .stop) <| .alt 3 (.alt 2 (.alt 4 (.alt 5 (.tk 2 6 <| .done) <| .alt 6 (.take 5 <| .take 7 <| .done) <| .stop) <| .alt 6 (.tk 2 4 <| .take 7 <| .done) <| .stop) <| .alt 6 (.take 2 <| .tk 2 4 <| .take 7 <| .done) <| .stop) <| .alt 6 (.alt 2 (.tk 3 3 <| .take 7 <| .done) <| .alt 3 (.take 2 <| .tk 2 4 <| .take 7 <| .done) <| .stop) <| .stop) <| .alt 3 (.alt 1 (.alt 2 (.alt 4 (.alt 5 (.tk 2 6 <| .done) <| .alt 6 (.take 5 <| .take 7 <| .done) <| .stop) <| .alt 6 (.tk 2 4 <| .take 7 <| .done) <| .stop) <| .alt 6 (.take 2 <| .tk 2 4 <| .take 7 <| .done) <| .stop) <| .alt 6 (.tk 2 1 <| .tk 2 4 <| .take 7 <| .done) <| .stop) <| .alt 6 (.alt 1 (.alt 2 (.tk 3 3 <| .take 7 <| .done) <| .alt 3 (.take 2 <| .tk 2 4 <| .take 7 <| .done) <| .stop) <| .alt 3 (.tk 2 1 <| .tk 2 4 <| .take 7 <| .done) <| .stop) <| .stop) (by kernel_rfl) ?_
    simp only [go_sem, Try.results9]
    repeat' first | (with_reducible apply And.intro) | (refine ac' (nO_ac ?_); simp only [go_sem]; refine nF_ac _ _ _ _ _ _ ?_; try simp only [nD, go_sem, Nat.add_assoc, Nat.reduceAdd, Try.results9])
    all_goals first
      | (refine Wk.keep [1, 3, 4, 5, 7, 8] [0, 1, 2, 5] (by decide) (Nat.le_refl _) hbd ⟨?_, ?_⟩ <;> ((simp only [go_sem]) <;> rfl))
      | (refine Wk.keep [1, 3, 4, 5, 7, 8] [0, 1, 2, 4] (by decide) (Nat.le_refl _) hbd ⟨?_, ?_⟩ <;> ((simp only [go_sem]) <;> rfl))
      | (refine Wk.keep [1, 3, 4, 5, 7, 8] [0, 1, 2, 3] (by decide) (Nat.le_refl _) hbd ⟨?_, ?_⟩ <;> ((simp only [go_sem]) <;> rfl))
  rintro fr st ⟨rfl, rfl⟩
  simp only [go_sem, Try.results9]
  simp only [List.append_eq, List.cons_append, List.nil_append]
  refine aw_plan (.pure 1 <| .take 0 <| .tk 11 2 <| .pure 14 <| .take 13 <| .tk 65 15 <| .done) (by kernel_rfl) ?_
  simp only [go_sem, Try.results9]
  refine exP (.d (nD 1 [] 1 [] 0)) ⟨fun σ' => ?_, ?_⟩
  · simp only [go_sem, Try.results9]
    exact ac' (numF_ac _ _ _ _ _ ⟨rfl, rfl⟩)
  simp only [nD, go_sem, Nat.add_assoc, Nat.reduceAdd, Try.results9]
  (refine ac' (nO_ac ?_); simp only [go_sem]; refine nF_ac _ _ _ _ _ _ ?_; try simp only [nD, go_sem, Nat.add_assoc, Nat.reduceAdd, Try.results9])
  refine ac' (gives_ac (e := e1N) (by kernel_rfl) (two_ok (by decide) xN_ok (numN_ok (i64_small (by decide)))) (by decide) (.inl ⟨rfl, g1⟩) _ _ _ ?_)
  simp only [go_sem, Nat.add_assoc, Nat.reduceAdd, Try.results9]
  (refine exs ⟨fun _ => ?_, fun h => Bool.noConfusion h⟩; simp only [go_sem, Nat.add_assoc, Nat.reduceAdd, Try.results9])
  (refine ac' (numF_ac _ _ _ _ _ ?_); try simp only [nD, go_sem, Nat.add_assoc, Nat.reduceAdd, Try.results9])
  (refine exs ⟨fun _ => ?_, fun h => Bool.noConfusion h⟩; simp only [go_sem, Nat.add_assoc, Nat.reduceAdd, Try.results9])
  (refine ac' (numF_ac _ _ _ _ _ ?_); try simp only [nD, go_sem, Nat.add_assoc, Nat.reduceAdd, Try.results9])
  (refine exs ⟨fun _ => ?_, fun h => Bool.noConfusion h⟩; simp only [go_sem, Nat.add_assoc, Nat.reduceAdd, Try.results9])
  (refine ac' (nO_ac ?_); simp only [go_sem]; refine nF_ac _ _ _ _ _ _ ?_; try simp only [nD, go_sem, Nat.add_assoc, Nat.reduceAdd, Try.results9])
  (refine exs ⟨fun _ => ?_, fun h => Bool.noConfusion h⟩; simp only [go_sem, Nat.add_assoc, Nat.reduceAdd, Try.results9])
  refine ac' (gives_ac (e := e2N) (by kernel_rfl) (two_ok (by decide) (numN_ok (i64_small (by decide))) (numN_ok (i64_small (by decide)))) (by decide) (.inl ⟨rfl, g2⟩) _ _ _ ?_)
  try simp only [nD, go_sem, Nat.add_assoc, Nat.reduceAdd, Try.results9]
  refine exQ (nD 1 [] 9 [] 0) ⟨fun q => ?_, ?_⟩
  · simp only [go_sem, Try.results9]
    exact fun σ' => ac' (numF_ac _ _ _ _ _ ⟨rfl, rfl⟩)
  try simp only [nD, go_sem, Nat.add_assoc, Nat.reduceAdd, Try.results9]
  (refine exs ⟨fun _ => ?_, fun h => Bool.noConfusion h⟩; simp only [go_sem, Nat.add_assoc, Nat.reduceAdd, Try.results9])
  (refine ac' (nO_ac ?_); simp only [go_sem]; refine nF_ac _ _ _ _ _ _ ?_; try simp only [nD, go_sem, Nat.add_assoc, Nat.reduceAdd, Try.results9])
  (refine exs ⟨fun _ => ?_, fun h => Bool.noConfusion h⟩; simp only [go_sem, Nat.add_assoc, Nat.reduceAdd, Try.results9])
  refine ac' (gives_ac (e := e3N) (by kernel_rfl) (two_ok (by decide) xN_ok (numN_ok (i64_small (by decide)))) (by decide) (.inr ⟨by decide, 0, g3⟩) _ _ _ ?_)
  try simp only [nD, go_sem, Nat.add_assoc, Nat.reduceAdd, Try.results9]
  (refine exs ⟨fun _ => ?_, fun h => Bool.noConfusion h⟩; simp only [go_sem, Nat.add_assoc, Nat.reduceAdd, Try.results9])
  (refine ac' (nF0_ac _ _ _ _ _ ?_); try simp only [nD, go_sem, Nat.add_assoc, Nat.reduceAdd, Try.results9])
  (refine exs ⟨fun _ => ?_, fun h => Bool.noConfusion h⟩; simp only [go_sem, Nat.add_assoc, Nat.reduceAdd, Try.results9])
  (refine ac' (nO_ac ?_); simp only [go_sem]; refine nF_ac _ _ _ _ _ _ ?_; try simp only [nD, go_sem, Nat.add_assoc, Nat.reduceAdd, Try.results9])
  (refine exs ⟨fun _ => ?_, fun h => Bool.noConfusion h⟩; simp only [go_sem, Nat.add_assoc, Nat.reduceAdd, Try.results9])
  refine ac' (gives_ac (e := e4N) (by kernel_rfl) (one_ok (by decide) (leaf_ok (by decide))) (by decide) (.inl ⟨rfl, g4⟩) _ _ _ ?_)
  try simp only [nD, go_sem, Nat.add_assoc, Nat.reduceAdd, Try.results9]
  (refine exs ⟨fun _ => ?_, fun h => Bool.noConfusion h⟩; simp only [go_sem, Nat.add_assoc, Nat.reduceAdd, Try.results9])
  (refine ac' (numF_ac _ _ _ _ _ ?_); try simp only [nD, go_sem, Nat.add_assoc, Nat.reduceAdd, Try.results9])
  (refine exs ⟨fun _ => ?_, fun h => Bool.noConfusion h⟩; simp only [go_sem, Nat.add_assoc, Nat.reduceAdd, Try.results9])
  (refine ac' (nO_ac ?_); simp only [go_sem]; refine nF_ac _ _ _ _ _ _ ?_; try simp only [nD, go_sem, Nat.add_assoc, Nat.reduceAdd, Try.results9])
  (refine exs ⟨fun _ => ?_, fun h => Bool.noConfusion h⟩; simp only [go_sem, Nat.add_assoc, Nat.reduceAdd, Try.results9])
  refine ac' (gives_ac (e := e5N) (by kernel_rfl) (one_ok (by decide) (numN_ok (i64_small (by decide)))) (by decide) (.inr ⟨by decide, 0, g5⟩) _ _ _ ?_)
  try simp only [nD, go_sem, Nat.add_assoc, Nat.reduceAdd, Try.results9]
  (refine exs ⟨fun _ => ?_, fun h => Bool.noConfusion h⟩; simp only [go_sem, Nat.add_assoc, Nat.reduceAdd, Try.results9])
  (refine ac' (nF0_ac _ _ _ _ _ ?_); try simp only [nD, go_sem, Nat.add_assoc, Nat.reduceAdd, Try.results9])
  (refine exs ⟨fun _ => ?_, fun h => Bool.noConfusion h⟩; simp only [go_sem, Nat.add_assoc, Nat.reduceAdd, Try.results9])
  refine ac' (gives_ac (e := e6N) (by kernel_rfl) (leaf_ok (by decide)) (by decide) (.inr ⟨by decide, 0, g6⟩) _ _ _ ?_)
  try simp only [nD, go_sem, Nat.add_assoc, Nat.reduceAdd, Try.results9]
  (refine exs ⟨fun _ => ?_, fun h => Bool.noConfusion h⟩; simp only [go_sem, Nat.add_assoc, Nat.reduceAdd, Try.results9])
  (refine ac' (nF0_ac _ _ _ _ _ ?_); try simp only [nD, go_sem, Nat.add_assoc, Nat.reduceAdd, Try.results9])
  (refine exs ⟨fun _ => ?_, fun h => Bool.noConfusion h⟩; simp only [go_sem, Nat.add_assoc, Nat.reduceAdd, Try.results9])
  refine ac' (gives_ac (e := e7N) (by kernel_rfl) (leaf_ok (by decide)) (by decide) (.inr ⟨by decide, 0, g7⟩) _ _ _ ?_)
  try simp only [nD, go_sem, Nat.add_assoc, Nat.reduceAdd, Try.results9]
  (refine exs ⟨fun _ => ?_, fun h => Bool.noConfusion h⟩; simp only [go_sem, Nat.add_assoc, Nat.reduceAdd, Try.results9])
  refine ac' (gives_ac (e := allN 2) (by kernel_rfl) (allN_ok (by decide)) (by decide) (.inl ⟨rfl, g8⟩) _ _ _ ?_)
  try simp only [nD, go_sem, Nat.add_assoc, Nat.reduceAdd, Try.results9]
  (refine exs ⟨fun _ => ?_, fun h => Bool.noConfusion h⟩; simp only [go_sem, Nat.add_assoc, Nat.reduceAdd, Try.results9])
  refine ac' (gives_ac (e := allN 3) (by kernel_rfl) (allN_ok (by decide)) (by decide) (.inr ⟨by decide, 0, g9⟩) _ _ _ ?_)
  try simp only [nD, go_sem, Nat.add_assoc, Nat.reduceAdd, Try.results9]
  (refine exs ⟨fun _ => ?_, fun h => Bool.noConfusion h⟩; simp only [go_sem, Nat.add_assoc, Nat.reduceAdd, Try.results9])
  refine ac' (gives_ac (e := oldN) (by kernel_rfl) (oldN_ok) (by decide) (.inl ⟨rfl, g10⟩) _ _ _ ?_)
  try simp only [nD, go_sem, Nat.add_assoc, Nat.reduceAdd, Try.results9]
  (refine exs ⟨fun _ => ?_, fun h => Bool.noConfusion h⟩; simp only [go_sem, Nat.add_assoc, Nat.reduceAdd, Try.results9])
  refine ac' (gives_ac (e := oldN) (by kernel_rfl) (oldN_ok) (by decide) (.inr ⟨by decide, 0, g11⟩) _ _ _ ?_)
  try simp only [nD, go_sem, Nat.add_assoc, Nat.reduceAdd, Try.results9]
  have c1 : (((1 : Nat) : Int) == 1) = true := rfl
  have t2 : List.take 2 [iD 50, iD 7] = [iD 50, iD 7] := rfl
  have hc1 : cmpD Try.prog .eql 75 (.agg [iD 50, iD 7]) (.agg [D.int .i64 50, D.int .i64 7]) = some true := by kernel_rfl
  have hc2 : cmpD Try.prog .eql 67 (iD 1) (D.int .i64 1) = some true := by kernel_rfl
  simp only [c1, t2, hc1, hc2, Int.reduceToNat, List.getD_cons_zero, List.length_cons, List.length_nil, Option.getD_some, Option.isSome_some, Bool.and_self, true_and, forall_const]
  exact ⟨⟨by omega, by omega⟩, by omega, ⟨by omega, by omega⟩, by omega, ret_bd hbd rfl h⟩
end Go.Proofs.Ytfoblkeefpaceaa
end PartL4

section PartW3
/- The law of widths. -/
set_option linter.unusedSimpArgs false
set_option linter.unusedVariables false
set_option maxRecDepth 100000
namespace Go.Proofs.Ytfoblkeefpaceaa
open Go Go.Ab

theorem width_nil {S : Sy} {m p : Int} {e : Nd} {want : Int} (h : (widthR S m p e want).2 = []) : goodM S m p want = true ∧ dM S m p e want = [] ∧ (widthR S m p e want).1 = wM S m p e want := by
  unfold widthR at h ⊢
  cases hg : goodM S m p want with
  | false => rw [hg] at h; simp at h
  | true =>
    rw [hg] at h
    simp only [if_true] at h ⊢
    exact ⟨trivial, take20_nil.1 h, trivial⟩
theorem width_good {S : Sy} {m p : Int} {e : Nd} {want : Int} (hg : goodM S m p want = true) : widthR S m p e want = (wM S m p e want, (dM S m p e want).take 20) := by
  unfold widthR; rw [hg]; rfl
set_option maxHeartbeats 16000000 in
theorem law3_ac {S : Sy} (hS : S.Ok) (m p : Int) {e : Nd} (hok : e.Ok) (σ : St) (G : Glob) (R : A → St → Prop) (h : R (db true) σ) : AC Try.prog G 3 [.d (syD S), di m, di p, .d e.d] σ R := by
  have hsy : syD S = .agg [.sl 22 (S.mods.map moD), vrsD S.vars, .sl 12 (S.locks.map lkD), .sl 16 (S.procs.map prD), .sl 5 (S.threads.map thD)] := rfl
  rw [hsy, Nd.d_eq]
  refine ac_enterC [4, 7, 10] mixed Try.func3 rfl Try.ntmps3 (by simp only [go_sem]) fun hbd => ?_
  simp only [List.length_cons, List.length_nil, Nat.reduceAdd, Nat.reduceSub, List.replicate_succ, List.replicate_zero, List.cons_append, List.nil_append]
  simp only [go_sem, Try.results3]
  refine ac' (head_ac _ _ _ ?_)
  simp only [go_sem, Try.results3]
  refine aw_cut (fun fr st => shortM S = true ∧ smallM e = true ∧ usableM S = true ∧ fr = [.any, di m, di p, .any, .ref σ.length 0, .any, .any, .ref (σ.length + 1) 0, .any, db true, .any, .any, .any, .any, .any, .any, .any, .any, .any, .any, .any, .any, .any, .any, .any, .any, .any, .any, .any, .any, .any, .any, .any, .any, .any, .any, .any, .any, .any, .any, .any, .any, .any, .any, .any, .any, .any, .any, .any, .any, .any, .any, .any, .any, .any, .any, .any, .any, .any, .any, .any, .any, .any, .any, .any, .any, .any, .any, .any, .any, .any, .any, .any, .any, .any, .any, .any, .any, .any, .any, .any, .any, .any, .any, .any, .any, .any, .any, .any, .any, .any, .any, .any, .any, .any, .any, .any] ∧ st = σ ++ [scs S, ncs e]) ?_ ?_
  · simp only [go_sem, Try.results3]
    rw [← hsy]
    refine ac' (short_ac S hS _ _ _ ?_)
    simp only [go_sem, Try.results3]
    refine ex' (.bool (smallM e)) ⟨fun q => ?_, ?_⟩
    · simp only [go_sem, Try.results3]
      rw [← Nd.d_eq]
      exact ⟨by simpa using q, ac' (small_ac hok _ _ _ ⟨rfl, rfl⟩)⟩
    simp only [go_sem, Try.results3]
    refine ⟨fun q => by simpa using q, ex' (.bool (usableM S)) ⟨fun q => ?_, ?_⟩⟩
    · simp only [go_sem, Try.results3]
      rw [← hsy]
      exact ⟨by simpa using q, ac' (rusable_ac S hS _ _ _ ⟨rfl, rfl⟩)⟩
    simp only [go_sem, Try.results3]
    refine ⟨fun c => ret_bd hbd rfl h, fun c => ?_⟩
    simp only [Bool.or_eq_false_iff, Bool.not_eq_false'] at c
    exact Wk.keep [1, 2, 4, 7, 9] [0, 1] (by decide) (Nat.le_refl _) hbd ⟨c.1.1, c.1.2, c.2, by (simp only [go_sem]) <;> rfl, by (simp only [go_sem]) <;> rfl⟩
  rintro fr st ⟨h1, h2, h3, rfl, rfl⟩
  have hsf := short_fit h1
  have hn : e.nodes ≤ 10000 := by unfold smallM at h2; simp at h2; omega
  obtain ⟨w, d, hwd⟩ : ∃ w d, widthR S m p e 0 = (w, d) := ⟨_, _, rfl⟩
  simp only [go_sem, Try.results3]
  rw [← hsy, ← Nd.d_eq]
  refine ac' (widthF_ac hS m p hok hn 0 _ _ _ ?_)
  rw [hwd]
  simp only [dgsD, List.length_map, go_sem, Try.results3]
  refine aw_cut (fun fr st => d = [] ∧ fr = [.any, di m, di p, .any, .ref σ.length 0, .any, .any, .ref (σ.length + 1) 0, .any, db true, di w, .any, .any, .any, .any, .any, .any, .any, .any, .any, .any, .any, .any, .any, .any, .any, .any, .any, .any, .any, .any, .any, .any, .any, .any, .any, .any, .any, .any, .any, .any, .any, .any, .any, .any, .any, .any, .any, .any, .any, .any, .any, .any, .any, .any, .any, .any, .any, .any, .any, .any, .any, .any, .any, .any, .any, .any, .any, .any, .any, .any, .any, .any, .any, .any, .any, .any, .any, .any, .any, .any, .any, .any, .any, .any, .any, .any, .any, .any, .any, .any, .any, .any, .any, .any, .any, .any] ∧ st = σ ++ [scs S, ncs e]) ?_ ?_
  · simp only [List.length_map, go_sem, Try.results3]
    refine ⟨fun c => ret_bd hbd rfl h, fun c => ?_⟩
    have hd : d = [] := by
      have : ¬ (0 : Int) < (d.length : Int) := of_decide_eq_false c
      exact List.length_eq_zero_iff.1 (by omega)
    exact Wk.keep [1, 2, 4, 7, 9, 10] [0, 1] (by decide) (Nat.le_refl _) hbd ⟨hd, by (simp only [go_sem]) <;> rfl, by (simp only [go_sem]) <;> rfl⟩
  rintro fr st ⟨rfl, rfl, rfl⟩
  obtain ⟨g1, g2, g3⟩ := width_nil (S := S) (m := m) (p := p) (e := e) (want := 0) (by rw [hwd])
  rw [hwd] at g3
  have g3 : w = wM S m p e 0 := g3
  obtain ⟨o, ho⟩ : ∃ o, o = ownM (den (declM S m p) []) e := ⟨_, rfl⟩
  have law := fun (v : Int) (hv : 1 ≤ v ∧ v ≤ 8) => widths_law g1 g2 hv
  rw [← ho, ← g3] at law
  have howw : o ≠ 0 → o = w := (law 1 (by omega)).2.2.2.2
  simp only [go_sem, Try.results3]
  have hcx : cxD S m p false = .agg [.sl 22 (S.mods.map moD), vrsD S.vars, .sl 12 (S.locks.map lkD), .sl 16 (S.procs.map prD), .sl 5 (S.threads.map thD), iD m, iD p, .nils, .bool false] := rfl
  rw [← hcx, ← Nd.d_eq]
  refine ac' (rown_ac S hS m p false G e hok _ _ ?_)
  rw [← ho]
  simp only [go_sem, Try.results3]
  refine aw_cut (fun fr st => fr = [.any, di m, di p, .any, .ref σ.length 0, .any, .any, .ref (σ.length + 1) 0, .any, db true, di w, .any, di o, .any, .any, .any, .any, .any, .any, .any, .any, .any, .any, .any, .any, .any, .any, .any, .any, .any, .any, .any, .any, .any, .any, .any, .any, .any, .any, .any, .any, .any, .any, .any, .any, .any, .any, .any, .any, .any, .any, .any, .any, .any, .any, .any, .any, .any, .any, .any, .any, .any, .any, .any, .any, .any, .any, .any, .any, .any, .any, .any, .any, .any, .any, .any, .any, .any, .any, .any, .any, .any, .any, .any, .any, .any, .any, .any, .any, .any, .any, .any, .any, .any, .any, .any, .any] ∧ st = σ ++ [scs S, ncs e]) ?_ ?_
  · have hc : (o != 0 && o != w) = false := by
      by_cases h0 : o = 0
      · simp [h0]
      · simp [howw h0]
    simp only [go_sem, hc, Try.results3]
    exact Wk.keep [1, 2, 4, 7, 9, 10, 12] [0, 1] (by decide) (Nat.le_refl _) hbd ⟨by (simp only [go_sem]) <;> rfl, by (simp only [go_sem]) <;> rfl⟩
  rintro fr st ⟨rfl, rfl⟩
  simp only [go_sem, Try.results3]
  refine aw_loop (fun q fr st => ∃ v : Nat, 1 ≤ v ∧ v ≤ 9 ∧ q = 9 - v ∧ fr = [.any, di m, di p, .any, .ref σ.length 0, .any, .any, .ref (σ.length + 1) 0, .any, db true, di w, .any, di o, dn v, .any, .any, .any, .any, .any, .any, .any, .any, .any, .any, .any, .any, .any, .any, .any, .any, .any, .any, .any, .any, .any, .any, .any, .any, .any, .any, .any, .any, .any, .any, .any, .any, .any, .any, .any, .any, .any, .any, .any, .any, .any, .any, .any, .any, .any, .any, .any, .any, .any, .any, .any, .any, .any, .any, .any, .any, .any, .any, .any, .any, .any, .any, .any, .any, .any, .any, .any, .any, .any, .any, .any, .any, .any, .any, .any, .any, .any, .any, .any, .any, .any, .any, .any] ∧ st = σ ++ [scs S, ncs e]) 8 _ ?_ ?_
  · exact Wk.keep [1, 2, 4, 7, 9, 10, 12, 13] [0, 1] (by decide) (Nat.le_refl _) hbd ⟨1, by omega, by omega, by omega, by (simp only [go_sem]) <;> rfl, by (simp only [go_sem]) <;> rfl⟩
  rintro q fr st ⟨v, hv1, hv9, hq, rfl, rfl⟩
  rcases Nat.lt_or_ge v 9 with hlt | hge
  · have hd : decide ((v : Int) ≤ 8) = true := decide_eq_true (by omega)
    have w1 := wrapS v (by omega)
    obtain ⟨l1, l2, l3, l4, -⟩ := law v (by omega)
    simp only [go_sem, hd, Try.results3]
    rw [← hsy, ← Nd.d_eq]
    refine ac' (widthF_ac hS m p hok hn v _ _ _ ?_)
    rw [width_good l1, l2]
    obtain ⟨d, hd2⟩ : ∃ d, d = (dM S m p e v).take 20 := ⟨_, rfl⟩
    rw [← hd2]
    simp only [dgsD, List.length_map, go_sem, w1, Try.results3]
    have hz : ((v : Int) != (v : Int) || (v : Int) == w && decide (0 < (d.length : Int)) || (v : Int) != w && o != 0 && (d.length : Int) == 0) = false := by
      have x1 : ((v : Int) != (v : Int)) = false := by simp
      rw [x1, Bool.false_or]
      by_cases hvw : (v : Int) = w
      · have hd0 : d = [] := by rw [hd2, l3 hvw]; rfl
        subst hd0
        simp [hvw]
      · by_cases h0 : o = 0
        · simp [h0, hvw]
        · have hd0 : d ≠ [] := by rw [hd2]; exact fun hh => l4 hvw h0 (take20_nil.1 hh)
          simp [hvw, h0, hd0]
    rw [hz]
    refine ⟨fun a => ⟨a, fun b => by rw [a, b]; rfl⟩, fun a => ⟨a, fun b => by rw [a, b]; rfl⟩, fun a => ⟨a, fun b => by rw [a, b]; rfl⟩, fun c => Bool.noConfusion c, fun _ => ?_⟩
    exact Wk.keep [1, 2, 4, 7, 9, 10, 12, 13] [0, 1] (by decide) (Nat.le_refl _) hbd ⟨9 - (v + 1), by omega, v + 1, by omega, by omega, rfl, by (simp only [go_sem]) <;> rfl, by (simp only [go_sem]) <;> rfl⟩
  · have hd : decide ((v : Int) ≤ 8) = false := decide_eq_false (by omega)
    simp only [go_sem, hd, Try.results3]
    exact ret_bd hbd rfl h
end Go.Proofs.Ytfoblkeefpaceaa
end PartW3

section PartQ2
/- Plain facts: trees without offsets; bound variables renamed; trees of numbers. -/
set_option linter.unusedSimpArgs false
set_option linter.unusedVariables false
namespace Go.Proofs.Ytfoblkeefpaceaa
open Go Go.Ab

mutual
/-- A tree without offsets. -/
def stripM : Nd → Nd
  | .mk k s o n l i g ks p => .mk k s o n l i g (stripL ks) 0
def stripL : List Nd → List Nd
  | [] => []
  | e :: r => stripM e :: stripL r
end
theorem stripL_map : ∀ l : List Nd, stripL l = l.map stripM
  | [] => by simp [stripL]
  | e :: r => by simp [stripL, stripL_map r]
theorem strip_none : stripM Nd.none = Nd.none := by simp [Nd.none, stripM, stripL]
theorem strip_kind (e : Nd) : (stripM e).kind = e.kind := by cases e; simp [stripM, Nd.kind]
theorem strip_name (e : Nd) : (stripM e).name = e.name := by cases e; simp [stripM, Nd.name]
theorem strip_n (e : Nd) : (stripM e).n = e.n := by cases e; simp [stripM, Nd.n]
theorem strip_pos (e : Nd) : (stripM e).pos = 0 := by cases e; simp [stripM, Nd.pos]
theorem strip_kids (e : Nd) : (stripM e).kids = e.kids.map stripM := by cases e; simp [stripM, Nd.kids, stripL_map]
theorem strip_kid (e : Nd) (i : Nat) : (stripM e).kid i = stripM (e.kid i) := by
  unfold Nd.kid; rw [strip_kids]
  conv => lhs; rw [← strip_none]
  rw [getD_map_none]
theorem own_strip (dn : Str → Mn) : ∀ e, ownM dn (stripM e) = ownM dn e := by
  refine Nd.ind (by rw [strip_none]) fun e hk _ => ?_
  rw [own_eq, own_eq dn e]; simp only [strip_kind, strip_name, strip_kid, hk]
theorem least_strip (dn : Str → Mn) : ∀ e, leastM dn (stripM e) = leastM dn e := by
  refine Nd.ind (by rw [strip_none]) fun e hk _ => ?_
  rw [least_eq, least_eq dn e]; simp only [strip_kind, strip_name, strip_n, strip_kid, hk]
theorem width_strip (dn : Str → Mn) (e : Nd) (w : Int) : widthM dn (stripM e) w = widthM dn e w := by
  simp only [widthM, own_strip, least_strip]
def zeroD (d : Dg) : Dg := ⟨d.err, 0⟩
theorem rep_zero (b : Bool) (x y : Int) : (rep b x y).map zeroD = rep b x 0 := by cases b <;> rfl
theorem refOwn_zero (m : Mn) (b : Bool) (w p : Int) : (refOwn m b w p).map zeroD = refOwn m b w 0 := by
  cases m
  · rfl
  · simp only [refOwn]; split
    · rfl
    · exact rep_zero ..
  · simp only [refOwn]; split
    · rfl
    · exact rep_zero ..
theorem expr_strip (C : Cx) : ∀ (e : Nd) (B : Bnd) (w : Int), exprM C (stripM e) B w = (exprM C e B w).map zeroD := by
  refine Nd.ind (fun B w => by rw [strip_none, expr_none]; rfl) fun e hk _ B w => ?_
  have ho : ∀ dn t, oldBad C.old dn (stripM t) = oldBad C.old dn t := fun dn t => by simp only [oldBad, strip_kind, strip_name]
  have hu : ∀ dn m i, outM dn m (stripM i) = outM dn m i := fun dn m i => by
    cases m <;> simp only [outM, strip_kind, strip_name, strip_n]
  have hin : ∀ dn a b, innerM dn (stripM a) (stripM b) = innerM dn a b := fun dn a b => by simp only [innerM, own_strip, least_strip]
  have hem : ∀ l : List Nd, (l.map stripM).isEmpty = l.isEmpty := fun l => by cases l <;> rfl
  rw [expr_eq, expr_eq C e]
  simp only [strip_kind, strip_name, strip_n, strip_pos, strip_kid, strip_kids, hem, refM, binM, indexM, ho, hu, hin, hk, width_strip]
  have z1 : ∀ (c : Prop) [Decidable c] (a b : List Dg), (if c then a else b).map zeroD = if c then a.map zeroD else b.map zeroD := fun c _ a b => by split <;> rfl
  simp only [z1, List.map_append, rep_zero, refOwn_zero, List.map_cons, List.map_nil, zeroD]

mutual
def occursM (s : Str) : Nd → Bool
  | .mk _ nm _ _ _ _ _ ks _ => nm == s || occursL s ks
def occursL (s : Str) : List Nd → Bool
  | [] => false
  | e :: r => occursM s e || occursL s r
end
theorem occursL_any (s : Str) : ∀ l : List Nd, occursL s l = l.any (occursM s)
  | [] => by simp [occursL]
  | e :: r => by simp [occursL, occursL_any s r]
theorem occurs_eq (s : Str) (e : Nd) : occursM s e = (e.name == s || e.kids.any (occursM s)) := by
  cases e; simp [occursM, occursL_any, Nd.name, Nd.kids]
mutual
/-- A free name, renamed in references. -/
def renM (f t : Str) : Nd → Nd
  | .mk k s o n l i g ks p => .mk k (if k = 2 ∧ s = f then t else s) o n l i g (if (k = 7 ∨ k = 8) ∧ s = f then ks.take 1 ++ (renL f t ks).drop 1 else renL f t ks) p
def renL (f t : Str) : List Nd → List Nd
  | [] => []
  | e :: r => renM f t e :: renL f t r
end
section
variable (f t : Str)
theorem renL_map : ∀ l : List Nd, renL f t l = l.map (renM f t)
  | [] => by simp [renL]
  | e :: r => by simp [renL, renL_map r]
theorem ren_none : renM f t Nd.none = Nd.none := by simp [Nd.none, renM, renL]
theorem ren_kind (e : Nd) : (renM f t e).kind = e.kind := by cases e; simp [renM, Nd.kind]
theorem ren_name (e : Nd) : (renM f t e).name = if e.kind = 2 ∧ e.name = f then t else e.name := by cases e; simp only [renM, Nd.name, Nd.kind]; rfl
theorem ren_n (e : Nd) : (renM f t e).n = e.n := by cases e; simp [renM, Nd.n]
theorem ren_pos (e : Nd) : (renM f t e).pos = e.pos := by cases e; simp [renM, Nd.pos]
/-- The kids of a renamed tree. -/
def renKids (e : Nd) : List Nd := if (e.kind = 7 ∨ e.kind = 8) ∧ e.name = f then e.kids.take 1 ++ (e.kids.map (renM f t)).drop 1 else e.kids.map (renM f t)
theorem ren_kids (e : Nd) : (renM f t e).kids = renKids f t e := by
  cases e with
  | mk k s o n l i g ks p => simp only [renM, renKids, Nd.kids, Nd.kind, Nd.name, renL_map]; rfl
theorem ren_empty (e : Nd) : (renM f t e).kids.isEmpty = e.kids.isEmpty := by
  rw [ren_kids]; unfold renKids; cases e.kids <;> split <;> rfl
theorem ren_kid0 (e : Nd) : (renM f t e).kid 0 = if (e.kind = 7 ∨ e.kind = 8) ∧ e.name = f then e.kid 0 else renM f t (e.kid 0) := by
  unfold Nd.kid; rw [ren_kids]; unfold renKids
  cases e.kids with
  | nil => simp [ren_none]
  | cons a r => split <;> simp
theorem ren_kidS (e : Nd) (i : Nat) : (renM f t e).kid (i + 1) = renM f t (e.kid (i + 1)) := by
  unfold Nd.kid; rw [ren_kids]; unfold renKids
  cases e.kids with
  | nil => simp [ren_none]
  | cons a r =>
    have : (r.map (renM f t)).getD i Nd.none = renM f t (r.getD i Nd.none) := by
      conv => lhs; rw [← ren_none f t]
      rw [getD_map_none]
    split
    · simp only [List.take_succ_cons, List.take_zero, List.map_cons, List.drop_succ_cons, List.drop_zero, List.cons_append, List.nil_append, List.getD_cons_succ]; exact this
    · simp only [List.map_cons, List.getD_cons_succ]; exact this
end
theorem den_app (L : Str → Option (Int × Vr)) (B : Bnd) (x : Str × Int) (s : Str) : den L (B ++ [x]) s = if x.1 = s then .bound x.2 else den L B s := by
  unfold den
  rw [List.reverse_append]
  simp only [List.reverse_cons, List.reverse_nil, List.nil_append, List.singleton_append, List.find?_cons]
  by_cases h : x.1 = s
  · simp [h]
  · have : (x.1 == s) = false := by simpa using h
    simp [this, h]
theorem not_occurs_kid {s : Str} {e : Nd} (h : occursM s e = false) (i : Nat) : occursM s (e.kid i) = false ∨ e.kid i = Nd.none := by
  rw [occurs_eq] at h
  simp only [Bool.or_eq_false_iff, List.any_eq_false] at h
  unfold Nd.kid
  rcases Nat.lt_or_ge i e.kids.length with hi | hi
  · left; simpa using h.2 _ (getD_mem Nd.none hi)
  · right; rw [List.getD_eq_getElem?_getD, List.getElem?_eq_none hi]; rfl
theorem occurs_name {s : Str} {e : Nd} (h : occursM s e = false) : e.name ≠ s := by
  rw [occurs_eq] at h
  simp only [Bool.or_eq_false_iff] at h
  simpa using h.1
/-- Trees, the kids of which that are missing count as without names. -/
def Lacks (s : Str) (e : Nd) : Prop := occursM s e = false ∨ e = Nd.none
theorem Lacks.kid {s : Str} {e : Nd} (h : Lacks s e) (i : Nat) : Lacks s (e.kid i) := by
  rcases h with h | rfl
  · exact not_occurs_kid h i
  · right; simp [Nd.kid, Nd.none, Nd.kids]
theorem Lacks.name {s : Str} {e : Nd} (h : Lacks s e) (hs : s ≠ []) : e.name ≠ s := by
  rcases h with h | rfl
  · exact occurs_name h
  · simpa [Nd.none, Nd.name] using fun h => hs h
section
variable (L : Str → Option (Int × Vr)) (old : Bool) {fr : Str} (hfr : fr ≠ [])
include hfr
theorem own_same {d1 d2 : Str → Mn} (h : ∀ s, s ≠ fr → d1 s = d2 s) : ∀ e, Lacks fr e → ownM d1 e = ownM d2 e := by
  refine Nd.ind (fun _ => by rw [own_none, own_none]) fun e hk _ hl => ?_
  rw [own_eq, own_eq d2 e]; simp only [hk _ (hl.kid _), h _ (hl.name hfr)]
theorem least_same {d1 d2 : Str → Mn} (h : ∀ s, s ≠ fr → d1 s = d2 s) : ∀ e, Lacks fr e → leastM d1 e = leastM d2 e := by
  refine Nd.ind (fun _ => by rw [least_none, least_none]) fun e hk _ hl => ?_
  rw [least_eq, least_eq d2 e]; simp only [hk _ (hl.kid _), h _ (hl.name hfr)]
theorem expr_same : ∀ (e : Nd) (B1 B2 : Bnd) (w : Int), Lacks fr e → (∀ s, s ≠ fr → den L B1 s = den L B2 s) → exprM ⟨L, old⟩ e B1 w = exprM ⟨L, old⟩ e B2 w := by
  refine Nd.ind (fun B1 B2 w _ _ => by rw [expr_none, expr_none]) fun e hk _ B1 B2 w hl h => ?_
  have ko := fun i => own_same hfr h _ (hl.kid i)
  have kl := fun i => least_same hfr h _ (hl.kid i)
  have kn := h _ (hl.name hfr)
  have kk := fun i => h _ ((hl.kid i).name hfr)
  have hx := fun i w => hk i B1 B2 w (hl.kid i) h
  have hq := hk 0 (B1 ++ [(e.name, e.n)]) (B2 ++ [(e.name, e.n)]) 1 (hl.kid 0) fun s hs => by rw [den_app, den_app, h s hs]
  have hout : outM (den L B1) (den L B2 e.name) (e.kid 0) = outM (den L B2) (den L B2 e.name) (e.kid 0) := by
    cases den L B2 e.name <;> simp only [outM, kk]
  have hold : oldBad old (den L B1) (e.kid 0) = oldBad old (den L B2) (e.kid 0) := by simp only [oldBad, kk]
  rw [expr_eq, expr_eq _ e B2]
  simp only [refM, binM, indexM, innerM, widthM, ko, kl, kn, hx, hq, hout, hold]
variable {nm : Str}
theorem own_ren {d1 d2 : Str → Mn} (h : ∀ s, s ≠ fr → d2 (if s = nm then fr else s) = d1 s) : ∀ e, Lacks fr e → ownM d2 (renM nm fr e) = ownM d1 e := by
  refine Nd.ind (fun _ => by rw [ren_none, own_none, own_none]) fun e hk _ hl => ?_
  have hn := h _ (hl.name hfr)
  rw [own_eq, own_eq d1 e]
  simp only [ren_kind, ren_kidS]
  by_cases h2 : e.kind = 2
  · have : (renM nm fr e).name = if e.name = nm then fr else e.name := by rw [ren_name]; simp [h2]
    simp only [h2, if_true, this, hn]
  · have hnn : (renM nm fr e).name = e.name := by rw [ren_name]; simp [h2]
    by_cases hq : e.kind = 7 ∨ e.kind = 8
    · have h3 : ¬ (e.kind = 3 ∨ e.kind = 4) := by omega
      have h5 : ¬ e.kind = 5 := by omega
      have h6 : ¬ e.kind = 6 := by omega
      simp only [h2, h3, h5, h6, hq, if_true, if_false]
    · have h0 : (renM nm fr e).kid 0 = renM nm fr (e.kid 0) := by rw [ren_kid0]; simp [hq]
      have h1 := ren_kidS nm fr e 0
      have h1' := ren_kidS nm fr e 1
      simp only [Nat.zero_add, Nat.reduceAdd] at h1 h1'
      simp only [h2, hq, if_false, hnn, h0, h1, h1', hk _ (hl.kid _)]
theorem least_ren {d1 d2 : Str → Mn} (h : ∀ s, s ≠ fr → d2 (if s = nm then fr else s) = d1 s) : ∀ e, Lacks fr e → leastM d2 (renM nm fr e) = leastM d1 e := by
  refine Nd.ind (fun _ => by rw [ren_none, least_none, least_none]) fun e hk _ hl => ?_
  have hn := h _ (hl.name hfr)
  rw [least_eq, least_eq d1 e]
  simp only [ren_kind, ren_n]
  by_cases h2 : e.kind = 2
  · have : (renM nm fr e).name = if e.name = nm then fr else e.name := by rw [ren_name]; simp [h2]
    simp only [h2, if_true, this, hn]
  · have hnn : (renM nm fr e).name = e.name := by rw [ren_name]; simp [h2]
    by_cases hq : e.kind = 7 ∨ e.kind = 8
    · have h3 : ¬ (e.kind = 3 ∨ e.kind = 4) := by omega
      have h5 : ¬ e.kind = 5 := by omega
      have h6 : ¬ e.kind = 6 := by omega
      simp only [h2, h3, h5, h6, if_false]
    · have h0 : (renM nm fr e).kid 0 = renM nm fr (e.kid 0) := by rw [ren_kid0]; simp [hq]
      have h1 := ren_kidS nm fr e 0
      have h1' := ren_kidS nm fr e 1
      simp only [Nat.zero_add, Nat.reduceAdd] at h1 h1'
      simp only [h2, if_false, hnn, h0, h1, h1', hk _ (hl.kid _)]
theorem expr_ren (hnf : nm ≠ fr) : ∀ (e : Nd) (B1 B2 : Bnd) (w : Int), Lacks fr e → (∀ s, s ≠ fr → den L B2 (if s = nm then fr else s) = den L B1 s) → exprM ⟨L, old⟩ (renM nm fr e) B2 w = exprM ⟨L, old⟩ e B1 w := by
  refine Nd.ind (fun B1 B2 w _ _ => by rw [ren_none, expr_none, expr_none]) fun e hk _ B1 B2 w hl h => ?_
  by_cases hq : e.kind = 7 ∨ e.kind = 8
  · have h1 : ¬ e.kind = 1 := by omega
    have h2 : ¬ e.kind = 2 := by omega
    have h3 : ¬ e.kind = 3 := by omega
    have h4 : ¬ e.kind = 4 := by omega
    have h5 : ¬ e.kind = 5 := by omega
    have h6 : ¬ e.kind = 6 := by omega
    have hnn : (renM nm fr e).name = e.name := by rw [ren_name]; simp [h2]
    rw [expr_eq, expr_eq _ e B1]
    simp only [ren_kind, ren_n, ren_pos, hnn, h1, h2, h3, h4, h5, h6, hq, if_true, if_false]
    congr 1
    rw [ren_kid0]
    have hne := hl.name hfr
    by_cases he : e.name = nm
    · rw [if_pos ⟨hq, he⟩]
      refine expr_same L old hfr _ _ _ _ (hl.kid 0) fun s hs => ?_
      rw [den_app, den_app]
      by_cases hs2 : e.name = s
      · simp [hs2]
      · have := h s hs
        rw [if_neg (by rintro rfl; exact hs2 he)] at this
        simp [hs2, this]
    · rw [if_neg (by rintro ⟨_, h⟩; exact he h)]
      refine hk 0 _ _ _ (hl.kid 0) fun s hs => ?_
      rw [den_app, den_app]
      by_cases hs2 : e.name = s
      · have hsn : s ≠ nm := by rintro rfl; exact he hs2
        simp [hsn, hs2]
      · have := h s hs
        by_cases hsn : s = nm
        · simp only [hsn, if_true] at this ⊢
          have : ¬ e.name = fr := hne
          rw [if_neg this, if_neg (by rw [← hsn]; exact hs2)]
          assumption
        · simp only [hsn, if_false] at this ⊢
          rw [if_neg hs2, if_neg hs2]; exact this
  · have h0 : (renM nm fr e).kid 0 = renM nm fr (e.kid 0) := by rw [ren_kid0]; simp [hq]
    have h1 : (renM nm fr e).kid 1 = renM nm fr (e.kid 1) := ren_kidS nm fr e 0
    have h2 : (renM nm fr e).kid 2 = renM nm fr (e.kid 2) := ren_kidS nm fr e 1
    have ko := fun i => own_ren hfr h _ (hl.kid i)
    have kl := fun i => least_ren hfr h _ (hl.kid i)
    have kn := h _ (hl.name hfr)
    have kk := fun i => h _ ((hl.kid i).name hfr)
    have hx := fun i w => hk i B1 B2 w (hl.kid i) h
    have hold : oldBad old (den L B2) (renM nm fr (e.kid 0)) = oldBad old (den L B1) (e.kid 0) := by
      simp only [oldBad, ren_kind]
      by_cases hc : (e.kid 0).kind = 2
      · have : (renM nm fr (e.kid 0)).name = if (e.kid 0).name = nm then fr else (e.kid 0).name := by rw [ren_name]; simp [hc]
        rw [this, kk 0]
      · have : ((e.kid 0).kind != 2) = true := by simpa using hc
        simp [this]
    have hout : outM (den L B2) (den L B1 e.name) (renM nm fr (e.kid 0)) = outM (den L B1) (den L B1 e.name) (e.kid 0) := by
      cases den L B1 e.name
      · rfl
      · rfl
      · simp only [outM, ren_kind, ren_n]
        by_cases hc : (e.kid 0).kind = 2
        · have : (renM nm fr (e.kid 0)).name = if (e.kid 0).name = nm then fr else (e.kid 0).name := by rw [ren_name]; simp [hc]
          rw [this, kk 0]
        · simp only [hc, if_false]
    rw [expr_eq, expr_eq _ e B1]
    by_cases hc : e.kind = 2
    · have : (renM nm fr e).name = if e.name = nm then fr else e.name := by rw [ren_name]; simp [hc]
      simp only [ren_kind, hc, Int.reduceEq, if_true, if_false, refM, indexM, this, kn, ren_empty, ren_pos, h0, hout, widthM, ko, kl, hx]
    · have : (renM nm fr e).name = e.name := by rw [ren_name]; simp [hc]
      simp only [ren_kind, hc, hq, if_false, binM, innerM, this, ren_pos, ren_n, h0, h1, h2, hold, ko, kl, hx]
end
/-- The law of bound variables. -/
theorem binding_law (L : Str → Option (Int × Vr)) (old : Bool) (nm fr : Str) (hfr : fr ≠ []) (e : Nd) (hl : occursM fr e = false) (N w : Int) :
    exprM ⟨L, old⟩ (renM nm fr e) [(fr, N)] w = exprM ⟨L, old⟩ e [(nm, N)] w := by
  by_cases hnf : nm = fr
  · subst hnf
    have : ∀ e : Nd, renM nm nm e = e := by
      have key : ∀ (n : Nat) (e : Nd), SizeOf.sizeOf e ≤ n → renM nm nm e = e := by
        intro n
        induction n with
        | zero => intro e he; cases e; simp at he
        | succ n ih =>
          intro e he
          have hk : ∀ k ∈ e.kids, renM nm nm k = k := fun k hk => ih k (by have := Nd.kid_lt hk; omega)
          cases e with
          | mk k s o n l i g ks p =>
            have hm : ∀ r : List Nd, (∀ k ∈ r, renM nm nm k = k) → r.map (renM nm nm) = r := fun r h => by
              conv => rhs; rw [← List.map_id r]
              exact List.map_congr_left h
            have hr := hm ks hk
            have hs : (if k = 2 ∧ s = nm then nm else s) = s := by split <;> simp_all
            simp only [renM, renL_map, hr, hs, List.take_append_drop, ite_self]
      exact fun e => key _ e (Nat.le_refl _)
    rw [this]
  refine expr_ren L old hfr hnf e _ _ w (.inl hl) fun s hs => ?_
  have e1 := den_app L [] (fr, N)
  have e2 := den_app L [] (nm, N)
  simp only [List.nil_append] at e1 e2
  rw [e1, e2]
  by_cases h : s = nm
  · simp [h]
  · have : ¬ nm = s := fun h' => h h'.symm
    have : ¬ fr = s := fun h' => hs h'.symm
    simp [*]
end Go.Proofs.Ytfoblkeefpaceaa
end PartQ2

section PartQ3
/- Plain facts: trees of numbers; symbols that are seen alike; one declaration after the other. -/
set_option linter.unusedSimpArgs false
set_option linter.unusedVariables false
namespace Go.Proofs.Ytfoblkeefpaceaa
open Go Go.Ab

inductive Num : Nd → List Int → Prop
  | one (k p : Int) : Num (.mk 1 [] [] k 0 0 false [] p) [k]
  | bin (op : Str) (a b : Nd) {la lb : List Int} (h : opM op = 3) (ha : Num a la) (hb : Num b lb) : Num (.mk 5 op [] 0 0 0 false [a, b] 0) (la ++ lb)
theorem bits_le {n v : Int} (h0 : 0 ≤ n) (hv : 1 ≤ v) : bitsM n ≤ v ↔ n < 2 ^ v.toNat := by
  obtain ⟨k, rfl⟩ : ∃ k : Nat, v = (k : Int) + 1 := ⟨(v - 1).toNat, by omega⟩
  obtain ⟨m, rfl⟩ : ∃ m : Nat, n = m := ⟨n.toNat, by omega⟩
  have ht : ((k : Int) + 1).toNat = k + 1 := by omega
  rw [ht]
  have hc : ((m : Int) < 2 ^ (k + 1)) ↔ m < 2 ^ (k + 1) := by
    constructor
    · intro h; exact_mod_cast h
    · intro h; exact_mod_cast h
  rw [hc]
  unfold bitsM
  split
  · constructor
    · intro _
      have : 2 ≤ 2 ^ (k + 1) := by
        have := Nat.pow_le_pow_right (n := 2) (by omega) (show 1 ≤ k + 1 by omega)
        simpa using this
      omega
    · intro _; omega
  · rename_i hm
    have hne : m ≠ 0 := by omega
    rw [show ((m : Int)).toNat = m from rfl, ← Nat.log2_lt hne]
    omega
theorem fits_iff {n v : Int} (hv : 1 ≤ v) : fitsM n v = true ↔ 0 ≤ n ∧ bitsM n ≤ v := by
  unfold fitsM
  simp only [decide_eq_true_eq]
  constructor
  · rintro ⟨h0, h1⟩; exact ⟨h0, (bits_le h0 hv).2 h1⟩
  · rintro ⟨h0, h1⟩; exact ⟨h0, (bits_le h0 hv).1 h1⟩
/-- Do all numbers fit? -/
def allFit (l : List Int) (v : Int) : Bool := l.all fun n => fitsM n v
theorem num_facts {e : Nd} {l : List Int} (h : Num e l) (C : Cx) (B : Bnd) (dn : Str → Mn) :
    ownM dn e = 0 ∧ (∀ v, exprM C e B v = [] ↔ allFit l v = true) ∧ (∀ v : Int, 1 ≤ v → (allFit l v = true ↔ (∀ n ∈ l, 0 ≤ n) ∧ leastM dn e ≤ v)) := by
  induction h with
  | one k p =>
    refine ⟨by rw [own_eq]; simp [Nd.kind], fun v => ?_, fun v hv => ?_⟩
    · rw [expr_eq]; simp [Nd.kind, Nd.n, Nd.pos, rep_nil, allFit]
    · rw [least_eq]
      simp only [allFit, List.all_cons, List.all_nil, Bool.and_true, Nd.kind, Nd.n, if_true, List.mem_singleton, forall_eq]
      exact fits_iff hv
  | bin op a b ho ha hb iha ihb =>
    rename_i la lb
    obtain ⟨a1, a2, a3⟩ := iha
    obtain ⟨b1, b2, b3⟩ := ihb
    have k0 : (Nd.mk 5 op [] 0 0 0 false [a, b] 0).kid 0 = a := rfl
    have k1 : (Nd.mk 5 op [] 0 0 0 false [a, b] 0).kid 1 = b := rfl
    have af : ∀ v, allFit (la ++ lb) v = (allFit la v && allFit lb v) := fun v => by simp [allFit]
    refine ⟨?_, fun v => ?_, fun v hv => ?_⟩
    · rw [own_eq, k0, k1, a1, b1]; simp [Nd.kind, Nd.name, ho, orM]
    · rw [expr_eq]
      simp only [Nd.kind, Nd.name, Int.reduceEq, if_true, if_false, binM, ho, k0, k1, List.append_eq_nil_iff, a2, b2, af, Bool.and_eq_true]
    · rw [least_eq, k0, k1, af, Bool.and_eq_true, a3 v hv, b3 v hv]
      simp only [Nd.kind, Nd.name, Int.reduceEq, if_true, if_false, false_or, or_self, ho, List.mem_append]
      constructor
      · rintro ⟨⟨h1, h2⟩, h3, h4⟩
        exact ⟨fun n hn => hn.elim (h1 n) (h3 n), by omega⟩
      · rintro ⟨h1, h2⟩
        exact ⟨⟨fun n hn => h1 n (.inl hn), by omega⟩, fun n hn => h1 n (.inr hn), by omega⟩
/-- The least width that all numbers fit, 0 if none of 1 to 8 is one. -/
def leastFit (l : List Int) : Nat → Int
  | 0 => 0
  | k + 1 => if allFit l (9 - (k + 1 : Nat)) then 9 - (k + 1 : Nat) else leastFit l k
/-- The law of numbers. -/
theorem numbers_law {e : Nd} {l : List Int} (h : Num e l) (C : Cx) (B : Bnd) {least : Int} (hl : (least = 0 ∧ ∀ v : Int, 1 ≤ v → v ≤ 8 → allFit l v = false) ∨ (1 ≤ least ∧ least ≤ 8 ∧ allFit l least = true ∧ ∀ v : Int, 1 ≤ v → v < least → allFit l v = false)) :
    (least = 0 ↔ exprM C e B (widthM (den C.L B) e 0) ≠ []) ∧ (least ≠ 0 → widthM (den C.L B) e 0 = least) := by
  obtain ⟨h1, h2, h3⟩ := num_facts h C B (den C.L B)
  have hp := least_pos (den C.L B) e
  have hw : widthM (den C.L B) e 0 = min (leastM (den C.L B) e) 8 := by unfold widthM; simp [h1]
  have hmin : 1 ≤ min (leastM (den C.L B) e) 8 := by omega
  rw [hw, Ne, h2, h3 _ hmin]
  rcases hl with ⟨rfl, hn⟩ | ⟨g1, g2, g3, g4⟩
  · have := hn 8 (by omega) (by omega)
    have h8 := h3 8 (by omega)
    rw [this] at h8
    simp only [Bool.false_eq_true, false_iff, not_and] at h8
    refine ⟨⟨fun _ hc => h8 hc.1 (by omega), fun _ => rfl⟩, fun h => (h rfl).elim⟩
  · have e1 := (h3 least g1).1 g3
    have : leastM (den C.L B) e = least := by
      by_cases hlt : leastM (den C.L B) e < least
      · have := g4 _ hp hlt
        rw [(h3 _ hp).2 ⟨e1.1, by omega⟩] at this
        cases this
      · omega
    refine ⟨⟨fun h => by omega, fun h => (h ⟨e1.1, by omega⟩).elim⟩, fun _ => by omega⟩

/-- Symbols that names see alike. -/
structure Alike (S T : Sy) : Prop where
  vars : T.vars = S.vars
  mods : T.mods.map Mo.name = S.mods.map Mo.name
  procs : T.procs.map (fun p => (p.name, p.mod, p.params, p.locals)) = S.procs.map fun p => (p.name, p.mod, p.params, p.locals)
  locks : T.locks.map (fun l => (l.name, l.mod)) = S.locks.map fun l => (l.name, l.mod)
  threads : T.threads = S.threads
theorem findIdx_map {α β : Type} (f : α → β) (p : β → Bool) : ∀ l : List α, (l.map f).findIdx? p = l.findIdx? fun x => p (f x)
  | [] => rfl
  | a :: r => by simp only [List.map_cons, List.findIdx?_cons, findIdx_map f p r]
section
variable {S T : Sy} (h : Alike S T)
include h
theorem Alike.lenM : T.mods.length = S.mods.length := by simpa using congrArg List.length h.mods
theorem Alike.lenP : T.procs.length = S.procs.length := by simpa using congrArg List.length h.procs
theorem Alike.modM (s : Str) : modM T s = modM S s := by
  have e : ∀ U : Sy, Proofs.Ytfoblkeefpaceaa.modM U s = (U.mods.map Mo.name).findIdx? fun m => m == s := fun U => by rw [findIdx_map]; rfl
  rw [e, e, h.mods]
theorem Alike.sharedM (m : Int) (s : Str) : sharedM T m s = sharedM S m s := by unfold Proofs.Ytfoblkeefpaceaa.sharedM; rw [h.vars]
theorem Alike.procIn (m : Int) (s : Str) : procInM T m s = procInM S m s := by
  have e : ∀ U : Sy, procInM U m s = (U.procs.map fun p => (p.name, p.mod, p.params, p.locals)).findIdx? fun p => p.2.1 == m && p.1 == s := fun U => by rw [findIdx_map]; rfl
  rw [e, e, h.procs]
theorem Alike.dotted (s : Str) : dottedM T s = dottedM S s := by unfold dottedM; simp only [h.modM]
theorem Alike.at_ {i : Nat} : T.procs[i]?.map (fun p => (p.name, p.mod, p.params, p.locals)) = S.procs[i]?.map (fun p => (p.name, p.mod, p.params, p.locals)) := by
  have := congrArg (fun l => l[i]?) h.procs
  simpa using this
theorem Alike.prAt (p : Int) : (prAt T p).map (fun p => (p.name, p.mod, p.params, p.locals)) = (prAt S p).map (fun p => (p.name, p.mod, p.params, p.locals)) := by
  unfold Proofs.Ytfoblkeefpaceaa.prAt; split
  · exact h.at_
  · rfl
theorem Alike.place (m p : Int) : placeM T m p = placeM S m p := by
  unfold placeM inMods
  rw [h.lenM, h.lenP]
  have := h.prAt p
  cases h1 : Proofs.Ytfoblkeefpaceaa.prAt T p <;> cases h2 : Proofs.Ytfoblkeefpaceaa.prAt S p <;> simp only [h1, h2, Option.map_none, Option.map_some, Option.some.injEq, Prod.mk.injEq, reduceCtorEq] at this ⊢
  rw [this.2.1]
theorem Alike.sharedT (m : Int) (s : Str) : sharedT T m s = sharedT S m s := by
  unfold Proofs.Ytfoblkeefpaceaa.sharedT; simp only [h.sharedM, h.dotted]
theorem Alike.look (m p : Int) (s : Str) : lookM T m p s = lookM S m p s := by
  unfold lookM
  rw [h.place]
  have := h.prAt p
  cases h1 : Proofs.Ytfoblkeefpaceaa.prAt T p <;> cases h2 : Proofs.Ytfoblkeefpaceaa.prAt S p <;> simp only [h1, h2, Option.map_none, Option.map_some, Option.some.injEq, Prod.mk.injEq, reduceCtorEq, h.sharedT] at this ⊢
  rw [this.2.2.1, this.2.2.2]
theorem Alike.decl (m p : Int) : declM T m p = declM S m p := by
  funext s
  unfold declM
  rw [h.look, h.vars]
  have := h.prAt p
  cases h1 : Proofs.Ytfoblkeefpaceaa.prAt T p <;> cases h2 : Proofs.Ytfoblkeefpaceaa.prAt S p <;> simp only [h1, h2, Option.map_none, Option.map_some, Option.some.injEq, Prod.mk.injEq, reduceCtorEq] at this ⊢
  rw [this.2.2.1, this.2.2.2]
theorem Alike.procOf (m : Int) (s : Str) : procOfM T m s = procOfM S m s := by
  unfold procOfM; simp only [h.procIn, h.dotted]
theorem Alike.cx (m p : Int) (old : Bool) : cxM T m p old = cxM S m p old := by unfold cxM; rw [h.decl]
theorem Alike.sx (m p : Int) (old : Bool) : sxM T m p old = sxM S m p old := by
  unfold sxM
  rw [h.cx, h.threads]
  have e1 : (fun s => T.locks.any fun l => l.mod == m && l.name == s) = fun s => S.locks.any fun l => l.mod == m && l.name == s := by
    funext s
    have e : ∀ U : Sy, (U.locks.any fun l => l.mod == m && l.name == s) = (U.locks.map fun l => (l.name, l.mod)).any fun l => l.2 == m && l.1 == s := fun U => by rw [List.any_map]; rfl
    rw [e, e, h.locks]
  have e2 : prmM T m = prmM S m := by
    funext s
    unfold prmM
    rw [h.procOf]
    cases procOfM S m s with
    | none => rfl
    | some i =>
      have := h.at_ (i := i)
      simp only
      cases h1 : T.procs[i]? <;> cases h2 : S.procs[i]? <;> simp only [h1, h2, Option.map_none, Option.map_some, Option.some.injEq, Prod.mk.injEq, reduceCtorEq, Option.getD_some] at this ⊢
      rw [this.2.2.1]
  rw [e1, e2]
theorem Alike.usable : usableM T = usableM S := by
  unfold usableM
  rw [h.vars]
  have hi : ∀ m, inMods T m = inMods S m := fun m => by unfold inMods; rw [h.lenM]
  have e1 : (T.locks.all fun l => inMods T l.mod) = S.locks.all fun l => inMods S l.mod := by
    have e : ∀ U : Sy, (U.locks.all fun l => inMods S l.mod) = (U.locks.map fun l => (l.name, l.mod)).all fun l => inMods S l.2 := fun U => by rw [List.all_map]; rfl
    simp only [hi]; rw [e, e, h.locks]
  have e2 : (T.procs.all fun p => inMods T p.mod && sizedM p.params && sizedM p.locals) = S.procs.all fun p => inMods S p.mod && sizedM p.params && sizedM p.locals := by
    have e : ∀ U : Sy, (U.procs.all fun p => inMods S p.mod && sizedM p.params && sizedM p.locals) = (U.procs.map fun p => (p.name, p.mod, p.params, p.locals)).all fun p => inMods S p.2.1 && sizedM p.2.2.1 && sizedM p.2.2.2 := fun U => by rw [List.all_map]; rfl
    simp only [hi]; rw [e, e, h.procs]
  rw [e1, e2]
  simp only [hi]
theorem Alike.good (m p w : Int) : goodM T m p w = goodM S m p w := by unfold goodM; rw [h.usable, h.place]
end
end Go.Proofs.Ytfoblkeefpaceaa
end PartQ3
