/- The checker's law package: renaming; the reference's Step; the head. -/
import Derived.Test.YtpmjdaiboniagaaC15
set_option linter.unusedSimpArgs false
set_option linter.unusedVariables false
set_option maxRecDepth 100000
namespace Go.Proofs.Ytpmjdaiboniagaa
open Go Go.Ab

def renI (vars b : Nat) (inv : List Bool) (l : Int) : Int := if decide (l < 0) != inv.getD (l.natAbs - 1) false then -(((l.natAbs - 1 + b) % vars + 1 : Nat) : Int) else (((l.natAbs - 1 + b) % vars + 1 : Nat) : Int)
theorem rename_ac (c : List Int) (vars b : Nat) (inv : List Bool) (hc : c.length ≤ 1000000) (hv : 1 ≤ vars ∧ vars ≤ 100) (hb : b ≤ 255) (hl : ∀ l ∈ c, l ≠ 0 ∧ -8000 ≤ l ∧ l ≤ 8000) (σ : St) (G : Glob) (R : A → St → Prop) (h : R (.d (isD (c.map (renI vars b inv)))) σ) :
    AC Try.prog G 47 [.d (isD c), dn vars, .d (.int .u8 b), .d (bsD inv)] σ R := by
  refine ac_enter mixed Try.func47 rfl Try.ntmps47 (by simp only [go_sem]) fun hbd => ?_
  simp only [List.length_cons, List.length_nil, Nat.reduceAdd, Nat.reduceSub, List.replicate_succ, List.replicate_zero, List.cons_append, List.nil_append]
  simp only [isD, bsD, go_sem, List.length_map]
  refine aw_loop (fun m fr st => ∃ j : Nat, j ≤ c.length ∧ m = c.length - j ∧ fr = [.d (.sl 1 (c.map iD)), dn vars, .d (.int .u8 b), .d (.sl 1 (inv.map .bool)), .any, .any, .any, .any, .any, .rs σ.length 1 0 j (some 3), dn j, .any, .any, .any, .any, .any, .any, .any, .any, .any, .any, .any, .any, .any, .any, .any, .any, .any, .any, .any, .any, .any, .any, .any, .any, .any, .any, .any, .any, .any, .any, .any, .any, .any, .any, .any, .any, .any, .any, .any, .any, .any, .any, .any, .any] ∧ st = σ ++ [ints ((c.take j).map (renI vars b inv))]) c.length _
    ⟨_, _, (Weak.mask [0, 1, 2, 3, 9, 10]).trans (Weak.empty 9 1 (some 3) rfl), 0, by omega, rfl, by simp [maskN], by simp [ints]⟩ ?_
  rintro m fr st ⟨j, hj, hm, rfl, rfl⟩
  rcases Nat.lt_or_ge j c.length with hlt | hge
  · have hd : decide ((j : Int) < (c.length : Int)) = true := decide_eq_true (by omega)
    have e1 : List.getD (List.map iD c) j default = iD (c.getD j 0) := getD_mapD hlt
    have w2 := wrapS j (by omega)
    have hx := hl _ (getD_mem 0 hlt)
    have htk := take_snoc 0 hlt
    generalize c.getD j 0 = x at e1 hx htk
    simp only [go_sem, List.length_map, hd, e1, w2]
    refine ⟨⟨by omega, by omega⟩, ac' (abs_ac _ _ _ _ ?_)⟩
    rw [absI_of (by omega)]
    have w3 : IntKind.i64.wrap ((x.natAbs : Int) - 1) = ((x.natAbs - 1 : Nat) : Int) := by rw [wrap64_id _ (by omega) (by omega)]; omega
    have w4 : IntKind.i64.wrap (b : Int) = (b : Int) := wrap64_id _ (by omega) (by omega)
    have w5 : IntKind.i64.wrap (((x.natAbs - 1 : Nat) : Int) + (b : Int)) = ((x.natAbs - 1 + b : Nat) : Int) := by rw [wrap64_id _ (by omega) (by omega)]; omega
    have w6 : (((x.natAbs - 1 + b : Nat) : Int)).tmod (vars : Int) = (((x.natAbs - 1 + b) % vars : Nat) : Int) := rfl
    have hmod : (x.natAbs - 1 + b) % vars < vars := Nat.mod_lt _ (by omega)
    have w7 : IntKind.i64.wrap ((((x.natAbs - 1 + b) % vars : Nat) : Int) + 1) = (((x.natAbs - 1 + b) % vars + 1 : Nat) : Int) := by rw [wrap64_id _ (by omega) (by omega)]; omega
    have w8 : IntKind.i64.wrap (0 - (((x.natAbs - 1 + b) % vars + 1 : Nat) : Int)) = -(((x.natAbs - 1 + b) % vars + 1 : Nat) : Int) := by rw [wrap64_id _ (by omega) (by omega)]; omega
    have hren : ∀ (q : Bool), inv.getD (x.natAbs - 1) false = q → renI vars b inv x = if decide (x < 0) != q then -(((x.natAbs - 1 + b) % vars + 1 : Nat) : Int) else (((x.natAbs - 1 + b) % vars + 1 : Nat) : Int) := fun q hq => by rw [← hq]; rfl
    rcases Nat.lt_or_ge (x.natAbs - 1) inv.length with hi | hi
    · have d1 : decide (((x.natAbs - 1 : Nat) : Int) < (inv.length : Int)) = true := decide_eq_true (by omega)
      have e2 : List.getD (List.map D.bool inv) (x.natAbs - 1) default = .bool (inv.getD (x.natAbs - 1) false) := getD_mapD hi
      obtain ⟨q, hq⟩ : ∃ q, inv.getD (x.natAbs - 1) false = q := ⟨_, rfl⟩
      have hren' := hren q hq
      rw [hq] at e2
      cases q <;> cases hneg : decide (x < 0)
      all_goals
        rw [hneg] at hren'
        simp only [go_sem, List.length_map, w2, w3, w4, w5, w6, w7, w8, d1, e1, e2, hneg, Bool.bne_true, Bool.bne_false, Bool.true_bne, Bool.false_bne, Bool.not_true, Bool.not_false] at hren' ⊢
        repeat' apply And.intro
        all_goals first
          | omega
          | (intro _; omega)
          | (simp only [maxLen]; omega)
          | (rw [List.length_take]; omega)
          | exact Wk.keep [0, 1, 2, 3, 9, 10] [2] (by decide) (Nat.le_refl _) hbd ⟨c.length - (j + 1), by omega, j + 1, hlt, rfl, by simp only [go_sem], by simp only [go_sem, List.map_append, List.map_cons, List.map_nil, ints, htk, hren', if_true, if_false]⟩
    · have d1 : decide (((x.natAbs - 1 : Nat) : Int) < (inv.length : Int)) = false := decide_eq_false (by omega)
      have hq : inv.getD (x.natAbs - 1) false = false := by rw [List.getD_eq_getElem?_getD, List.getElem?_eq_none hi]; rfl
      have hren' := hren false hq
      have e2 := hq
      cases hneg : decide (x < 0)
      all_goals
        rw [hneg] at hren'
        simp only [go_sem, List.length_map, w2, w3, w4, w5, w6, w7, w8, d1, e1, e2, hneg, Bool.bne_true, Bool.bne_false, Bool.true_bne, Bool.false_bne, Bool.not_true, Bool.not_false] at hren' ⊢
        repeat' apply And.intro
        all_goals first
          | omega
          | (intro _; omega)
          | (simp only [maxLen]; omega)
          | (rw [List.length_take]; omega)
          | exact Wk.keep [0, 1, 2, 3, 9, 10] [2] (by decide) (Nat.le_refl _) hbd ⟨c.length - (j + 1), by omega, j + 1, hlt, rfl, by simp only [go_sem], by simp only [go_sem, List.map_append, List.map_cons, List.map_nil, ints, htk, hren', if_true, if_false]⟩
  · have hd : decide ((j : Int) < (c.length : Int)) = false := decide_eq_false (by omega)
    have htk : c.take j = c := List.take_of_length_le hge
    simp only [go_sem, List.length_map, hd, htk, Try.results47]
    refine ret_frz 0 1 0 ((c.map (renI vars b inv)).map iD) rfl (lies_ints _) ?_
    simp only [go_sem, List.length_map, show j = c.length by omega]
    exact ret_d hbd h
def litsOK (vars : Int) (l : List Stp) : Bool := l.all fun s => validC ⟨vars, [s.lits]⟩
theorem literals_ac (l : List Stp) (vars : Int) (hv : I64 vars) (hl : l.length ≤ 1000000) (hs : ∀ s ∈ l, s.lits.length ≤ reachBytes) (σ : St) (G : Glob) (R : A → St → Prop) (h : R (db (litsOK vars l)) σ) : AC Try.prog G 46 [.d (stpsD l), di vars] σ R := by
  refine ac_enter mixed Try.func46 rfl Try.ntmps46 (by simp only [go_sem]) fun hbd => ?_
  simp only [List.length_cons, List.length_nil, Nat.reduceAdd, Nat.reduceSub, List.replicate_succ, List.replicate_zero, List.cons_append, List.nil_append]
  simp only [stpsD, go_sem, List.length_map]
  rw [litsOK] at h
  refine aw_loop (fun m fr st => ∃ j : Nat, j ≤ l.length ∧ m = l.length - j ∧ R (db ((l.drop j).all fun s => validC ⟨vars, [s.lits]⟩)) σ ∧ fr = [.d (.sl 2 (l.map stpD)), di vars, .any, .any, .any, dn j, .any, .any, .any, .any, .any, .any, .any, .any, .any, .any, .any, .any, .any, .any, .any, .any] ∧ st = σ) l.length _
    (Wk.mask [0, 1, 5] ⟨0, by omega, rfl, h, rfl, rfl⟩) ?_
  clear h
  rintro m fr st ⟨j, hj, hm, hR, rfl, rfl⟩
  rcases Nat.lt_or_ge j l.length with hlt | hge
  · have hd : decide ((j : Int) < (l.length : Int)) = true := decide_eq_true (by omega)
    have e1 := stpD_getD hlt
    have w2 := wrapS j (by omega)
    have hsj := hs _ (getD_mem ⟨[], []⟩ hlt)
    rw [drop_getD ⟨[], []⟩ hlt, List.all_cons] at hR
    generalize l.getD j ⟨[], []⟩ = s at e1 hR hsj
    simp only [go_sem, isD, List.length_map, hd, e1, w2]
    refine ⟨⟨by omega, by omega⟩, ac' (ac_weak (Weak.deep [0] 3) ?_)⟩
    simp only [go_sem, List.length_map]
    refine rvalid_ac ⟨vars, [s.lits]⟩ hv (by simp [reachBytes]) (fun c hc => ?_) _ _ _ ?_
    · simp only [List.mem_cons, List.not_mem_nil, or_false] at hc
      subst hc; exact hsj
    · simp only [go_sem, w2, Try.results46]
      refine ⟨fun hb => ret_d hbd ?_, fun hb => Wk.cut [0, 1, 5] (Nat.le_refl _) hbd (by simp only [go_sem]) ⟨l.length - (j + 1), by omega, j + 1, hlt, rfl, ?_, rfl, rfl⟩⟩
      · simp only [Bool.not_eq_true'] at hb
        rw [hb] at hR; exact hR
      · simp only [Bool.not_eq_false'] at hb
        rw [hb, Bool.true_and] at hR; exact hR
  · have hd : decide ((j : Int) < (l.length : Int)) = false := decide_eq_false (by omega)
    simp only [go_sem, List.length_map, hd, Try.results46]
    rw [List.drop_eq_nil_of_le hge] at hR
    exact ret_d0 hR
theorem rpvalid_ac (f : Cnf) (l : List Stp) (h1 : f.cls.length ≤ 100000) (h2 : l.length ≤ 100000) (hs : ∀ s ∈ l, s.lits.length ≤ reachBytes ∧ s.hints.length ≤ reachBytes) (σ : St) (G : Glob) (R : A → St → Prop)
    (h : R (db (!decide ((20000 : Int) < l.length) && stepsOk f.vars f.cls.length l)) σ) : AC Try.prog G 70 [.d (cnfD f), .d (stpsD l)] σ R := by
  obtain ⟨vars, cls⟩ := f
  simp only at h1 h
  refine ac_enter mixed Try.func70 rfl Try.ntmps70 (by simp only [go_sem]) fun hbd => ?_
  simp only [List.length_cons, List.length_nil, Nat.reduceAdd, Nat.reduceSub, List.replicate_succ, List.replicate_zero, List.cons_append, List.nil_append]
  simp only [cnfD, clsD, stpsD, go_sem, List.length_map, Try.results70]
  refine ⟨fun hb => ret_d hbd ?_, fun hb => ?_⟩
  · rw [hb] at h; exact h
  rw [hb, Bool.not_false, Bool.true_and] at h
  refine aw_loop (fun m fr st => ∃ j : Nat, j ≤ l.length ∧ m = l.length - j ∧ R (db (stepsOk vars (cls.length + j) (l.drop j))) σ ∧ fr = [.any, .d (.sl 2 (l.map stpD)), .ref σ.length 0, .any, .any, dn j, .any, .any, .any, .any, .any, .any, .any, .any, .any, .any, .any, .any, .any, .any, .any, .any, .any, .any, .any, .any, .any, .any] ∧
    st = σ ++ [some (.cells [.d (iD vars), .d (.sl 1 (cls.map isD))])]) l.length _ (Wk.mask [1, 2, 5] ⟨0, by omega, rfl, h, rfl, rfl⟩) ?_
  clear h
  rintro m fr st ⟨j, hj, hm, hR, rfl, rfl⟩
  rcases Nat.lt_or_ge j l.length with hlt | hge
  · have hd : decide ((j : Int) < (l.length : Int)) = true := decide_eq_true (by omega)
    have e1 := stpD_getD hlt
    have w2 := wrapS j (by omega)
    have w5 : IntKind.i64.wrap ((cls.length : Int) + (j : Int)) = ((cls.length + j : Nat) : Int) := by rw [wrap64_id _ (by omega) (by omega)]; omega
    have hsj := hs _ (getD_mem ⟨[], []⟩ hlt)
    rw [drop_getD ⟨[], []⟩ hlt, stepsOk] at hR
    generalize l.getD j ⟨[], []⟩ = s at e1 hR hsj
    simp only [go_sem, List.length_map, hd, e1, w2, w5]
    refine ⟨⟨by omega, by omega⟩, ac' (rstep_ac vars _ s hsj.1 hsj.2 _ _ _ ?_)⟩
    simp only [go_sem, List.length_map, w2, w5, Try.results70]
    refine ⟨fun hb => ret_d hbd ?_, fun hb => Wk.mask [1, 2, 5] ⟨l.length - (j + 1), by omega, j + 1, hlt, rfl, ?_, rfl, rfl⟩⟩
    · simp only [Bool.not_eq_true'] at hb
      rw [hb] at hR; exact hR
    · simp only [Bool.not_eq_false'] at hb
      rw [hb, Bool.true_and] at hR; exact hR
  · have hd : decide ((j : Int) < (l.length : Int)) = false := decide_eq_false (by omega)
    simp only [go_sem, List.length_map, hd, Try.results70]
    rw [List.drop_eq_nil_of_le hge, stepsOk] at hR
    exact ret_d hbd hR
theorem rstepF_ac (f : Cnf) (l : List Stp) (s : Stp) (hf : Fine f (l ++ [s])) (σ : St) (G : Glob) (R : A → St → Prop) (h : R (db (stepG f l s)) σ) : AC Try.prog G 42 [.d (cnfD f), .d (stpsD l), .d (stpD s)] σ R := by
  refine ac_enter mixed Try.func42 rfl Try.ntmps42 (by simp only [go_sem]) fun hbd => ?_
  simp only [List.length_cons, List.length_nil, Nat.reduceAdd, Nat.reduceSub, List.replicate_succ, List.replicate_zero, List.cons_append, List.nil_append]
  have hl := hf.steps
  have hc := hf.cls
  rw [List.length_append, List.length_singleton] at hl
  have d1 : decide ((20000 : Int) ≤ (l.length : Int)) = false := decide_eq_false (by omega)
  have d2 : decide ((20000 : Int) < (l.length : Int)) = false := decide_eq_false (by omega)
  have w5 : IntKind.i64.wrap ((f.cls.length : Int) + (l.length : Int)) = ((f.cls.length + l.length : Nat) : Int) := by rw [wrap64_id _ (by omega) (by omega)]; omega
  have hf1 : Fine f l := ⟨hf.vars, hf.cls, hf.len, by omega, fun t ht => hf.lits t (by simp [ht])⟩
  have hsl := hf.lits s (by simp)
  simp only [cnfD, stpsD, stpD, clsD, go_sem, List.length_map]
  refine ac' (rvalid_ac f hf.vars (by simp only [reachBytes]; omega) hf.len _ _ _ ?_)
  simp only [clsD, go_sem, List.length_map, d1, w5]
  rw [stepG] at h
  refine ⟨fun hh => by simpa using hh, ex' (.bool (stepsOk f.vars f.cls.length l)) ⟨fun hv => ?_, ?_⟩⟩
  · simp only [go_sem]
    refine ⟨by simpa using hv, ac' (rpvalid_ac f l (by omega) (by omega) (fun t ht => ?_) _ _ _ ?_)⟩
    · have := hf1.lits t ht
      simp only [reachBytes]; omega
    · rw [d2]; exact ⟨rfl, rfl⟩
  simp only [clsD, go_sem, List.length_map, d1, w5]
  refine ⟨fun hh => by simpa using hh, ex' (.bool (stepOk f.vars ((f.cls.length + l.length : Nat) : Int) s)) ⟨fun hv => ?_, ?_⟩⟩
  · simp only [go_sem, w5]
    refine ⟨by simpa using hv, ac' (rstep_ac f.vars _ s (by simp only [reachBytes]; omega) (by simp only [reachBytes]; omega) _ _ _ ⟨rfl, rfl⟩)⟩
  simp only [clsD, go_sem, List.length_map, d1, w5, Try.results42]
  refine ⟨fun hb => ret_d hbd ?_, fun hb => ?_⟩
  · have : (validC f && (stepsOk f.vars f.cls.length l && goodR f l s)) = false := by
      rw [goodR]
      revert hb
      cases validC f <;> cases stepsOk f.vars f.cls.length l <;> cases stepOk f.vars ((f.cls.length + l.length : Nat) : Int) s <;> simp
    rw [this] at h; exact h
  · simp only [Bool.or_eq_false_iff, Bool.not_eq_false'] at hb
    obtain ⟨⟨hv, hb1⟩, hb2⟩ := hb
    rw [hv, hb1, goodR, hb2, Bool.true_and, Bool.true_and, Bool.true_and] at h
    refine ac' (good_ac hf hv (fun t ht x hx => ?_) hb2 _ _ _ ?_)
    · have := stepsOk_range hb1 t ht (hf1.lits t ht).2.2 x hx
      have := (validC_iff.1 hv).1
      omega
    · simp only [go_sem, Try.results42]
      exact ret_d hbd h
end Go.Proofs.Ytpmjdaiboniagaa
