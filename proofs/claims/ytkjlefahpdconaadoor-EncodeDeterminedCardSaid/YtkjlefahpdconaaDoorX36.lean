import Derived.Test.YtkjlefahpdconaaDoorX35

section PartC1
/- Formulas: comparisons, validity, values. -/
set_option linter.unusedSimpArgs false
set_option linter.unusedVariables false
set_option maxRecDepth 100000
namespace Go.Proofs.YtkjlefahpdconaaDoor
open Go Go.Ab

def ordI : List Int → List Int → Int
  | [], [] => 0
  | [], _ :: _ => -1
  | _ :: _, [] => 1
  | a :: x, b :: y => if a < b then -1 else if b < a then 1 else ordI x y
theorem ordI_zero : ∀ x y : List Int, ordI x y = 0 ↔ x = y
  | [], [] => by simp [ordI]
  | [], b :: y => by simp [ordI]
  | a :: x, [] => by simp [ordI]
  | a :: x, b :: y => by
    have := ordI_zero x y
    simp only [ordI]
    split
    · simp; omega
    · split
      · simp; omega
      · rw [this]; simp; omega
set_option maxHeartbeats 4000000 in
theorem order_ac (x y : List Int) (hx : x.length ≤ reachBytes) (hy : y.length ≤ reachBytes) (σ : St) (G : Glob) (R : A → St → Prop) (h : R (di (ordI x y)) σ) : AC Tryd.prog G 42 [dL x, dL y] σ R := by
  refine ac_enter' mixed Tryd.func42 rfl Tryd.ntmps42 (by simp only [go_sem]) fun hbd => ?_
  simp only [List.length_cons, List.length_nil, Nat.reduceAdd, Nat.reduceSub, List.replicate_succ, List.replicate_zero, List.cons_append, List.nil_append]
  simp only [dL, isD, go_sem]
  refine aw_loop (fun m fr st => ∃ j : Nat, j ≤ x.length ∧ j ≤ y.length ∧ m = x.length - j ∧ R (di (ordI (x.drop j) (y.drop j))) σ ∧ fr = [.d (.sl 1 (x.map iD)), .d (.sl 1 (y.map iD)), .any, .any, .any, dn j, .any, .any, .any, .any, .any, .any, .any, .any, .any, .any, .any, .any, .any, .any, .any, .any, .any, .any, .any, .any, .any, .any, .any, .any, .any, .any, .any, .any, .any, .any, .any, .any, .any, .any, .any, .any, .any, .any, .any, .any] ∧ st = σ) x.length _ (Wk.mask [0, 1, 5] ⟨0, by omega, by omega, rfl, h, rfl, rfl⟩) ?_
  rintro m fr st ⟨j, hj, hj2, hm, hR, rfl, rfl⟩
  rcases Nat.lt_or_ge j x.length with hlt | hge
  · have hd : decide ((j : Int) < (x.length : Int)) = true := by simp; omega
    rcases Nat.lt_or_ge j y.length with hlt2 | hge2
    · have hd2 : decide ((j : Int) < (y.length : Int)) = true := by simp; omega
      have e1 := getD_isD hlt
      have e2 := getD_isD hlt2
      have w1 := wrapS j (by simp only [reachBytes] at hx; omega)
      rw [drop_getD 0 hlt, drop_getD 0 hlt2, ordI] at hR
      generalize x.getD j 0 = a at *
      generalize y.getD j 0 = b at *
      simp only [go_sem, hd, hd2, List.length_map, Tryd.results42]
      refine aw_plan (.tk 9 0 <| .done) (by kernel_rfl) ?_
      simp only [go_sem, e1, e2, List.length_map, Int.toNat_natCast, Tryd.results42]
      refine ⟨⟨by omega, by omega⟩, ⟨by omega, by omega⟩, fun q => ?_, fun q => ?_⟩
      · have q : a < b := by simpa using q
        rw [if_pos q] at hR
        exact ret_d0 hR
      · have q : ¬ a < b := by simpa using q
        rw [if_neg q] at hR
        refine aw_plan (.tk 9 0 <| .done) (by kernel_rfl) ?_
        simp only [go_sem, e1, e2, w1, List.length_map, Int.toNat_natCast, Tryd.results42]
        refine ⟨⟨by omega, by omega⟩, ⟨by omega, by omega⟩, fun q => ?_, fun q => ?_⟩
        · have q : b < a := by simpa using q
          rw [if_pos q] at hR
          exact ret_d0 hR
        · have q : ¬ b < a := by simpa using q
          rw [if_neg q] at hR
          exact Wk.mask [0, 1, 5] ⟨x.length - (j + 1), by omega, j + 1, by omega, by omega, rfl, hR, rfl, rfl⟩
    · have hd2 : decide ((j : Int) < (y.length : Int)) = false := by simp; omega
      have hd3 : decide ((x.length : Int) < (y.length : Int)) = false := by simp; omega
      have hd4 : decide ((y.length : Int) < (x.length : Int)) = true := by simp; omega
      rw [drop_getD 0 hlt, List.drop_eq_nil_of_le hge2, ordI] at hR
      simp only [go_sem, hd, hd2, hd3, hd4, List.length_map, Tryd.results42]
      exact ret_d0 hR
  · have hd : decide ((j : Int) < (x.length : Int)) = false := by simp; omega
    rw [List.drop_eq_nil_of_le hge] at hR
    rcases Nat.lt_or_ge j y.length with hlt2 | hge2
    · have hd3 : decide ((x.length : Int) < (y.length : Int)) = true := by simp; omega
      rw [drop_getD 0 hlt2, ordI] at hR
      simp only [go_sem, hd, hd3, List.length_map, Tryd.results42]
      exact ret_d0 hR
    · have hd3 : decide ((x.length : Int) < (y.length : Int)) = false := by simp; omega
      have hd4 : decide ((y.length : Int) < (x.length : Int)) = false := by simp; omega
      rw [List.drop_eq_nil_of_le hge2, ordI] at hR
      simp only [go_sem, hd, hd3, hd4, List.length_map, Tryd.results42]
      exact ret_d0 hR
theorem sameInts_ac (x y : List Int) (hx : x.length ≤ reachBytes) (hy : y.length ≤ reachBytes) (σ : St) (G : Glob) (R : A → St → Prop) (h : R (db (decide (x = y))) σ) : AC Tryd.prog G 21 [dL x, dL y] σ R := by
  refine ac_enter' mixed Tryd.func21 rfl Tryd.ntmps21 (by simp only [go_sem]) fun hbd => ?_
  simp only [List.length_cons, List.length_nil, Nat.reduceAdd, Nat.reduceSub, List.replicate_succ, List.replicate_zero, List.cons_append, List.nil_append]
  simp only [go_sem, Tryd.results21]
  refine ac' (order_ac x y hx hy _ _ _ ?_)
  simp only [go_sem, Tryd.results21]
  have : (ordI x y == 0) = decide (x = y) := by
    rw [Bool.eq_iff_iff, beq_iff_eq, decide_eq_true_eq, ordI_zero]
  rw [this]
  exact ret_d0 h
/-- Are the clauses those of the other list? -/
def sameL : List (List Int) → List (List Int) → Bool
  | [], _ => true
  | a :: x, y => decide (a = y.headD []) && sameL x y.tail
theorem sameL_cons (a b : List Int) (x y : List (List Int)) : sameL (a :: x) (b :: y) = (decide (a = b) && sameL x y) := rfl
theorem sameL_iff : ∀ x y : List (List Int), x.length = y.length → (sameL x y = true ↔ x = y)
  | [], [], _ => by simp [sameL]
  | [], b :: y, h => by simp at h
  | a :: x, [], h => by simp at h
  | a :: x, b :: y, h => by
    have := sameL_iff x y (by simpa using h)
    simp [sameL, this]
set_option maxHeartbeats 4000000 in
theorem same_ac (f g : Cnf) (hf : f.cls.length ≤ reachBytes) (hg : g.cls.length ≤ reachBytes) (hfc : ∀ c ∈ f.cls, c.length ≤ reachBytes) (hgc : ∀ c ∈ g.cls, c.length ≤ reachBytes) (σ : St) (G : Glob) (R : A → St → Prop) (h : R (db (decide (f.vars = g.vars ∧ f.cls = g.cls))) σ) : AC Tryd.prog G 23 [.d (cnfD f), .d (cnfD g)] σ R := by
  refine ac_enter' mixed Tryd.func23 rfl Tryd.ntmps23 (by simp only [go_sem]) fun hbd => ?_
  simp only [List.length_cons, List.length_nil, Nat.reduceAdd, Nat.reduceSub, List.replicate_succ, List.replicate_zero, List.cons_append, List.nil_append]
  simp only [cnfD, clsD, go_sem, List.length_map, Tryd.results23]
  refine ⟨fun q => ?_, fun q => ?_⟩
  · have : decide (f.vars = g.vars ∧ f.cls = g.cls) = false := by
      rw [decide_eq_false_iff_not]
      rintro ⟨h1, h2⟩
      simp [h1, h2] at q
    rw [this] at h
    exact ret_d hbd h
  · have hv : f.vars = g.vars ∧ f.cls.length = g.cls.length := by
      simp at q; omega
    have hR : R (db (sameL f.cls g.cls)) σ := by
      have : sameL f.cls g.cls = decide (f.vars = g.vars ∧ f.cls = g.cls) := by
        rw [Bool.eq_iff_iff, sameL_iff _ _ hv.2, decide_eq_true_eq]
        exact ⟨fun h => ⟨hv.1, h⟩, fun h => h.2⟩
      rw [this]; exact h
    refine aw_loop (fun m fr st => ∃ j : Nat, j ≤ f.cls.length ∧ m = f.cls.length - j ∧ R (db (sameL (f.cls.drop j) (g.cls.drop j))) σ ∧ fr = [.any, .any, .ref σ.length 0, .ref (σ.length + 1) 0, .any, dn j, .any, .any, .any, .any, .any, .any, .any, .any, .any, .any, .any, .any, .any, .any, .any, .any, .any, .any, .any, .any, .any, .any, .any, .any, .any, .any, .any, .any, .any, .any, .any, .any, .any] ∧ st = σ ++ [some (.cells [.d (iD f.vars), .d (.sl 1 (f.cls.map isD))]), some (.cells [.d (iD g.vars), .d (.sl 1 (g.cls.map isD))])]) f.cls.length _ (Wk.mask [2, 3, 5] ⟨0, by omega, rfl, hR, rfl, rfl⟩) ?_
    rintro m fr st ⟨j, hj, hm, hR, rfl, rfl⟩
    rcases Nat.lt_or_ge j f.cls.length with hlt | hge
    · have hd : decide ((j : Int) < (f.cls.length : Int)) = true := by simp; omega
      have e1 : List.getD (List.map isD f.cls) j default = isD (f.cls.getD j []) := getD_mapD hlt
      have e2 : List.getD (List.map isD g.cls) j default = isD (g.cls.getD j []) := getD_mapD (by omega)
      have w1 := wrapS j (by simp only [reachBytes] at hf; omega)
      have m1 := hfc _ (getD_mem [] hlt)
      have m2 := hgc _ (getD_mem [] (show j < g.cls.length by omega))
      rw [drop_getD [] hlt, drop_getD [] (show j < g.cls.length by omega), sameL_cons] at hR
      generalize f.cls.getD j [] = a at *
      generalize g.cls.getD j [] = b at *
      simp only [go_sem, hd, List.length_map, Tryd.results23]
      refine aw_plan (.tk 12 0 <| .done) (by kernel_rfl) ?_
      simp only [go_sem, e1, e2, isD, List.length_map, Int.toNat_natCast, Tryd.results23]
      refine ⟨⟨by omega, by omega⟩, ⟨by omega, by omega⟩, ac' (sameInts_ac a b m1 m2 _ _ _ ?_)⟩
      simp only [go_sem, w1, Tryd.results23]
      refine ⟨fun q => ?_, fun q => ?_⟩
      · have q : decide (a = b) = false := by simpa using q
        rw [q] at hR
        exact ret_d hbd hR
      · have q : decide (a = b) = true := by simpa using q
        rw [q, Bool.true_and] at hR
        exact Wk.mask [2, 3, 5] ⟨f.cls.length - (j + 1), by omega, j + 1, by omega, rfl, hR, rfl, rfl⟩
    · have hd : decide ((j : Int) < (f.cls.length : Int)) = false := by simp; omega
      rw [List.drop_eq_nil_of_le hge, sameL] at hR
      simp only [go_sem, hd, List.length_map, Tryd.results23]
      exact ret_d hbd hR
/-- Are the values those of the other list? -/
def sameB : List Bool → List Bool → Bool
  | [], _ => true
  | a :: x, y => (a == y.headD false) && sameB x y.tail
theorem sameB_cons (a b : Bool) (x y : List Bool) : sameB (a :: x) (b :: y) = ((a == b) && sameB x y) := rfl
theorem sameB_iff : ∀ x y : List Bool, x.length = y.length → (sameB x y = true ↔ x = y)
  | [], [], _ => by simp [sameB]
  | [], b :: y, h => by simp at h
  | a :: x, [], h => by simp at h
  | a :: x, b :: y, h => by
    have := sameB_iff x y (by simpa using h)
    simp [sameB, this]
set_option maxHeartbeats 4000000 in
theorem bools_ac (x y : List Bool) (hx : x.length ≤ reachBytes) (hy : y.length ≤ reachBytes) (σ : St) (G : Glob) (R : A → St → Prop) (h : R (db (decide (x = y))) σ) : AC Tryd.prog G 17 [.d (bsD x), .d (bsD y)] σ R := by
  refine ac_enter' mixed Tryd.func17 rfl Tryd.ntmps17 (by simp only [go_sem]) fun hbd => ?_
  simp only [List.length_cons, List.length_nil, Nat.reduceAdd, Nat.reduceSub, List.replicate_succ, List.replicate_zero, List.cons_append, List.nil_append]
  simp only [bsD, go_sem, List.length_map, Tryd.results17]
  refine ⟨fun q => ?_, fun q => ?_⟩
  · have : decide (x = y) = false := by
      rw [decide_eq_false_iff_not]
      rintro rfl
      simp at q
    rw [this] at h
    exact ret_d0 h
  · have hl : x.length = y.length := by simp at q; omega
    have hR : R (db (sameB x y)) σ := by
      have : sameB x y = decide (x = y) := by
        rw [Bool.eq_iff_iff, sameB_iff _ _ hl, decide_eq_true_eq]
      rw [this]; exact h
    refine aw_loop (fun m fr st => ∃ j : Nat, j ≤ x.length ∧ m = x.length - j ∧ R (db (sameB (x.drop j) (y.drop j))) σ ∧ fr = [.d (.sl 1 (x.map D.bool)), .d (.sl 1 (y.map D.bool)), .any, .any, .any, dn j, .any, .any, .any, .any, .any, .any, .any, .any, .any, .any, .any, .any, .any, .any, .any, .any, .any, .any, .any, .any] ∧ st = σ) x.length _ (Wk.mask [0, 1, 5] ⟨0, by omega, rfl, hR, rfl, rfl⟩) ?_
    rintro m fr st ⟨j, hj, hm, hR, rfl, rfl⟩
    rcases Nat.lt_or_ge j x.length with hlt | hge
    · have hd : decide ((j : Int) < (x.length : Int)) = true := by simp; omega
      have e1 : List.getD (List.map D.bool x) j default = .bool (x.getD j false) := getD_mapD hlt
      have e2 : List.getD (List.map D.bool y) j default = .bool (y.getD j false) := getD_mapD (by omega)
      have w1 := wrapS j (by simp only [reachBytes] at hx; omega)
      rw [drop_getD false hlt, drop_getD false (show j < y.length by omega), sameB_cons] at hR
      generalize x.getD j false = a at *
      generalize y.getD j false = b at *
      simp only [go_sem, hd, List.length_map, Tryd.results17]
      refine aw_plan (.tk 9 0 <| .done) (by kernel_rfl) ?_
      simp only [go_sem, e1, e2, w1, List.length_map, Int.toNat_natCast, Tryd.results17]
      refine ⟨⟨by omega, by omega⟩, ⟨by omega, by omega⟩, fun q => ?_, fun q => ?_⟩
      · rw [show (a == b) = false by simpa using q] at hR
        exact ret_d0 hR
      · rw [show (a == b) = true by simpa using q, Bool.true_and] at hR
        exact Wk.mask [0, 1, 5] ⟨x.length - (j + 1), by omega, j + 1, by omega, rfl, hR, rfl, rfl⟩
    · have hd : decide ((j : Int) < (x.length : Int)) = false := by simp; omega
      rw [List.drop_eq_nil_of_le hge, sameB] at hR
      simp only [go_sem, hd, List.length_map, Tryd.results17]
      exact ret_d0 hR
end Go.Proofs.YtkjlefahpdconaaDoor
end PartC1

section PartC2
/- Formulas: validity, values. -/
set_option linter.unusedSimpArgs false
set_option linter.unusedVariables false
set_option maxRecDepth 100000
namespace Go.Proofs.YtkjlefahpdconaaDoor
open Go Go.Ab

def inV (n : Int) (l : Int) : Bool := decide (l ≠ 0 ∧ -n ≤ l ∧ l ≤ n)
def clsV (n : Int) (c : List (List Int)) : Bool := c.all fun c => c.all fun l => inV n l
theorem validC_eq (f : Cnf) : validC f = (decide (0 ≤ f.vars) && decide (f.vars ≤ 8000) && decide (f.cls.length ≤ 40000) && clsV f.vars f.cls) := rfl
def fineC (f : Cnf) : Bool := decide (1 ≤ f.vars) && decide (f.vars ≤ 8000) && decide (2 ≤ f.cls.length) && decide (f.cls.length ≤ 40000) && clsV f.vars f.cls
theorem inV_test (n l : Int) : inV n l = !(l == 0 || decide (n < l) || decide (l < -n)) := by
  rw [Bool.eq_iff_iff, inV, decide_eq_true_eq]
  simp; omega
set_option maxHeartbeats 4000000 in
theorem cvalid_ac (f : Cnf) (hf : f.cls.length ≤ reachBytes) (hfc : ∀ c ∈ f.cls, c.length ≤ reachBytes) (σ : St) (G : Glob) (R : A → St → Prop) (h : R (db (validC f)) σ) : AC Tryd.prog G 20 [.d (cnfD f)] σ R := by
  refine ac_enter' mixed Tryd.func20 rfl Tryd.ntmps20 (by simp only [go_sem]) fun hbd => ?_
  simp only [List.length_cons, List.length_nil, Nat.reduceAdd, Nat.reduceSub, List.replicate_succ, List.replicate_zero, List.cons_append, List.nil_append]
  simp only [cnfD, clsD, go_sem, List.length_map, Tryd.results20]
  refine ⟨fun q => ?_, fun q => ?_⟩
  · have : validC f = false := by
      rw [validC_eq, Bool.and_eq_false_iff]
      left
      rw [← Bool.not_eq_true]
      intro hh
      simp only [Bool.and_eq_true, decide_eq_true_eq] at hh
      simp only [Bool.or_eq_true, decide_eq_true_eq] at q
      omega
    rw [this] at h
    exact ret_d hbd h
  · have hv : 0 ≤ f.vars ∧ f.vars ≤ 8000 ∧ f.cls.length ≤ 40000 := by
      simp only [Bool.or_eq_false_iff, decide_eq_false_iff_not] at q; omega
    have hR : R (db (clsV f.vars f.cls)) σ := by
      rw [validC_eq] at h
      have : (decide (0 ≤ f.vars) && decide (f.vars ≤ 8000) && decide (f.cls.length ≤ 40000)) = true := by simp; omega
      rw [this, Bool.true_and] at h
      exact h
    have wn : IntKind.i64.wrap (0 - f.vars) = -f.vars := by rw [wrap64_id _ (by omega) (by omega)]; omega
    refine aw_loop (fun m fr st => ∃ j : Nat, j ≤ f.cls.length ∧ m = f.cls.length - j ∧ R (db (clsV f.vars (f.cls.drop j))) σ ∧ fr = [.any, .ref σ.length 0, .any, .any, .any, .any, .any, .any, .any, .any, .any, .any, .any, .any, .any, .any, .any, .any, .any, .any, .any, .any, .d (.sl 1 (f.cls.map isD)), dn f.cls.length, dn j, .any, .any, .any, .any, .any, .any, .any, .any, .any, .any, .any, .any, .any, .any, .any, .any, .any, .any, .any, .any, .any, .any, .any, .any, .any, .any] ∧ st = σ ++ [some (.cells [.d (iD f.vars), .d (.sl 1 (f.cls.map isD))])]) f.cls.length _ (Wk.mask [1, 22, 23, 24] ⟨0, by omega, rfl, hR, rfl, rfl⟩) ?_
    rintro m fr st ⟨j, hj, hm, hR, rfl, rfl⟩
    rcases Nat.lt_or_ge j f.cls.length with hlt | hge
    · have hd : decide ((j : Int) < (f.cls.length : Int)) = true := by simp; omega
      have e1 : List.getD (List.map isD f.cls) j default = isD (f.cls.getD j []) := getD_mapD hlt
      have w1 := wrapS j (by omega)
      have m1 := hfc _ (getD_mem [] hlt)
      rw [drop_getD [] hlt, clsV, List.all_cons] at hR
      generalize f.cls.getD j [] = c at *
      have hR : R (db (c.all (fun l => inV f.vars l) && clsV f.vars (f.cls.drop (j + 1)))) σ := hR
      simp only [go_sem, hd, e1, isD, List.length_map, Int.toNat_natCast, Tryd.results20]
      refine ⟨⟨by omega, by omega⟩, ?_⟩
      refine aw_loop (fun m fr st => ∃ k : Nat, k ≤ c.length ∧ m = c.length - k ∧ R (db ((c.drop k).all (fun l => inV f.vars l) && clsV f.vars (f.cls.drop (j + 1)))) σ ∧ fr = [.any, .ref σ.length 0, .any, .any, .any, .any, .any, .any, .any, .any, .any, .any, .any, .any, .any, .any, .any, .any, .any, .any, .any, .any, .d (.sl 1 (f.cls.map isD)), dn f.cls.length, dn j, .any, .any, .any, .d (.sl 1 (c.map iD)), dn c.length, dn k, .any, .any, .any, .any, .any, .any, .any, .any, .any, .any, .any, .any, .any, .any, .any, .any, .any, .any, .any, .any] ∧ st = σ ++ [some (.cells [.d (iD f.vars), .d (.sl 1 (f.cls.map isD))])]) c.length _ (Wk.mask [1, 22, 23, 24, 28, 29, 30] ⟨0, by omega, rfl, hR, rfl, rfl⟩) ?_
      rintro m fr st ⟨k, hk, hm, hR, rfl, rfl⟩
      rcases Nat.lt_or_ge k c.length with hlt2 | hge2
      · have hd2 : decide ((k : Int) < (c.length : Int)) = true := by simp; omega
        have e2 := getD_isD hlt2
        have w2 := wrapS k (by simp only [reachBytes] at m1; omega)
        rw [drop_getD 0 hlt2, List.all_cons, inV_test] at hR
        generalize c.getD k 0 = l at *
        simp only [go_sem, hd2, e2, w2, wn, List.length_map, Int.toNat_natCast, Tryd.results20]
        refine ⟨⟨by omega, by omega⟩, fun q => ?_, fun q => ?_⟩
        · rw [q] at hR
          exact ret_d hbd hR
        · rw [q] at hR
          exact Wk.mask [1, 22, 23, 24, 28, 29, 30] ⟨c.length - (k + 1), by omega, k + 1, by omega, rfl, hR, rfl, rfl⟩
      · have hd2 : decide ((k : Int) < (c.length : Int)) = false := by simp; omega
        rw [List.drop_eq_nil_of_le hge2] at hR
        simp only [go_sem, hd2, w1, Tryd.results20]
        exact Wk.mask [1, 22, 23, 24] ⟨f.cls.length - (j + 1), by omega, j + 1, by omega, rfl, hR, rfl, rfl⟩
    · have hd : decide ((j : Int) < (f.cls.length : Int)) = false := by simp; omega
      rw [List.drop_eq_nil_of_le hge] at hR
      simp only [go_sem, hd, Tryd.results20]
      exact ret_d hbd hR
set_option maxHeartbeats 4000000 in
theorem fine_ac (f : Cnf) (hf : f.cls.length ≤ reachBytes) (hfc : ∀ c ∈ f.cls, c.length ≤ reachBytes) (σ : St) (G : Glob) (R : A → St → Prop) (h : R (db (fineC f)) σ) : AC Tryd.prog G 13 [.d (cnfD f)] σ R := by
  refine ac_enter' mixed Tryd.func13 rfl Tryd.ntmps13 (by simp only [go_sem]) fun hbd => ?_
  simp only [List.length_cons, List.length_nil, Nat.reduceAdd, Nat.reduceSub, List.replicate_succ, List.replicate_zero, List.cons_append, List.nil_append]
  simp only [cnfD, clsD, go_sem, List.length_map, Tryd.results13]
  refine ⟨fun q => ?_, fun q => ?_⟩
  · have : fineC f = false := by
      rw [fineC, Bool.and_eq_false_iff]
      left
      rw [← Bool.not_eq_true]
      intro hh
      simp only [Bool.and_eq_true, decide_eq_true_eq] at hh
      simp only [Bool.or_eq_true, decide_eq_true_eq] at q
      omega
    rw [this] at h
    exact ret_d hbd h
  · have hv : 1 ≤ f.vars ∧ f.vars ≤ 8000 ∧ 2 ≤ f.cls.length ∧ f.cls.length ≤ 40000 := by
      simp only [Bool.or_eq_false_iff, decide_eq_false_iff_not] at q; omega
    have hR : R (db (clsV f.vars f.cls)) σ := by
      rw [fineC] at h
      have : (decide (1 ≤ f.vars) && decide (f.vars ≤ 8000) && decide (2 ≤ f.cls.length) && decide (f.cls.length ≤ 40000)) = true := by simp; omega
      rw [this, Bool.true_and] at h
      exact h
    have wn : IntKind.i64.wrap (0 - f.vars) = -f.vars := by rw [wrap64_id _ (by omega) (by omega)]; omega
    refine aw_loop (fun m fr st => ∃ j : Nat, j ≤ f.cls.length ∧ m = f.cls.length - j ∧ R (db (clsV f.vars (f.cls.drop j))) σ ∧ fr = [.any, .ref σ.length 0, .any, dn j, .any, .any, .any, .any, .any, .any, .any, .any, .any, .any, .any, .any, .any, .any, .any, .any, .any, .any, .any, .any, .any, .any, .any, .any, .any, .any, .any, .any, .any, .any, .any, .any, .any, .any, .any, .any, .any, .any, .any, .any, .any, .any, .any, .any, .any, .any, .any, .any, .any, .any, .any, .any, .any, .any, .any, .any, .any, .any, .any, .any, .any, .any] ∧ st = σ ++ [some (.cells [.d (iD f.vars), .d (.sl 1 (f.cls.map isD))])]) f.cls.length _ (Wk.mask [1, 3] ⟨0, by omega, rfl, hR, rfl, rfl⟩) ?_
    rintro m fr st ⟨j, hj, hm, hR, rfl, rfl⟩
    rcases Nat.lt_or_ge j f.cls.length with hlt | hge
    · have hd : decide ((j : Int) < (f.cls.length : Int)) = true := by simp; omega
      have e1 : List.getD (List.map isD f.cls) j default = isD (f.cls.getD j []) := getD_mapD hlt
      have w1 := wrapS j (by omega)
      have m1 := hfc _ (getD_mem [] hlt)
      rw [drop_getD [] hlt, clsV, List.all_cons] at hR
      generalize f.cls.getD j [] = c at *
      have hR : R (db (c.all (fun l => inV f.vars l) && clsV f.vars (f.cls.drop (j + 1)))) σ := hR
      simp only [go_sem, hd, List.length_map, Int.toNat_natCast, Tryd.results13]
      refine aw_loop (fun m fr st => ∃ k : Nat, k ≤ c.length ∧ m = c.length - k ∧ R (db ((c.drop k).all (fun l => inV f.vars l) && clsV f.vars (f.cls.drop (j + 1)))) σ ∧ fr = [.any, .ref σ.length 0, .any, dn j, dn k, .any, .any, .any, .any, .any, .any, .any, .any, .any, .any, .any, .any, .any, .any, .any, .any, .any, .any, .any, .any, .any, .any, .any, .any, .any, .any, .any, .any, .any, .any, .any, .any, .any, .any, .any, .any, .any, .any, .any, .any, .any, .any, .any, .any, .any, .any, .any, .any, .any, .any, .any, .any, .any, .any, .any, .any, .any, .any, .any, .any, .any] ∧ st = σ ++ [some (.cells [.d (iD f.vars), .d (.sl 1 (f.cls.map isD))])]) c.length _ (Wk.mask [1, 3, 4] ⟨0, by omega, rfl, hR, rfl, rfl⟩) ?_
      rintro m fr st ⟨k, hk, hm, hR, rfl, rfl⟩
      rcases Nat.lt_or_ge k c.length with hlt2 | hge2
      · have hd2 : decide ((k : Int) < (c.length : Int)) = true := by simp; omega
        have e2 := getD_isD hlt2
        have w2 := wrapS k (by simp only [reachBytes] at m1; omega)
        rw [drop_getD 0 hlt2, List.all_cons, inV_test] at hR
        generalize c.getD k 0 = l at *
        simp only [isD, go_sem, hd2, e1, e2, w2, wn, List.length_map, Int.toNat_natCast, Tryd.results13]
        refine ⟨⟨by omega, by omega⟩, ⟨by omega, by omega⟩, ⟨by omega, by omega⟩, fun q => ?_, fun q => ?_⟩
        · rw [q] at hR
          exact ret_d hbd hR
        · rw [q] at hR
          exact Wk.mask [1, 3, 4] ⟨c.length - (k + 1), by omega, k + 1, by omega, rfl, hR, rfl, rfl⟩
      · have hd2 : decide ((k : Int) < (c.length : Int)) = false := by simp; omega
        rw [List.drop_eq_nil_of_le hge2] at hR
        simp only [isD, go_sem, hd2, e1, w1, List.length_map, Int.toNat_natCast, Tryd.results13]
        exact ⟨⟨by omega, by omega⟩, Wk.mask [1, 3] ⟨f.cls.length - (j + 1), by omega, j + 1, by omega, rfl, hR, rfl, rfl⟩⟩
    · have hd : decide ((j : Int) < (f.cls.length : Int)) = false := by simp; omega
      rw [List.drop_eq_nil_of_le hge] at hR
      simp only [go_sem, hd, List.length_map, Tryd.results13]
      exact ret_d hbd hR
theorem abs_ac (l : Int) (hl : -8000 ≤ l ∧ l ≤ 8000) (σ : St) (G : Glob) (R : A → St → Prop) (h : R (dn l.natAbs) σ) : AC Tryd.prog G 39 [di l] σ R := by
  refine ac_enter' mixed Tryd.func39 rfl Tryd.ntmps39 (by simp only [go_sem]) fun hbd => ?_
  simp only [List.length_cons, List.length_nil, Nat.reduceAdd, Nat.reduceSub, List.replicate_succ, List.replicate_zero, List.cons_append, List.nil_append]
  simp only [go_sem, Tryd.results39]
  refine ⟨fun q => ?_, fun q => ?_⟩
  · have q : l < 0 := by simpa using q
    have w : IntKind.i64.wrap (0 - l) = ((l.natAbs : Nat) : Int) := by rw [wrap64_id _ (by omega) (by omega)]; omega
    simp only [go_sem, w, Tryd.results39]
    exact ret_d0 h
  · have q : ¬ l < 0 := by simpa using q
    have e : ((l.natAbs : Nat) : Int) = l := by omega
    rw [show dn l.natAbs = di ((l.natAbs : Nat) : Int) from rfl, e] at h
    exact ret_d0 h
set_option maxHeartbeats 4000000 in
theorem lit_ac (vs : List Bool) (hvs : vs.length ≤ reachBytes) (l : Int) (h0 : l ≠ 0) (hl : -8000 ≤ l ∧ l ≤ 8000) {iv : Nat} (σ : St) (hv : σ[iv]? = some (some (.cells [.d (bsD vs)]))) (G : Glob) (R : A → St → Prop) (h : R (db (litT vs l)) σ) : AC Tryd.prog G 38 [di l, .ref iv 0] σ R := by
  simp only [bsD] at hv
  refine ac_enter' mixed Tryd.func38 rfl Tryd.ntmps38 (by simp only [go_sem]) fun hbd => ?_
  simp only [List.length_cons, List.length_nil, Nat.reduceAdd, Nat.reduceSub, List.replicate_succ, List.replicate_zero, List.cons_append, List.nil_append]
  simp only [go_sem, Tryd.results38]
  refine ac' (abs_ac l hl _ _ _ ?_)
  have w : IntKind.i64.wrap (((l.natAbs : Nat) : Int) - 1) = ((l.natAbs - 1 : Nat) : Int) := by rw [wrap64_id _ (by omega) (by omega)]; omega
  rw [litT] at h
  rcases Nat.lt_or_ge vs.length l.natAbs with hgt | hle
  · have hd : decide (((l.natAbs : Nat) : Int) ≤ (vs.length : Int)) = false := by simp; omega
    have hd2 : decide (l.natAbs ≤ vs.length) = false := by simp; omega
    rw [hd2, Bool.false_and] at h
    simp only [go_sem, live_of hv, objK_of hv, hd, w, List.length_map, Tryd.results38]
    exact ret_d0 h
  · have hd : decide (((l.natAbs : Nat) : Int) ≤ (vs.length : Int)) = true := by simp; omega
    have hd2 : decide (l.natAbs ≤ vs.length) = true := by simp; omega
    have e1 : List.getD (List.map D.bool vs) (l.natAbs - 1) default = .bool (vs.getD (l.natAbs - 1) false) := getD_mapD (by omega)
    rw [hd2, Bool.true_and] at h
    simp only [go_sem, live_of hv, objK_of hv, hd, w, e1, List.length_map, Int.toNat_natCast, Tryd.results38]
    exact ⟨⟨by omega, by omega⟩, ret_d0 h⟩
/-- The first place where a literal is true, or -1. -/
def idxT (vs : List Bool) : List Int → Nat → Int
  | [], _ => -1
  | l :: c, k => if litT vs l = true then (k : Int) else idxT vs c (k + 1)
theorem idxT_nonneg (vs : List Bool) : ∀ (c : List Int) (k : Nat), decide (0 ≤ idxT vs c k) = clsT vs c
  | [], k => by simp [idxT, clsT]
  | l :: c, k => by
    have := idxT_nonneg vs c (k + 1)
    simp only [idxT, clsT, List.any_cons] at this ⊢
    by_cases hl : litT vs l = true
    · rw [Bool.eq_iff_iff]; simp [hl]
    · rw [Bool.not_eq_true] at hl
      rw [Bool.eq_iff_iff] at this ⊢
      simpa [hl] using this
set_option maxHeartbeats 4000000 in
theorem index_ac (vs : List Bool) (hvs : vs.length ≤ reachBytes) (c : List Int) (hc : c.length ≤ reachBytes) (hl : ∀ l ∈ c, l ≠ 0 ∧ -8000 ≤ l ∧ l ≤ 8000) {iv : Nat} (σ : St) (hv : σ[iv]? = some (some (.cells [.d (bsD vs)]))) (G : Glob) (R : A → St → Prop) (h : R (di (idxT vs c 0)) σ) : AC Tryd.prog G 58 [dL c, .fn (.func 38) [] [.ref iv 0]] σ R := by
  refine ac_enter' mixed Tryd.func58 rfl Tryd.ntmps58 (by simp only [go_sem]) fun hbd => ?_
  simp only [List.length_cons, List.length_nil, Nat.reduceAdd, Nat.reduceSub, List.replicate_succ, List.replicate_zero, List.cons_append, List.nil_append]
  simp only [dL, isD, go_sem, List.length_map, Tryd.results58]
  refine aw_loop (fun m fr st => ∃ k : Nat, k ≤ c.length ∧ m = c.length - k ∧ R (di (idxT vs (c.drop k) k)) σ ∧ fr = [.d (.sl 1 (c.map iD)), .fn (.func 38) [] [.ref iv 0], .any, .any, .any, .any, .any, dn c.length, dn k, .any, .any, .any, .any, .any, .any, .any, .any, .any, .any] ∧ st = σ) c.length _ (Wk.mask [0, 1, 7, 8] ⟨0, by omega, rfl, h, rfl, rfl⟩) ?_
  rintro m fr st ⟨k, hk, hm, hR, rfl, rfl⟩
  rcases Nat.lt_or_ge k c.length with hlt | hge
  · have hd : decide ((k : Int) < (c.length : Int)) = true := by simp; omega
    have e1 := getD_isD hlt
    have w1 := wrapS k (by simp only [reachBytes] at hc; omega)
    have hm := hl _ (getD_mem 0 hlt)
    rw [drop_getD 0 hlt, idxT] at hR
    generalize c.getD k 0 = l at *
    simp only [go_sem, hd, e1, List.length_map, Int.toNat_natCast, Tryd.results58]
    refine ⟨⟨by omega, by omega⟩, ac' (lit_ac vs hvs l hm.1 hm.2 _ hv _ _ ?_)⟩
    simp only [go_sem, w1, Tryd.results58]
    refine ⟨fun q => ?_, fun q => ?_⟩
    · rw [if_pos q] at hR
      exact ret_d0 hR
    · rw [if_neg (by rw [q]; simp)] at hR
      exact Wk.mask [0, 1, 7, 8] ⟨c.length - (k + 1), by omega, k + 1, by omega, rfl, hR, rfl, rfl⟩
  · have hd : decide ((k : Int) < (c.length : Int)) = false := by simp; omega
    rw [List.drop_eq_nil_of_le hge, idxT] at hR
    simp only [go_sem, hd, Tryd.results58]
    exact ret_d0 hR
theorem contains_ac (vs : List Bool) (hvs : vs.length ≤ reachBytes) (c : List Int) (hc : c.length ≤ reachBytes) (hl : ∀ l ∈ c, l ≠ 0 ∧ -8000 ≤ l ∧ l ≤ 8000) {iv : Nat} (σ : St) (hv : σ[iv]? = some (some (.cells [.d (bsD vs)]))) (G : Glob) (R : A → St → Prop) (h : R (db (clsT vs c)) σ) : AC Tryd.prog G 40 [dL c, .fn (.func 38) [] [.ref iv 0]] σ R := by
  refine ac_enter' mixed Tryd.func40 rfl Tryd.ntmps40 (by simp only [go_sem]) fun hbd => ?_
  simp only [List.length_cons, List.length_nil, Nat.reduceAdd, Nat.reduceSub, List.replicate_succ, List.replicate_zero, List.cons_append, List.nil_append]
  simp only [go_sem, Tryd.results40]
  refine ac' (index_ac vs hvs c hc hl _ hv _ _ ?_)
  simp only [go_sem, idxT_nonneg, Tryd.results40]
  exact ret_d0 h
set_option maxHeartbeats 4000000 in
theorem ceval_ac (f : Cnf) (vs : List Bool) (hf : f.cls.length ≤ reachBytes) (hfc : ∀ c ∈ f.cls, c.length ≤ reachBytes) (hvs : vs.length ≤ reachBytes) (σ : St) (G : Glob) (R : A → St → Prop) (h : R (db (evalC f vs)) σ) : AC Tryd.prog G 15 [.d (cnfD f), .d (bsD vs)] σ R := by
  refine ac_enter' mixed Tryd.func15 rfl Tryd.ntmps15 (by simp only [go_sem]) fun hbd => ?_
  simp only [List.length_cons, List.length_nil, Nat.reduceAdd, Nat.reduceSub, List.replicate_succ, List.replicate_zero, List.cons_append, List.nil_append]
  simp only [cnfD, clsD, bsD, go_sem, Tryd.results15]
  refine ac' (cvalid_ac f hf hfc _ _ _ ?_)
  simp only [cnfD, clsD, bsD, go_sem, List.length_map, Tryd.results15]
  rw [evalC] at h
  refine ⟨fun q => ?_, fun q => ?_⟩
  · rw [show validC f = false by simpa using q, Bool.false_and] at h
    exact ret_d hbd h
  · have hval : validC f = true := by simpa using q
    rw [hval, Bool.true_and] at h
    have hlits : ∀ c ∈ f.cls, ∀ l ∈ c, l ≠ 0 ∧ -8000 ≤ l ∧ l ≤ 8000 := fun c hc l hl => by
      simp only [validC, Bool.and_eq_true, decide_eq_true_eq, List.all_eq_true] at hval
      have := hval.2 c hc l hl
      omega
    have hlen : f.cls.length ≤ 40000 := by
      simp only [validC, Bool.and_eq_true, decide_eq_true_eq] at hval; exact hval.1.2
    refine aw_loop (fun m fr st => ∃ j : Nat, j ≤ f.cls.length ∧ m = f.cls.length - j ∧ R (db ((f.cls.drop j).all (clsT vs))) σ ∧ fr = [.any, .any, .any, .any, .any, .fn (.func 38) [] [.ref (σ.length + 1) 0], .any, .any, .any, .any, .any, .any, .any, .d (.sl 1 (f.cls.map isD)), dn f.cls.length, dn j, .any, .any, .any, .any, .any, .any, .any, .any] ∧ st = σ ++ [some (.cells [.d (iD f.vars), .d (.sl 1 (f.cls.map isD))]), some (.cells [.d (.sl 1 (vs.map D.bool))])]) f.cls.length _ (Wk.mask [5, 13, 14, 15] ⟨0, by omega, rfl, h, rfl, rfl⟩) ?_
    rintro m fr st ⟨j, hj, hm, hR, rfl, rfl⟩
    rcases Nat.lt_or_ge j f.cls.length with hlt | hge
    · have hd : decide ((j : Int) < (f.cls.length : Int)) = true := by simp; omega
      have e1 : List.getD (List.map isD f.cls) j default = isD (f.cls.getD j []) := getD_mapD hlt
      have w1 := wrapS j (by omega)
      have m1 := hfc _ (getD_mem [] hlt)
      have m2 := hlits _ (getD_mem [] hlt)
      rw [drop_getD [] hlt, List.all_cons] at hR
      generalize f.cls.getD j [] = c at *
      simp only [isD, go_sem, hd, e1, List.length_map, Int.toNat_natCast, Tryd.results15]
      refine ⟨⟨by omega, by omega⟩, ac' (contains_ac vs hvs c m1 m2 _ (by simp [bsD]) _ _ ?_)⟩
      simp only [isD, go_sem, w1, Tryd.results15]
      refine ⟨fun q => ?_, fun q => ?_⟩
      · rw [show clsT vs c = false by simpa using q] at hR
        exact ret_d hbd hR
      · rw [show clsT vs c = true by simpa using q, Bool.true_and] at hR
        exact Wk.mask [5, 13, 14, 15] ⟨f.cls.length - (j + 1), by omega, j + 1, by omega, rfl, hR, rfl, rfl⟩
    · have hd : decide ((j : Int) < (f.cls.length : Int)) = false := by simp; omega
      rw [List.drop_eq_nil_of_le hge] at hR
      simp only [go_sem, hd, Tryd.results15]
      exact ret_d hbd hR
end Go.Proofs.YtkjlefahpdconaaDoor
end PartC2

section PartC3
/- The program's Eval. -/
set_option linter.unusedSimpArgs false
set_option linter.unusedVariables false
set_option maxRecDepth 100000
namespace Go.Proofs.YtkjlefahpdconaaDoor
open Go Go.Ab

theorem element_ac (l : List Int) (n : Int) (hn : 0 ≤ n) (hl : l.length ≤ reachBytes) (σ : St) (G : Glob) (R : A → St → Prop) (h : R (di (l.getD n.toNat 0)) σ) : AC Tryd.prog G 83 [dL l, di n] σ R := by
  refine ac_enter' mixed Tryd.func83 rfl Tryd.ntmps83 (by simp only [go_sem]) fun hbd => ?_
  simp only [List.length_cons, List.length_nil, Nat.reduceAdd, Nat.reduceSub, List.replicate_succ, List.replicate_zero, List.cons_append, List.nil_append]
  simp only [dL, isD, go_sem, List.length_map, Tryd.results83]
  refine ⟨fun q => ?_, fun q => ?_⟩
  · have q : n < l.length := by simpa using q
    have e1 := getD_isD (l := l) (j := n.toNat) (by omega)
    simp only [go_sem, e1, List.length_map, Tryd.results83]
    exact ⟨⟨by omega, by omega⟩, ret_d0 h⟩
  · have q : ¬ n < l.length := by simpa using q
    have e : l.getD n.toNat 0 = 0 := by rw [List.getD_eq_getElem?_getD, List.getElem?_eq_none (by omega)]; rfl
    rw [e] at h
    exact ret_d0 h
theorem truth_ac (b : Bool) (σ : St) (G : Glob) (R : A → St → Prop) (h : R (dn (b2n b)) σ) : AC Tryd.prog G 87 [db b] σ R := by
  refine ac_enter' mixed Tryd.func87 rfl Tryd.ntmps87 (by simp only [go_sem]) fun hbd => ?_
  simp only [List.length_cons, List.length_nil, Nat.reduceAdd, Nat.reduceSub, List.replicate_succ, List.replicate_zero, List.cons_append, List.nil_append]
  cases b
  · simp only [go_sem, Tryd.results87]
    exact ret_d0 h
  · simp only [go_sem, Tryd.results87]
    exact ret_d0 h
def appI (o : Int) (a b c : Nat) : Int :=
  if o = 4 then -1 - (a : Int) else if o = 5 then (a &&& b : Nat) else if o = 6 then (a ||| b : Nat) else if o = 7 then (a ^^^ b : Nat) else if o = 8 then (a : Int) + b else if o = 9 then (a : Int) - b else if o = 10 then (a : Int) * b
  else if o = 11 then (b2n (a == b) : Nat) else if o = 12 then (b2n (decide (a < b)) : Nat) else if o = 13 then (b2n (decide (a ≤ b)) : Nat) else if a = 1 then b else c
theorem mul_lt256 {a b : Nat} (ha : a < 256) (hb : b < 256) : a * b < 65536 := by
  have := Nat.mul_lt_mul'' ha hb
  omega
set_option maxHeartbeats 16000000 in
theorem app_ac (o : Int) (ho : 4 ≤ o ∧ o ≤ 14) (a b c : Nat) (ha : a < 256) (hb : b < 256) (hc : c < 256) (σ : St) (G : Glob) (R : A → St → Prop) (h : R (di (appI o a b c)) σ) : AC Tryd.prog G 84 [di o, .d (.agg [iD (a : Nat), iD (b : Nat), iD (c : Nat)])] σ R := by
  have ho' : o = 4 ∨ o = 5 ∨ o = 6 ∨ o = 7 ∨ o = 8 ∨ o = 9 ∨ o = 10 ∨ o = 11 ∨ o = 12 ∨ o = 13 ∨ o = 14 := by omega
  have wa : IntKind.i64.wrap ((a : Int) + b) = (a : Int) + b := wrap64_id _ (by omega) (by omega)
  have wn : IntKind.i64.wrap (0 - (b : Int)) = -(b : Int) := by rw [wrap64_id _ (by omega) (by omega)]; omega
  have ws : IntKind.i64.wrap ((a : Int) + -(b : Int)) = (a : Int) - b := by rw [wrap64_id _ (by omega) (by omega)]; omega
  have hml := mul_lt256 ha hb
  have wm : IntKind.i64.wrap ((a : Int) * b) = (a : Int) * b := by
    have : (a : Int) * b = ((a * b : Nat) : Int) := by simp
    rw [this]; exact wrap64_id _ (by omega) (by omega)
  have b1 := bNot_nat ha
  have b2 := bAnd_nat ha hb
  have b3 := bOr_nat ha hb
  have b4 := bXor_nat ha hb
  have t1 : ((a : Int) == (b : Int)) = (a == b) := by rw [Bool.eq_iff_iff, beq_iff_eq, beq_iff_eq]; omega
  have t2 : decide ((a : Int) < (b : Int)) = decide (a < b) := by apply decide_eq_decide.2; omega
  have t3 : ((a : Int) == 1) = (a == 1) := by rw [Bool.eq_iff_iff, beq_iff_eq, beq_iff_eq]; omega
  refine ac_enter' mixed Tryd.func84 rfl Tryd.ntmps84 (by simp only [go_sem]) fun hbd => ?_
  simp only [List.length_cons, List.length_nil, Nat.reduceAdd, Nat.reduceSub, List.replicate_succ, List.replicate_zero, List.cons_append, List.nil_append]
  simp only [go_sem, Tryd.results84]
  refine aw_plan (.tk 6 0 <| .done) (by kernel_rfl) ?_
  rcases ho' with rfl | rfl | rfl | rfl | rfl | rfl | rfl | rfl | rfl | rfl | rfl <;> simp only [appI, Int.reduceEq, if_true, if_false] at h <;> simp only [go_sem, Int.toNat_zero, Int.toNat_one, show Int.toNat 2 = 2 from rfl, Nat.one_mul, Nat.zero_mul, Nat.mul_one, List.length_cons, List.length_nil, Int.reduceBEq, wa, wn, ws, wm, b1, b2, b3, b4, t1, t2, t3, Tryd.results84]
  · exact ⟨⟨by omega, by omega⟩, ⟨by omega, by omega⟩, ret_d hbd h⟩
  · exact ⟨⟨by omega, by omega⟩, ⟨by omega, by omega⟩, ret_d hbd h⟩
  · exact ⟨⟨by omega, by omega⟩, ⟨by omega, by omega⟩, ret_d hbd h⟩
  · exact ⟨⟨by omega, by omega⟩, ⟨by omega, by omega⟩, ret_d hbd h⟩
  · exact ⟨⟨by omega, by omega⟩, ⟨by omega, by omega⟩, ret_d hbd h⟩
  · exact ⟨⟨by omega, by omega⟩, ⟨by omega, by omega⟩, ret_d hbd h⟩
  · exact ⟨⟨by omega, by omega⟩, ⟨by omega, by omega⟩, ret_d hbd h⟩
  · refine ⟨⟨by omega, by omega⟩, ⟨by omega, by omega⟩, ac' (truth_ac _ _ _ _ ?_)⟩
    simp only [go_sem, Tryd.results84]
    exact ret_d hbd h
  · refine ⟨⟨by omega, by omega⟩, ⟨by omega, by omega⟩, ac' (truth_ac _ _ _ _ ?_)⟩
    simp only [go_sem, Tryd.results84]
    exact ret_d hbd h
  · refine ⟨⟨by omega, by omega⟩, ⟨by omega, by omega⟩, fun q => ?_, fun q => ?_⟩
    · have q : a = b := by simpa using q
      rw [show decide (a ≤ b) = true by simp; omega] at h
      exact ret_d hbd h
    · have q : a ≠ b := by simpa using q
      rw [show decide (a ≤ b) = decide (a < b) by apply decide_eq_decide.2; omega] at h
      refine ac' (truth_ac _ _ _ _ ?_)
      simp only [go_sem, Tryd.results84]
      exact ret_d hbd h
  · refine ⟨⟨by omega, by omega⟩, ⟨by omega, by omega⟩, fun q => ?_, fun q => ⟨⟨by omega, by omega⟩, ?_⟩⟩
    · have q : a = 1 := by simpa using q
      rw [if_pos q] at h
      exact ret_d hbd h
    · have q : ¬ a = 1 := by simpa using q
      rw [if_neg q] at h
      exact ret_d hbd h
theorem lowb_natmod (n w : Nat) : lowb (n : Int) w = n % 2 ^ w := by
  simp only [lowb]
  have : ((n : Int) % ((2 ^ w : Nat) : Int)) = ((n % 2 ^ w : Nat) : Int) := by simp
  rw [this]; omega
theorem app_low (old now : List Int) (o : Int) (ho : 4 ≤ o ∧ o ≤ 14) (W : Nat) (h1 : 1 ≤ W) (h8 : W ≤ 8) (n : Int) (a b c : Nat) (k : List Nat) (k0 : k.getD 0 0 = a) (k1 : k.getD 1 0 = b) (k2 : k.getD 2 0 = c) (h4 : o = 4 → a < 2 ^ W) (h5 : 5 ≤ o → o ≤ 10 → a < 2 ^ W ∧ b < 2 ^ W) (h14 : o = 14 → b < 2 ^ W ∧ c < 2 ^ W) :
    lowb (appI o a b c) W = opN old now o W n k := by
  have h2 : 2 ≤ 2 ^ W := by have := Nat.pow_le_pow_right (n := 2) (i := 1) (j := W) (by omega) (by omega); omega
  have hb2 : ∀ t, b2n t < 2 ^ W := fun t => Nat.lt_of_lt_of_le (b2n_lt t) h2
  have hW : W = 1 ∨ W = 2 ∨ W = 3 ∨ W = 4 ∨ W = 5 ∨ W = 6 ∨ W = 7 ∨ W = 8 := by omega
  have ho' : o = 4 ∨ o = 5 ∨ o = 6 ∨ o = 7 ∨ o = 8 ∨ o = 9 ∨ o = 10 ∨ o = 11 ∨ o = 12 ∨ o = 13 ∨ o = 14 := by omega
  rcases ho' with rfl | rfl | rfl | rfl | rfl | rfl | rfl | rfl | rfl | rfl | rfl <;> simp only [appI, opN, Int.reduceEq, if_true, if_false, k0, k1, k2]
  · have := h4 rfl
    rcases hW with rfl | rfl | rfl | rfl | rfl | rfl | rfl | rfl <;> simp only [lowb, Nat.reducePow, Int.cast_ofNat_Int] at this ⊢ <;> omega
  · obtain ⟨q1, q2⟩ := h5 (by omega) (by omega)
    exact lowb_nat (Nat.and_lt_two_pow _ q2)
  · obtain ⟨q1, q2⟩ := h5 (by omega) (by omega)
    exact lowb_nat (Nat.or_lt_two_pow q1 q2)
  · obtain ⟨q1, q2⟩ := h5 (by omega) (by omega)
    exact lowb_nat (Nat.xor_lt_two_pow q1 q2)
  · rw [show (a : Int) + b = ((a + b : Nat) : Int) by simp, lowb_natmod]
  · obtain ⟨q1, q2⟩ := h5 (by omega) (by omega)
    rcases hW with rfl | rfl | rfl | rfl | rfl | rfl | rfl | rfl <;> simp only [lowb, Nat.reducePow, Int.cast_ofNat_Int] at q1 q2 ⊢ <;> omega
  · rw [show (a : Int) * b = ((a * b : Nat) : Int) by simp, lowb_natmod]
  · exact lowb_nat (hb2 _)
  · exact lowb_nat (hb2 _)
  · exact lowb_nat (hb2 _)
  · obtain ⟨q1, q2⟩ := h14 rfl
    split
    · exact lowb_nat q1
    · exact lowb_nat q2
/-- Up to three values, the others zero. -/
def v3 (k : List Nat) : List Int := [(k.getD 0 0 : Nat), (k.getD 1 0 : Nat), (k.getD 2 0 : Nat)]
theorem v3_snoc {k : List Nat} {x : Nat} (h : k.length < 3) : (v3 k).set k.length (x : Int) = v3 (k ++ [x]) := by
  match k, h with
  | [], _ => rfl
  | [a], _ => rfl
  | [a, b], _ => rfl
set_option maxHeartbeats 16000000 in
theorem val_ac (old now : List Int) (ho : old.length ≤ reachBytes) (hn : now.length ≤ reachBytes) (l : Nat) : ∀ (e : Ex) (hok : e.Ok) (hd : e.deep l = true) (σ : St) (G : Glob) (hG : G.g 0 = some masksD) (R : A → St → Prop) (h : R (dn (evN old now e)) σ), AC Tryd.prog G 59 [.ea e.d 0, dL old, dL now] σ R := by
  induction l with
  | zero => intro e hok hd; simp [Ex.deep] at hd
  | succ l ih =>
    intro e hok hdp σ G hG R h
    obtain ⟨hk, hks⟩ := hok
    have hkd : ∀ k ∈ e.kids, k.deep l = true := fun k hk => deep_kid hdp hk
    have hf : e.fits = true := by simp only [Ex.deep, Bool.and_eq_true] at hdp; exact hdp.1
    have hev : ∀ fr, ev G fr (.global 0) = .ea masksD 0 := fun fr => ev_global hG
    have hn0 := fits_n hf
    simp only [Ex.fits, Bool.and_eq_true, decide_eq_true_eq] at hf
    obtain ⟨⟨ha, w1, w8⟩, hf⟩ := hf
    have hL : e.kids.length = (Ex.arity e.op).toNat := by omega
    obtain ⟨W, hW⟩ : ∃ W : Nat, e.w = W := ⟨e.w.toNat, by omega⟩
    have hWn : e.w.toNat = W := by omega
    rw [evN_eq, hWn] at h
    have hm := masks_at (W := W) (by omega)
    rw [Nat.mul_one] at hm
    rw [Ex.d_eq]
    by_cases o1 : e.op = 1
    · simp only [opN, if_pos o1] at h
      rw [show dn e.n.toNat = di ((e.n.toNat : Nat) : Int) from rfl, show ((e.n.toNat : Nat) : Int) = e.n by omega] at h
      refine ac_enter' mixed Tryd.func59 rfl Tryd.ntmps59 (by simp only [go_sem]) fun hbd => ?_
      simp only [List.length_cons, List.length_nil, Nat.reduceAdd, Nat.reduceSub, List.replicate_succ, List.replicate_zero, List.cons_append, List.nil_append]
      simp only [go_sem, o1, Int.reduceBEq, Tryd.results59]
      exact ret_d0 h
    by_cases o2 : e.op = 2
    · simp only [opN, if_neg o1, if_pos o2] at h
      refine ac_enter' mixed Tryd.func59 rfl Tryd.ntmps59 (by simp only [go_sem]) fun hbd => ?_
      simp only [List.length_cons, List.length_nil, Nat.reduceAdd, Nat.reduceSub, List.replicate_succ, List.replicate_zero, List.cons_append, List.nil_append]
      simp only [go_sem, o2, Int.reduceBEq, Tryd.results59]
      refine aw_plan (.tk 5 0 <| .take 6 <| .pure 5 <| .tk 7 7 <| .done) (by kernel_rfl) ?_
      simp only [go_sem, Tryd.results59]
      refine exP (di (now.getD e.n.toNat 0)) ⟨fun σ' => ac' (element_ac now e.n hn0 hn _ _ _ ⟨rfl, rfl⟩), ?_⟩
      have hbm := bAnd_mask (now.getD e.n.toNat 0) (w := W) (by omega)
      simp only [go_sem, hev, masksD, hW, hm, hbm, Int.toNat_natCast, Nat.mul_one, List.length_cons, List.length_nil, Tryd.results59]
      exact ⟨⟨by omega, by omega⟩, by omega, ret_d0 h⟩
    by_cases o3 : e.op = 3
    · simp only [opN, if_neg o1, if_neg o2, if_pos o3] at h
      refine ac_enter' mixed Tryd.func59 rfl Tryd.ntmps59 (by simp only [go_sem]) fun hbd => ?_
      simp only [List.length_cons, List.length_nil, Nat.reduceAdd, Nat.reduceSub, List.replicate_succ, List.replicate_zero, List.cons_append, List.nil_append]
      simp only [go_sem, o3, Int.reduceBEq, Tryd.results59]
      refine aw_plan (.tk 5 0 <| .take 6 <| .pure 5 <| .tk 7 7 <| .done) (by kernel_rfl) ?_
      simp only [go_sem, Tryd.results59]
      refine exP (di (old.getD e.n.toNat 0)) ⟨fun σ' => ac' (element_ac old e.n hn0 ho _ _ _ ⟨rfl, rfl⟩), ?_⟩
      have hbm := bAnd_mask (old.getD e.n.toNat 0) (w := W) (by omega)
      simp only [go_sem, hev, masksD, hW, hm, hbm, Int.toNat_natCast, Nat.mul_one, List.length_cons, List.length_nil, Tryd.results59]
      exact ⟨⟨by omega, by omega⟩, by omega, ret_d0 h⟩
    have hop : 4 ≤ e.op ∧ e.op ≤ 14 ∧ e.kids.length ≤ 3 := by
      unfold Ex.arity at ha
      split at ha
      · omega
      · split at ha
        · omega
        · split at ha
          · omega
          · split at ha <;> omega
    have b1 : (e.op == 1) = false := by simp [o1]
    have b2 : (e.op == 2) = false := by simp [o2]
    have b3 : (e.op == 3) = false := by simp [o3]
    have hlt8 : ∀ k ∈ e.kids, evN old now k < 256 := fun k hk => by
      have h1 := evN_lt (old := old) (now := now) l k (hkd k hk)
      have h2 : k.w ≤ 8 := by
        cases l with
        | zero => have := hkd k hk; simp [Ex.deep] at this
        | succ l =>
          have := hkd k hk
          simp only [Ex.deep, Bool.and_eq_true, Ex.fits, decide_eq_true_eq] at this
          exact this.1.1.2.2
      have := pow_le8 (w := k.w.toNat) (by omega)
      omega
    obtain ⟨kv, hkv⟩ : ∃ kv, e.kids.map (evN old now) = kv := ⟨_, rfl⟩
    rw [hkv] at h
    have hkvl : kv.length = e.kids.length := by rw [← hkv]; simp
    have hkvb : ∀ i, kv.getD i 0 < 256 := fun i => by
      rw [← hkv, List.getD_eq_getElem?_getD, List.getElem?_map]
      cases hq : e.kids[i]? with
      | none => simp
      | some k => exact hlt8 k (List.mem_of_getElem? hq)
    have hlow : lowb (appI e.op (kv.getD 0 0) (kv.getD 1 0) (kv.getD 2 0)) W = opN old now e.op W e.n kv := by
      have hkw : ∀ i, i < e.kids.length → kv.getD i 0 < 2 ^ (e.kw i).toNat := fun i hi => by
        rw [← hkv, List.getD_eq_getElem?_getD, List.getElem?_map, List.getElem?_eq_getElem hi]
        have := evN_lt (old := old) (now := now) l e.kids[i] (hkd _ (List.getElem_mem hi))
        simp only [Option.map_some, Option.getD_some, Ex.kw]
        rw [List.getD_eq_getElem?_getD, List.getElem?_eq_getElem hi]
        exact this
      rw [if_neg o1, if_neg (by omega)] at hf
      refine app_low old now e.op ⟨hop.1, hop.2.1⟩ W (by omega) (by omega) e.n _ _ _ kv rfl rfl rfl (fun o => ?_) (fun g1 g2 => ?_) (fun o => ?_)
      · rw [if_pos o, decide_eq_true_eq] at hf
        have := hkw 0 (by rw [hL, o]; decide)
        rwa [hf.2, hWn] at this
      · rw [if_neg (by omega), if_neg (by omega), if_neg (by omega), decide_eq_true_eq] at hf
        have hl2 : e.kids.length = 2 := by rw [hL, Ex.arity, if_neg (by omega), if_neg (by omega), if_pos (by omega)]; rfl
        have h0 := hkw 0 (by omega)
        have h1 := hkw 1 (by omega)
        rw [hf.2.1, hWn] at h0; rw [hf.2.2, hWn] at h1
        exact ⟨h0, h1⟩
      · rw [if_neg (by omega), if_neg (by omega), if_pos o, decide_eq_true_eq] at hf
        have hl3 : e.kids.length = 3 := by rw [hL, o]; rfl
        have h1 := hkw 1 (by omega)
        have h2 := hkw 2 (by omega)
        rw [hf.2.2.1, hWn] at h1; rw [hf.2.2.2, hWn] at h2
        exact ⟨h1, h2⟩
    refine ac_enter' mixed Tryd.func59 rfl Tryd.ntmps59 (by simp only [go_sem]) fun hbd => ?_
    simp only [List.length_cons, List.length_nil, Nat.reduceAdd, Nat.reduceSub, List.replicate_succ, List.replicate_zero, List.cons_append, List.nil_append]
    simp only [go_sem, b1, b2, b3, List.length_map, Tryd.results59]
    refine aw_loop (fun m fr st => ∃ j : Nat, j ≤ e.kids.length ∧ m = e.kids.length - j ∧ fr = [.ea (.agg [iD e.op, iD e.w, iD e.n, .sl 4 (e.kids.map Ex.d)]) 0, dL old, dL now, .any, .any, .any, .any, .ref σ.length 0, .any, .any, .any, .any, .any, .any, .any, .any, .any, .any, .any, .any, .any, .any, .any, .any, .any, .any, .any, .any, .any, .any, .any, .any, .any, .any, .any, .any, .any, .any, .any, .any, .any, .any, .any, .any, .any, .any, .any, .any, .any, .any, .any, .any, .any, dn e.kids.length, dn j, .any, .any, .any, .any, .any, .any, .any, .any, .any, .any, .any, .any, .any, .any, .any, .any, .any, .any, .any, .any, .any, .any, .any, .any, .any, .any, .any] ∧ st = σ ++ [some (.cells ((v3 (kv.take j)).map fun x => .d (iD x)))]) e.kids.length _ (Wk.mask [0, 1, 2, 7, 53, 54] ⟨0, by omega, rfl, rfl, rfl⟩) ?_
    rintro m fr st ⟨j, hj, hm2, rfl, rfl⟩
    rcases Nat.lt_or_ge j e.kids.length with hlt | hge
    · have hdd : decide ((j : Int) < (e.kids.length : Int)) = true := by simp; omega
      obtain ⟨k, hkk⟩ : ∃ k, e.kids.getD j (.mk 0 0 0 []) = k := ⟨_, rfl⟩
      have hmem : k ∈ e.kids := hkk ▸ kid_mem hlt
      have e1 := kid_at hlt hkk
      have w2 := wrapS j (by omega)
      have hkj : kv.take (j + 1) = kv.take j ++ [evN old now k] := by
        rw [take_snoc 0 (by omega), ← hkv, ← hkk]
        congr 2
        rw [List.getD_eq_getElem?_getD, List.getElem?_map, List.getD_eq_getElem?_getD, List.getElem?_eq_getElem hlt]; rfl
      have hset := splice_intsA (l := v3 (kv.take j)) (j := j) ((evN old now k : Nat) : Int) (by simp [v3]; omega)
      have hvl : (v3 (kv.take j)).length = 3 := rfl
      have hv3 := v3_snoc (k := kv.take j) (x := evN old now k) (by rw [List.length_take]; omega)
      rw [show (kv.take j).length = j by rw [List.length_take]; omega] at hv3
      rw [hv3, ← hkj] at hset
      simp only [go_sem, hdd, List.length_map, e1, Int.toNat_natCast, Tryd.results59]
      rw [← Ex.d_eq k]
      refine ⟨⟨by omega, by omega⟩, ac' (ih k (hks k hmem) (hkd k hmem) _ _ hG _ ?_)⟩
      simp only [go_sem, w2, List.length_map, Int.toNat_natCast, Nat.mul_one, Nat.zero_add, hset, hvl, Tryd.results59]
      exact ⟨⟨by omega, by omega⟩, by omega, Wk.mask [0, 1, 2, 7, 53, 54] ⟨e.kids.length - (j + 1), by omega, j + 1, hlt, rfl, rfl, rfl⟩⟩
    · have hdd : decide ((j : Int) < (e.kids.length : Int)) = false := by simp; omega
      rw [List.take_of_length_le (by omega)]
      have hbm := bAnd_mask (appI e.op (kv.getD 0 0) (kv.getD 1 0) (kv.getD 2 0)) (w := W) (by omega)
      rw [hlow] at hbm
      simp only [go_sem, hdd, Tryd.results59]
      refine aw_plan (.tk 5 0 <| .take 6 <| .pure 5 <| .tk 7 7 <| .done) (by kernel_rfl) ?_
      simp only [go_sem, v3, List.map_cons, List.map_nil, List.length_cons, List.length_nil, Tryd.results59]
      refine exP (di (appI e.op (kv.getD 0 0) (kv.getD 1 0) (kv.getD 2 0))) ⟨fun σ' => ?_, ?_⟩
      · simp only [go_sem]
        exact ac' (app_ac e.op ⟨hop.1, hop.2.1⟩ _ _ _ (hkvb 0) (hkvb 1) (hkvb 2) _ _ _ ⟨rfl, rfl⟩)
      simp only [go_sem, hev, masksD, hW, hm, hbm, Int.toNat_natCast, Nat.mul_one, List.length_cons, List.length_nil, Tryd.results59]
      exact ⟨⟨by omega, by omega⟩, by omega, ret_d hbd h⟩
theorem eval_ac (e : Ex) (hok : e.Ok) (hf : e.formed = true) (old now : List Int) (ho : old.length ≤ reachBytes) (hn : now.length ≤ reachBytes) (σ : St) (G : Glob) (hG : G.g 0 = some masksD) (R : A → St → Prop) (h : R (dn (evN old now e)) σ) : AC Tryd.prog G 43 [.d e.d, dL old, dL now] σ R := by
  rw [Ex.d_eq]
  refine ac_enter' mixed Tryd.func43 rfl Tryd.ntmps43 (by simp only [go_sem]) fun hbd => ?_
  simp only [List.length_cons, List.length_nil, Nat.reduceAdd, Nat.reduceSub, List.replicate_succ, List.replicate_zero, List.cons_append, List.nil_append]
  simp only [go_sem, Tryd.results43]
  rw [← Ex.d_eq e]
  refine ac' (formed_prog e hok hf _ _ hG _ ?_)
  simp only [go_sem, Tryd.results43]
  refine ac' (ac_ref 0 [iD e.op, iD e.w, iD e.n, .sl 4 (e.kids.map Ex.d)] rfl (by intro d hd; simp at hd; rcases hd with rfl | rfl | rfl | rfl <;> rfl) ?_)
  have hm : List.map (refA (σ.length + 0) [iD e.op, iD e.w, iD e.n, .sl 4 (e.kids.map Ex.d)]) [A.ref σ.length 0, dL old, dL now] = [.ea e.d 0, dL old, dL now] := by
    simp [refA, Ex.d_eq]
  rw [hm]
  simp only [List.set]
  refine val_ac old now ho hn 40 e hok (formed_deep hf) _ _ hG _ ?_
  simp only [go_sem, Tryd.results43]
  exact ret_d hbd h
end Go.Proofs.YtkjlefahpdconaaDoor
end PartC3

section PartC4
/- The fixed examples: violated, conditions that are not encodable. -/
set_option linter.unusedSimpArgs false
set_option linter.unusedVariables false
set_option maxRecDepth 100000
namespace Go.Proofs.YtkjlefahpdconaaDoor
open Go Go.Ab

def bad (c : Cnd) (old now : List Int) : Bool := evN old now c.hyp == 1 && evN old now c.goal == 0
theorem nat_beq (n k : Nat) : ((n : Int) == (k : Int)) = (n == k) := by rw [Bool.eq_iff_iff, beq_iff_eq, beq_iff_eq]; omega
theorem violated_ac (c : Cnd) (hok : c.Ok) (hf : c.hyp.formed = true) (hg : c.goal.formed = true) (old now : List Int) (ho : old.length ≤ reachBytes) (hn : now.length ≤ reachBytes) (σ : St) (G : Glob) (hG : G.g 0 = some masksD) (R : A → St → Prop) (h : R (db (bad c old now)) σ) : AC Tryd.prog G 25 [.d (cndD c), dL old, dL now] σ R := by
  refine ac_enter' mixed Tryd.func25 rfl Tryd.ntmps25 (by simp only [go_sem]) fun hbd => ?_
  simp only [List.length_cons, List.length_nil, Nat.reduceAdd, Nat.reduceSub, List.replicate_succ, List.replicate_zero, List.cons_append, List.nil_append]
  simp only [cndD, go_sem, Tryd.results25]
  rw [← Ex.d_eq]
  refine ac' (eval_ac c.hyp hok.hyp hf old now ho hn _ _ hG _ ?_)
  have e1 : (((evN old now c.hyp : Nat) : Int) == 1) = (evN old now c.hyp == 1) := nat_beq _ 1
  have e2 : (((evN old now c.goal : Nat) : Int) == 0) = (evN old now c.goal == 0) := nat_beq _ 0
  unfold bad at h
  cases hv : evN old now c.hyp == 1
  · simp only [cndD, go_sem, e1, hv, Tryd.results25]
    rw [hv] at h
    refine ex' (iD 0) ⟨fun q => ⟨by assumption, ?_⟩, ?_⟩
    · exact Bool.noConfusion q
    simp only [go_sem, Tryd.results25]
    exact ret_d hbd h
  · simp only [cndD, go_sem, e1, hv, Tryd.results25]
    rw [hv, Bool.true_and] at h
    refine ex' (iD (evN old now c.goal : Nat)) ⟨fun q => ?_, ?_⟩
    · simp only [go_sem, Tryd.results25]
      rw [← Ex.d_eq]
      exact ac' (eval_ac c.goal hok.goal hg old now ho hn _ _ hG _ ⟨rfl, rfl⟩)
    simp only [go_sem, e2, Tryd.results25]
    exact ret_d hbd h
/-- A goal that is not one bit wide. -/
theorem unenc_ac (cells : List Cel) (c : Cnd) (hok : c.Ok) (h1 : cells.length ≤ 32) (h2 : c.hyp.formed = true) (h3 : c.hyp.over cells true = true) (h6 : c.hyp.w = 1) (h7 : c.goal.w ≠ 1) (σ : St) (G : Glob) (hG : G.g 0 = some masksD) (R : A → St → Prop) (h : R (db false) σ) : AC Tryd.prog G 32 [.d (celsD cells), .d (cndD c)] σ R := by
  have d1 : decide ((32 : Int) < (cells.length : Int)) = false := by simp; omega
  refine ac_enter' mixed Tryd.func32 rfl Tryd.ntmps32 (by simp only [go_sem]) fun hbd => ?_
  simp only [List.length_cons, List.length_nil, Nat.reduceAdd, Nat.reduceSub, List.replicate_succ, List.replicate_zero, List.cons_append, List.nil_append]
  simp only [celsD, cndD, go_sem, List.length_map, d1, Tryd.results32]
  refine aw_loop (fun m fr st => ∃ j : Nat, j ≤ 1 ∧ m = 2 - j ∧ fr = [.d (celsD cells), .any, .any, .any, .any, .any, .any, .any, .any, .any, .any, .any, .any, .any, .d (.sl 4 ([c.hyp, c.goal].map Ex.d)), dn 2, dn j, .any, .any, .any, .any, .any, .any, .any, .any, .any, .any, .any, .any, .any] ∧ st = σ) 2 _ ?_ ?_
  · refine Wk.pre [0, 14, 15, 16] ?_
    simp only [go_sem]
    refine Wk.deep [1] 6 ?_
    simp only [go_sem]
    exact Wk.keep [0, 14, 15, 16] [] (by decide) (Nat.le_refl _) hbd ⟨0, by omega, rfl, by simp only [go_sem, List.map_cons, List.map_nil, Ex.d_eq]; rfl, by simp only [go_sem]⟩
  rintro m fr st ⟨j, hj, hm, rfl, rfl⟩
  have : j = 0 ∨ j = 1 := by omega
  rcases this with rfl | rfl
  · have hdd : decide (((0 : Nat) : Int) < ((2 : Nat) : Int)) = true := by decide
    have hkk : List.getD ([c.hyp, c.goal].map Ex.d) 0 default = .agg [iD c.hyp.op, iD 1, iD c.hyp.n, .sl 4 (c.hyp.kids.map Ex.d)] := by rw [← h6, ← Ex.d_eq]; rfl
    have w2 := wrapS 0 (by omega)
    have b1 : ((1 : Int) != 1) = false := rfl
    have hL : (List.map Ex.d [c.hyp, c.goal]).length = 2 := rfl
    generalize hLL : List.map Ex.d [c.hyp, c.goal] = L at hkk hL
    simp only [go_sem, hdd, hkk, b1, Tryd.results32]
    refine ⟨⟨by omega, by omega⟩, ex' (.bool true) ⟨fun q => ?_, ?_⟩⟩
    · simp only [go_sem]
      have e1 : D.agg [iD c.hyp.op, iD 1, iD c.hyp.n, .sl 4 (List.map Ex.d c.hyp.kids)] = c.hyp.d := by rw [Ex.d_eq c.hyp, h6]
      rw [e1]
      exact ac' (valid_prog c.hyp hok.hyp cells h2 h3 _ _ hG _ ⟨rfl, rfl⟩)
    simp only [go_sem, w2, b1, Tryd.results32]
    rw [← hLL]
    exact Wk.keep [0, 14, 15, 16] [] (by decide) (Nat.le_refl _) hbd ⟨1, by omega, 1, by omega, rfl, by simp only [go_sem], by simp only [go_sem]⟩
  · have hdd : decide (((1 : Nat) : Int) < ((2 : Nat) : Int)) = true := by decide
    have hkk : List.getD ([c.hyp, c.goal].map Ex.d) 1 default = .agg [iD c.goal.op, iD c.goal.w, iD c.goal.n, .sl 4 (c.goal.kids.map Ex.d)] := by rw [← Ex.d_eq]; rfl
    have b1 : (c.goal.w != 1) = true := by simp [h7]
    have hL : (List.map Ex.d [c.hyp, c.goal]).length = 2 := rfl
    generalize hLL : List.map Ex.d [c.hyp, c.goal] = L at hkk hL
    simp only [go_sem, hdd, hkk, b1, Tryd.results32]
    refine ⟨⟨by omega, by omega⟩, ?_⟩
    refine ex' (.bool true) ⟨fun q => ?_, ?_⟩
    · exact Bool.noConfusion q
    simp only [go_sem, b1, Tryd.results32]
    exact ret_d hbd h
end Go.Proofs.YtkjlefahpdconaaDoor
end PartC4

section PartD1
/- The law package's fixed examples: what they use. -/
set_option linter.unusedSimpArgs false
set_option linter.unusedVariables false
set_option maxRecDepth 100000
namespace Go.Proofs.YtkjlefahpdconaaDoor
open Go Go.Ab

theorem two_ac (op w : Int) (a b : Ex) (σ : St) (G : Glob) (R : A → St → Prop) (h : R (.d (Ex.mk op w 0 [a, b]).d) σ) : AC Tryd.prog G 28 [di op, di w, .d a.d, .d b.d] σ R := by
  rw [Ex.d_eq a, Ex.d_eq b]
  refine ac_enter mixed Tryd.func28 rfl Tryd.ntmps28 (by simp only [go_sem]) fun hbd => ?_
  simp only [List.length_cons, List.length_nil, Nat.reduceAdd, Nat.reduceSub, List.replicate_succ, List.replicate_zero, List.cons_append, List.nil_append]
  simp only [go_sem, Tryd.results28]
  refine ret_w (Weak.deep [3] 6) ?_
  simp only [go_sem]
  have e : (Ex.mk op w 0 [a, b]).d = .agg [iD op, iD w, iD 0, .sl 4 [.agg [iD a.op, iD a.w, iD a.n, .sl 4 (a.kids.map Ex.d)], .agg [iD b.op, iD b.w, iD b.n, .sl 4 (b.kids.map Ex.d)]]] := by
    rw [← Ex.d_eq a, ← Ex.d_eq b, Ex.d_eq]; rfl
  rw [e] at h
  exact ret_bd hbd rfl h
/-- Negation of a condition whose goal is not one bit wide. -/
theorem nenc_ac (cells : List Cel) (c : Cnd) (hok : c.Ok) (h1 : cells.length ≤ 32) (h2 : c.hyp.formed = true) (h3 : c.hyp.over cells true = true) (h6 : c.hyp.w = 1) (h7 : c.goal.w ≠ 1) (σ : St) (G : Glob) (hG : G.g 0 = some masksD) (R : A → St → Prop) (h : R (.tup [.d (cnfD ⟨0, []⟩), di 1]) σ) : AC Tryd.prog G 11 [.d (celsD cells), .d (cndD c)] σ R := by
  refine ac_enter' mixed Tryd.func11 rfl Tryd.ntmps11 (by simp only [go_sem]) fun hbd => ?_
  simp only [List.length_cons, List.length_nil, Nat.reduceAdd, Nat.reduceSub, List.replicate_succ, List.replicate_zero, List.cons_append, List.nil_append]
  simp only [cndD, go_sem, Tryd.results11]
  refine ac' (unenc_ac cells c hok h1 h2 h3 h6 h7 _ _ hG _ ?_)
  simp only [cndD, go_sem, Tryd.results11]
  refine ret_imp (b := .tup [.d (cnfD ⟨0, []⟩), di 1]) (fun ρ w v hv => imp_tup (fun v hv => hv.nilA (.d (.agg (.cons (.refl _) (.cons (.nil 1) .nil))))) hv) ?_
  exact ret_bd hbd rfl h
def cs1 : List Cel := [⟨[120], 2, 1, -1, false, 0⟩, ⟨[121], 1, 0, -1, false, 0⟩]
end Go.Proofs.YtkjlefahpdconaaDoor
end PartD1
