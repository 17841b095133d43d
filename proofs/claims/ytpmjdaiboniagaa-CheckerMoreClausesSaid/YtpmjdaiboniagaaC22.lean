/- CheckerSteps, evaluated. -/
import Derived.Test.YtpmjdaiboniagaaC21
set_option linter.unusedSimpArgs false
set_option linter.unusedVariables false
set_option maxRecDepth 100000
namespace Go.Proofs.Ytpmjdaiboniagaa
open Go Go.Ab

/-- Behind good steps, a step is good for Step just if it is. -/
theorem stepG_eq {f : Cnf} {l : List Stp} {n : Nat} (hn : n < l.length) (hv : validC f = true) (h : ∀ i, i < n → goodR f (l.take i) (l.getD i stp0) = true) : stepG f (l.take n) (l.getD n stp0) = goodR f (l.take n) (l.getD n stp0) := by
  rw [stepG, hv, stepsOk_of (by omega) h, Bool.true_and, Bool.true_and]
theorem fine2_take {f : Cnf} {l : List Stp} (hf : Fine2 f l) (n : Nat) : Fine2 f (l.take n) :=
  ⟨⟨hf.vars, hf.cls, hf.len, by have := hf.steps; rw [List.length_take]; omega, fun t ht => hf.lits t (List.mem_of_mem_take ht)⟩, fun t ht => hf.lits12 t (List.mem_of_mem_take ht)⟩
theorem take_getD {l : List Stp} {n i : Nat} (h : i < n) : (l.take n).getD i stp0 = l.getD i stp0 := by
  rw [List.getD_eq_getElem?_getD, List.getElem?_take_of_lt h, List.getD_eq_getElem?_getD]
/-- A prefix is judged as in the list. -/
theorem chk_take {f : Cnf} {l : List Stp} {n : Nat} (hn : n ≤ l.length) (hl : l.length ≤ 20000) (hv : validC f = true) :
    (∀ k : Nat, chk (goodR f) f l = ((k : Int), 260) → k < n → chk (goodR f) f (l.take n) = ((k : Int), 260)) ∧
    (∀ k : Nat, chk (goodR f) f l = ((k : Int), 260) → n ≤ k → chk (goodR f) f (l.take n) = (-1, 0)) ∧
    (chk (goodR f) f l = (-1, 0) → chk (goodR f) f (l.take n) = (-1, 0)) := by
  have hlen : (l.take n).length = n := by rw [List.length_take]; omega
  have hgood : ∀ i, i < n → goodR f ((l.take n).take i) ((l.take n).getD i stp0) = goodR f (l.take i) (l.getD i stp0) := fun i hi => by
    rw [take_getD hi, List.take_take, Nat.min_eq_left (by omega)]
  rcases chk_cases (f := f) (l := l.take n) hv (by omega) with ⟨h1, h2⟩ | ⟨m, h1, h2, h3, h4⟩ <;> rcases chk_cases (f := f) (l := l) hv hl with ⟨k1, k2⟩ | ⟨k, k1, k2, k3, k4⟩
  · rw [h1, k1]
    exact ⟨fun k h => (by cases h), fun k h => (by cases h), fun _ => rfl⟩
  · rw [h1, k1]
    refine ⟨fun q h hq => ?_, fun q h hq => rfl, fun h => (by cases h)⟩
    simp only [Prod.mk.injEq] at h
    obtain rfl : k = q := by omega
    have := h2 k (by omega)
    rw [hgood k (by omega), k3] at this; cases this
  · rw [h1, k1]
    refine ⟨fun k h => (by cases h), fun k h => (by cases h), fun _ => ?_⟩
    rw [hgood m (by omega), k2 m (by omega)] at h3; cases h3
  · rw [h1, k1]
    refine ⟨fun q h hq => ?_, fun q h hq => ?_, fun h => (by cases h)⟩
    · simp only [Prod.mk.injEq] at h
      obtain rfl : k = q := by omega
      have : m = k := by
        rcases Nat.lt_trichotomy m k with hlt | heq | hgt
        · rw [hgood m (by omega), k4 m hlt] at h3; cases h3
        · exact heq
        · have := h4 k hgt
          rw [hgood k (by omega), k3] at this; cases this
      rw [this]
    · simp only [Prod.mk.injEq] at h
      obtain rfl : k = q := by omega
      rw [hgood m (by omega), k4 m (by omega)] at h3; cases h3
theorem law12_ac (f : Cnf) (l : List Stp) (cut : Nat) (hcut : cut ≤ 255) (h1 : f.cls.length ≤ reachBytes) (h2 : l.length ≤ reachBytes) (h3 : ∀ c ∈ f.cls, c.length ≤ reachBytes) (hv : I64 f.vars) (hx : ∀ s ∈ l, ∀ x ∈ s.lits, I64 x) (σ : St) (G : Glob) (R : A → St → Prop) (h : R (db true) σ) : AC Try.prog G 12 [.d (cnfD f), .d (stpsD l), .d (.int .u8 cut)] σ R := by
  refine ac_enterC [11] mixed Try.func12 rfl Try.ntmps12 (by simp only [go_sem]) fun hbd => ?_
  simp only [List.length_cons, List.length_nil, Nat.reduceAdd, Nat.reduceSub, List.replicate_succ, List.replicate_zero, List.cons_append, List.nil_append]
  simp only [cnfD, go_sem]
  refine ac' (chead_ac _ _ _ ?_)
  simp only [go_sem]
  refine ac' (small_ac f l h1 h2 _ _ _ ?_)
  cases hs : smallC f l with
  | false =>
    simp only [go_sem]
    refine ex' (.bool false) ⟨fun hc => Bool.noConfusion hc, ?_⟩
    simp only [go_sem, Try.results12]
    exact ret_d hbd h
  | true =>
  simp only [go_sem]
  refine ex' (.bool (validC f)) ⟨fun hc => ?_, ?_⟩
  · simp only [go_sem]
    exact ac' (rvalid_ac f hv h1 h3 _ _ _ ⟨rfl, rfl⟩)
  cases hvv : validC f with
  | false =>
    simp only [go_sem, Try.results12]
    exact ret_d hbd h
  | true =>
  simp only [go_sem, Try.results12]
  have hf := fine2_of hs hv hx
  have hl := hf.steps
  refine ac' (check_ac f l hf _ _ _ ?_)
  have hch := chk_cases (l := l) hvv (by omega)
  obtain ⟨⟨q1, q2⟩, hq⟩ : ∃ q, chk (goodR f) f l = q := ⟨_, rfl⟩
  rw [hq] at hch
  simp only [hq, stpsD, go_sem, List.length_map]
  -- the first step that is rejected, as the loop finds it
  refine aw_cut (fun fr st => fr = [.any, .d (.sl 2 (l.map stpD)), .d (.int .u8 cut), .ref σ.length 0, .any, .any, .any, db true, di q1, di q2, di q1, .any, .any, .any, .any, .any, .any, .any, .any, .any, .any, .any, .any, .any, .any, .any, .any, .any, .any, .any, .any, .any, .any, .any, .any, .any, .any, .any, .any, .any, .any, .any, .any, .any, .any, .any, .any, .any, .any, .any, .any, .any, .any, .any, .any, .any, .any, .any, .any, .any, .any, .any, .any, .any, .any, .any, .any, .any, .any, .any, .any, .any, .any, .any, .any, .any, .any, .any, .any, .any, .any, .any, .any, .any, .any, .any, .any, .any, .any, .any, .any, .any, .any, .any, .any, .any, .any, .any, .any, .any, .any, .any, .any] ∧ st = σ ++ [some (.cells [.d (iD f.vars), .d (clsD f.cls)])]) ?_ ?_
  · simp only [go_sem]
    refine aw_loop (fun m fr st => ∃ (j : Nat) (a : Int), j ≤ l.length ∧ m = l.length - j ∧ (a = -1 ∧ (∀ i, i < j → goodR f (l.take i) (l.getD i stp0) = true) ∨ a = q1 ∧ 0 ≤ q1) ∧ fr = [.any, .d (.sl 2 (l.map stpD)), .d (.int .u8 cut), .ref σ.length 0, .any, .any, .any, db true, di q1, di q2, di a, dn j, .any, .any, .any, .any, .any, .any, .any, .any, .any, .any, .any, .any, .any, .any, .any, .any, .any, .any, .any, .any, .any, .any, .any, .any, .any, .any, .any, .any, .any, .any, .any, .any, .any, .any, .any, .any, .any, .any, .any, .any, .any, .any, .any, .any, .any, .any, .any, .any, .any, .any, .any, .any, .any, .any, .any, .any, .any, .any, .any, .any, .any, .any, .any, .any, .any, .any, .any, .any, .any, .any, .any, .any, .any, .any, .any, .any, .any, .any, .any, .any, .any, .any, .any, .any, .any, .any, .any, .any, .any, .any, .any] ∧ st = σ ++ [some (.cells [.d (iD f.vars), .d (clsD f.cls)])]) l.length _
      (Wk.mask [1, 2, 3, 7, 8, 9, 10, 11] ⟨0, -1, by omega, rfl, .inl ⟨rfl, fun i hi => by omega⟩, rfl, rfl⟩) ?_
    rintro m fr st ⟨j, a, hj, hm, ha, rfl, rfl⟩
    rcases Nat.lt_or_ge j l.length with hlt | hge
    · have hd : decide ((j : Int) < (l.length : Int)) = true := decide_eq_true (by omega)
      rcases ha with ⟨rfl, hg⟩ | ⟨rfl, h0⟩
      · have d1 : decide ((-1 : Int) < 0) = true := rfl
        have e1 := stpD_getD hlt
        have w2 := wrapS j (by omega)
        have hst := stepG_eq hlt hvv hg
        have htk := take_snoc stp0 hlt
        have hf' : Fine2 f (l.take j ++ [l.getD j stp0]) := by rw [← htk]; exact fine2_take hf _
        simp only [go_sem, List.length_map, hd, d1, e1, w2, ← List.map_take]
        refine ⟨⟨by omega, by omega, by omega⟩, ⟨by omega, by omega⟩, ac' (step_ac f (l.take j) (l.getD j stp0) hf' _ _ _ ?_)⟩
        rw [hst]
        cases hgj : goodR f (l.take j) (l.getD j stp0) with
        | true =>
          simp only [go_sem, w2]
          refine Wk.mask [1, 2, 3, 7, 8, 9, 10, 11] ⟨l.length - (j + 1), by omega, j + 1, -1, hlt, rfl, .inl ⟨rfl, fun i hi => ?_⟩, rfl, rfl⟩
          by_cases hij : i = j
          · subst hij; exact hgj
          · exact hg i (by omega)
        | false =>
          have hq1 : (j : Int) = q1 := by
            rcases hch with ⟨hc, hgg⟩ | ⟨n, hc, hn, hbad, hgg⟩
            · have := hgg j hlt
              rw [hgj] at this; cases this
            · simp only [Prod.mk.injEq] at hc
              rcases Nat.lt_trichotomy n j with hlt' | heq | hgt
              · have := hg n hlt'
                rw [hbad] at this; cases this
              · omega
              · have := hgg j hgt
                rw [hgj] at this; cases this
          simp only [go_sem, w2]
          exact Wk.mask [1, 2, 3, 7, 8, 9, 10, 11] ⟨l.length - (j + 1), by omega, j + 1, (j : Int), hlt, rfl, .inr ⟨hq1, by omega⟩, rfl, rfl⟩
      · have d1 : decide (a < 0) = false := decide_eq_false (by omega)
        simp only [go_sem, List.length_map, hd, d1]
        exact Wk.mask [1, 2, 3, 7, 8, 9, 10] ⟨rfl, rfl⟩
    · have hd : decide ((j : Int) < (l.length : Int)) = false := decide_eq_false (by omega)
      have haq : a = q1 := by
        rcases ha with ⟨rfl, hg⟩ | ⟨rfl, h0⟩
        · rcases hch with ⟨hc, hgg⟩ | ⟨n, hc, hn, hbad, hgg⟩
          · simp only [Prod.mk.injEq] at hc; exact hc.1.symm
          · have := hg n (by omega)
            rw [hbad] at this; cases this
        · rfl
      subst haq
      simp only [go_sem, List.length_map, hd]
      exact Wk.mask [1, 2, 3, 7, 8, 9, 10] ⟨rfl, rfl⟩
  · rintro fr st ⟨rfl, rfl⟩
    have n1 : (q1 != q1) = false := bne_self_eq_false ..
    have n2 : ((q2 == 0) == decide (q1 < 0)) = true := by
      rcases hch with ⟨hc, hgg⟩ | ⟨n, hc, hn, hbad, hgg⟩
      · simp only [Prod.mk.injEq] at hc
        obtain ⟨rfl, rfl⟩ := hc
        rfl
      · simp only [Prod.mk.injEq] at hc
        obtain ⟨rfl, rfl⟩ := hc
        have : decide ((n : Int) < 0) = false := decide_eq_false (by omega)
        rw [this]; rfl
    have w3 : IntKind.i64.wrap (cut : Int) = (cut : Int) := wrap64_id _ (by omega) (by omega)
    have w4 : IntKind.i64.wrap ((l.length : Int) + 1) = ((l.length + 1 : Nat) : Int) := wrapS _ (by omega)
    have w5 : (cut : Int).tmod ((l.length + 1 : Nat) : Int) = ((cut % (l.length + 1) : Nat) : Int) := rfl
    have hmod : cut % (l.length + 1) < l.length + 1 := Nat.mod_lt _ (by omega)
    obtain ⟨n, hn⟩ : ∃ n, cut % (l.length + 1) = n := ⟨_, rfl⟩
    rw [hn] at w5 hmod
    simp only [go_sem, List.length_map, n1, n2, w3, w4, w5, ← List.map_take]
    refine ⟨by omega, ⟨by omega, by omega, by omega⟩, ac' (check_ac f (l.take n) (fine2_take hf n) _ _ _ ?_)⟩
    obtain ⟨t1, t2, t3⟩ := chk_take (f := f) (l := l) (n := n) (by omega) (by omega) hvv
    rw [hq] at t1 t2 t3
    rcases hch with ⟨hc, hgg⟩ | ⟨k, hc, hk, hbad, hgg⟩
    · simp only [Prod.mk.injEq] at hc
      obtain ⟨rfl, rfl⟩ := hc
      rw [t3 rfl]
      simp only [go_sem, beq_self_eq_true, show decide ((0 : Int) ≤ -1) = false from rfl, Try.results12]
      exact ret_d hbd h
    · simp only [Prod.mk.injEq] at hc
      obtain ⟨rfl, rfl⟩ := hc
      have d1 : decide ((0 : Int) ≤ (k : Int)) = true := decide_eq_true (by omega)
      rcases Nat.lt_or_ge k n with hlt | hge
      · have d2 : decide ((k : Int) < (n : Int)) = true := decide_eq_true (by omega)
        rw [t1 k rfl hlt]
        simp only [go_sem, beq_self_eq_true, d1, d2, Try.results12]
        exact ret_d hbd h
      · have d2 : decide ((k : Int) < (n : Int)) = false := decide_eq_false (by omega)
        rw [t2 k rfl hge]
        simp only [go_sem, beq_self_eq_true, d1, d2, Try.results12]
        exact ret_d hbd h
end Go.Proofs.Ytpmjdaiboniagaa
