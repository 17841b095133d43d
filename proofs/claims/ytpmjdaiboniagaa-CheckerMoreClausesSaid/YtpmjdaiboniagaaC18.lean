/- Plain laws on lists of steps. -/
import Derived.Test.YtpmjdaiboniagaaC14
import Derived.Test.YtpmjdaiboniagaaC6
set_option linter.unusedSimpArgs false
set_option linter.unusedVariables false
namespace Go.Proofs.Ytpmjdaiboniagaa
open Go Go.Ab

abbrev stp0 : Stp := ⟨[], []⟩
theorem chkFrom_good {good : List Stp → Stp → Bool} {l : List Stp} : ∀ {m k : Nat}, m = l.length - k → chkFrom good l k (l.drop k) = (-1, 0) → ∀ i, k ≤ i → i < l.length → good (l.take i) (l.getD i stp0) = true
  | 0, k, hm, _, i, h1, h2 => by omega
  | m + 1, k, hm, h, i, h1, h2 => by
    have hk : k < l.length := by omega
    rw [drop_getD stp0 hk, chkFrom] at h
    cases hg : good (l.take k) (l.getD k stp0) with
    | false => rw [hg] at h; simp at h
    | true =>
      rw [hg, if_pos rfl] at h
      by_cases hik : i = k
      · subst hik; exact hg
      · exact chkFrom_good (m := m) (by omega) h i (by omega) h2
theorem chkFrom_bad {good : List Stp → Stp → Bool} {l : List Stp} {n : Nat} : ∀ {m k : Nat}, m = l.length - k → chkFrom good l k (l.drop k) = ((n : Int), 260) → k ≤ n ∧ n < l.length ∧ good (l.take n) (l.getD n stp0) = false ∧ ∀ i, k ≤ i → i < n → good (l.take i) (l.getD i stp0) = true
  | 0, k, hm, h => by
    rw [List.drop_eq_nil_of_le (by omega), chkFrom] at h
    simp at h
  | m + 1, k, hm, h => by
    have hk : k < l.length := by omega
    rw [drop_getD stp0 hk, chkFrom] at h
    cases hg : good (l.take k) (l.getD k stp0) with
    | false =>
      rw [hg, if_neg (by simp)] at h
      simp only [Prod.mk.injEq] at h
      obtain rfl : k = n := by omega
      exact ⟨Nat.le_refl _, hk, hg, fun i h1 h2 => by omega⟩
    | true =>
      rw [hg, if_pos rfl] at h
      obtain ⟨h1, h2, h3, h4⟩ := chkFrom_bad (m := m) (by omega) h
      refine ⟨by omega, h2, h3, fun i h5 h6 => ?_⟩
      by_cases hik : i = k
      · subst hik; exact hg
      · exact h4 i (by omega) h6
/-- Of a well-formed formula: all steps are good, or the first that is not. -/
theorem chk_cases {f : Cnf} {l : List Stp} (hv : validC f = true) (hl : l.length ≤ 20000) :
    (chk (goodR f) f l = (-1, 0) ∧ ∀ i, i < l.length → goodR f (l.take i) (l.getD i stp0) = true) ∨
    ∃ n : Nat, chk (goodR f) f l = ((n : Int), 260) ∧ n < l.length ∧ goodR f (l.take n) (l.getD n stp0) = false ∧ ∀ i, i < n → goodR f (l.take i) (l.getD i stp0) = true := by
  have e : chk (goodR f) f l = chkFrom (goodR f) l 0 l := by rw [chk, if_neg (by simp [hv]), if_neg (by omega)]
  rw [e]
  rcases chkFrom_iff (good := goodR f) (l := l) (k := 0) (r := l) with h | ⟨n, h⟩
  · exact .inl ⟨h, fun i hi => chkFrom_good (k := 0) rfl (by rw [List.drop_zero]; exact h) i (by omega) hi⟩
  · obtain ⟨_, h2, h3, h4⟩ := chkFrom_bad (k := 0) (n := n) (l := l) rfl (by rw [List.drop_zero]; exact h)
    exact .inr ⟨n, h, h2, h3, fun i hi => h4 i (by omega) hi⟩
/-- The steps ahead are well-formed where all are good. -/
theorem stepsOk_of {f : Cnf} {l : List Stp} {n : Nat} (hn : n ≤ l.length) (h : ∀ i, i < n → goodR f (l.take i) (l.getD i stp0) = true) : stepsOk f.vars f.cls.length (l.take n) = true := by
  induction n with
  | zero => simp [stepsOk]
  | succ n ih =>
    rw [List.take_add_one, List.getElem?_eq_getElem (show n < l.length by omega), stepsOk_append, ih (by omega) fun i hi => h i (by omega)]
    have := h n (by omega)
    rw [goodR, Bool.and_eq_true, List.length_take, Nat.min_eq_left (by omega), List.getD_eq_getElem?_getD, List.getElem?_eq_getElem (show n < l.length by omega)] at this
    simpa [stepsOk, List.length_take, Nat.min_eq_left (show n ≤ l.length by omega)] using this.1
theorem chk_eq {good good' : List Stp → Stp → Bool} {l l' : List Stp} (hl : l.length = l'.length) : ∀ {m k : Nat}, m = l.length - k → (∀ i, k ≤ i → i < l.length → (∀ j, j < i → k ≤ j → good (l.take j) (l.getD j stp0) = true) → good (l.take i) (l.getD i stp0) = good' (l'.take i) (l'.getD i stp0)) →
    chkFrom good l k (l.drop k) = chkFrom good' l' k (l'.drop k)
  | 0, k, hm, _ => by rw [List.drop_eq_nil_of_le (by omega), List.drop_eq_nil_of_le (by omega), chkFrom, chkFrom]
  | m + 1, k, hm, h => by
    have hk : k < l.length := by omega
    rw [drop_getD stp0 hk, drop_getD stp0 (show k < l'.length by omega), chkFrom, chkFrom, ← h k (by omega) hk (fun j h1 h2 => by omega)]
    split
    · rename_i hg
      exact chk_eq hl (m := m) (by omega) fun i h1 h2 h3 => h i (by omega) h2 fun j h4 h5 => by
        by_cases hjk : j = k
        · subst hjk; exact hg
        · exact h3 j h4 (by omega)
    · rfl

-- soundness
theorem holds_neg {v : List Bool} {l : Int} (h : l ≠ 0) : holdsL v (-l) = !holdsL v l := by
  unfold holdsL
  have e1 : (-l).natAbs = l.natAbs := by omega
  rw [e1]
  rcases Int.lt_or_gt_of_ne h with hl | hl
  · have d1 : decide (0 < -l) = true := decide_eq_true (by omega)
    have d2 : decide (0 < l) = false := decide_eq_false (by omega)
    rw [d1, d2]; cases v.getD (l.natAbs - 1) false <;> rfl
  · have d1 : decide (0 < -l) = false := decide_eq_false (by omega)
    have d2 : decide (0 < l) = true := decide_eq_true (by omega)
    rw [d1, d2]; cases v.getD (l.natAbs - 1) false <;> rfl
/-- A unit clause's open literal is true where the clause and the literals T are. -/
theorem unit_true {v : List Bool} {T : List Int} (hT : ∀ x ∈ T, holdsL v x = true) : ∀ {c : List Int} {o : Int}, (∀ x ∈ c, x ≠ 0) → (c.any (holdsL v) = true ∨ o ≠ 0 ∧ holdsL v o = true) → unitS T c o ≠ 0 → holdsL v (unitS T c o) = true
  | [], o, _, h, hu => by rcases h with h | h; simp at h; exact h.2
  | l :: c, o, hc, h, hu => by
    have hc' : ∀ x ∈ c, x ≠ 0 := fun x hx => hc x (by simp [hx])
    have hl := hc l (by simp)
    simp only [unitS] at hu ⊢
    split at hu
    · exact absurd rfl hu
    · rename_i h1
      rw [if_neg h1]
      split at hu
      · rename_i h2
        rw [if_pos h2]
        refine unit_true hT hc' ?_ hu
        rw [List.any_cons, Bool.or_eq_true] at h
        rcases h with (h | h) | h
        · rcases h2 with h2 | h2
          · have := hT _ h2
            rw [holds_neg hl, h] at this; cases this
          · exact .inr ⟨h2 ▸ hl, h2 ▸ h⟩
        · exact .inl h
        · exact .inr h
      · rename_i h2
        rw [if_neg h2]
        split at hu
        · exact absurd rfl hu
        · rename_i h3
          rw [if_neg h3]
          refine unit_true hT hc' ?_ hu
          rw [List.any_cons, Bool.or_eq_true] at h
          rcases h with (h | h) | h
          · exact .inr ⟨hl, h⟩
          · exact .inl h
          · exact absurd h.1 h3
theorem just_sound {v : List Bool} {cl : Nat → List Int} : ∀ {hints T : List Int}, (∀ h ∈ hints, (∀ x ∈ cl h.toNat, x ≠ 0) ∧ (cl h.toNat).any (holdsL v) = true) → (∀ x ∈ T, holdsL v x = true) → justR cl T hints = true → False
  | [], _, _, _, h => by simp [justR] at h
  | [h], T, hc, hT, hj => by
    obtain ⟨h1, h2⟩ := hc h (by simp)
    rw [justR, falsS, List.all_eq_true] at hj
    obtain ⟨x, hx, hxt⟩ := List.any_eq_true.1 h2
    have := hT _ (by simpa using hj x hx)
    rw [holds_neg (h1 x hx), hxt] at this; cases this
  | h :: y :: r, T, hc, hT, hj => by
    obtain ⟨h1, h2⟩ := hc h (by simp)
    rw [justR_two] at hj
    split at hj
    · cases hj
    · rename_i hu
      refine just_sound (fun x hx => hc x (by simp [hx])) (fun x hx => ?_) hj
      rcases List.mem_append.1 hx with hx | hx
      · exact hT x hx
      · rw [List.mem_singleton.1 hx]; exact unit_true hT h1 (.inl h2) hu
theorem good_range {f : Cnf} {b : List Stp} {s : Stp} (hv : validC f = true) (hw : ∀ x ∈ s.lits, I64 x) (h : goodR f b s = true) : ∀ x ∈ s.lits, x ≠ 0 ∧ -f.vars ≤ x ∧ x ≤ f.vars := fun x hx => by
  simp only [goodR, stepOk, Bool.and_eq_true] at h
  have := litsFrom_range hw h.1.1 x hx
  exact ⟨this.2.2, this.1, this.2.1⟩
/-- What is justified follows. -/
theorem steps_sound {f : Cnf} {l : List Stp} {n : Nat} {v : List Bool} (hn : n ≤ l.length) (hv : validC f = true) (hw : ∀ s ∈ l, ∀ x ∈ s.lits, I64 x) (he : evalC f v = true) (hg : ∀ i, i < n → goodR f (l.take i) (l.getD i stp0) = true) :
    ∀ i, i < n → ((l.getD i stp0).lits.any (holdsL v)) = true := by
  intro i
  induction i using Nat.strongRecOn with
  | _ i ih =>
    intro hi
    obtain ⟨hv1, hv2⟩ := validC_iff.1 hv
    have hgi := hg i hi
    have hr := good_range hv (hw _ (getD_mem stp0 (show i < l.length by omega))) hgi
    rw [goodR, Bool.and_eq_true] at hgi
    cases hc : (l.getD i stp0).lits.any (holdsL v) with
    | true => rfl
    | false =>
      exfalso
      have hall : ∀ c, c < f.cls.length + i → (∀ x ∈ clauseAt f.cls (l.take i) c, x ≠ 0) ∧ (clauseAt f.cls (l.take i) c).any (holdsL v) = true := fun c hci => by
        unfold clauseAt
        split
        · rename_i hlt
          have hm := getD_mem ([] : List Int) hlt
          exact ⟨fun x hx => (hv2 _ hm x hx).1, List.all_eq_true.1 he _ hm⟩
        · rename_i hge
          have hj : c - f.cls.length < i := by omega
          have e : (l.take i).getD (c - f.cls.length) ⟨[], []⟩ = l.getD (c - f.cls.length) stp0 := by
            rw [List.getD_eq_getElem?_getD, List.getElem?_take_of_lt hj, List.getD_eq_getElem?_getD]
          rw [e]
          exact ⟨fun x hx => (good_range hv (hw _ (getD_mem stp0 (show c - f.cls.length < l.length by omega))) (hg _ (by omega)) x hx).1, ih _ hj (by omega)⟩
      simp only [stepOk, Bool.and_eq_true] at hgi
      refine just_sound (v := v) (fun h hh => ?_) (fun x hx => ?_) hgi.2
      · have := hintsOk_range hgi.1.2 h hh
        rw [List.length_take] at this
        exact hall _ (by omega)
      · simp only [negs, List.mem_map] at hx
        obtain ⟨y, hy, rfl⟩ := hx
        rw [holds_neg (hr y hy).1]
        have := List.any_eq_false.1 hc y hy
        simpa using this
/-- A refuted formula has no satisfying assignment. -/
theorem refuted_sound {f : Cnf} {l : List Stp} {v : List Bool} (hl : l.length ≤ 20000) (hv : validC f = true) (hw : ∀ s ∈ l, ∀ x ∈ s.lits, I64 x) (h : refutes (chk (goodR f) f l) l = true) : evalC f v = false := by
  cases he : evalC f v with
  | false => rfl
  | true =>
    exfalso
    simp only [refutes, Bool.and_eq_true, beq_iff_eq, decide_eq_true_eq] at h
    obtain ⟨⟨h1, h2⟩, h3⟩ := h
    rcases chk_cases hv hl with ⟨h4, h5⟩ | ⟨n, h4, _⟩
    · have := steps_sound (Nat.le_refl _) hv hw he h5 (l.length - 1) (by omega)
      have e : (l.getD (l.length - 1) stp0).lits = [] := List.eq_nil_of_length_eq_zero (by simpa using h3)
      rw [e] at this; cases this
    · rw [h4] at h1; cases h1
end Go.Proofs.Ytpmjdaiboniagaa
