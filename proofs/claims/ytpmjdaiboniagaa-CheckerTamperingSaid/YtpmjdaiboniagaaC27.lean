/- CheckerTampering: the plain law. -/
import Derived.Test.YtpmjdaiboniagaaC23
set_option linter.unusedSimpArgs false
set_option linter.unusedVariables false
set_option maxRecDepth 100000
namespace Go.Proofs.Ytpmjdaiboniagaa
open Go Go.Ab

theorem unitS_of (T : List Int) : ∀ (c : List Int) (o : Int), unitS T c o = 0 ∨ unitS T c o = o ∨ (unitS T c o ∈ c ∧ -unitS T c o ∉ T)
  | [], o => .inr (.inl rfl)
  | l :: c, o => by
    simp only [unitS, List.mem_cons]
    split
    · exact .inl rfl
    split
    · rcases unitS_of T c o with h | h | ⟨h, k⟩
      · exact .inl h
      · exact .inr (.inl h)
      · exact .inr (.inr ⟨.inr h, k⟩)
    rename_i h1 h2
    split
    · exact .inl rfl
    · rcases unitS_of T c l with h | h | ⟨h, k⟩
      · exact .inl h
      · refine .inr (.inr ⟨.inl h, ?_⟩)
        rw [h]; exact fun hm => h2 (.inl hm)
      · exact .inr (.inr ⟨.inr h, k⟩)
theorem unit_fals {T c : List Int} (h : falsS T c = true) : unitS T c 0 = 0 := by
  simp only [falsS, List.all_eq_true, decide_eq_true_eq] at h
  rcases unitS_of T c 0 with h' | h' | ⟨h', k⟩
  · exact h'
  · exact h'
  · exact absurd (h _ h') k
theorem unit_sat {T : List Int} {x : Int} (hx : x ∈ T) : ∀ {c : List Int} {o : Int}, x ∈ c → unitS T c o = 0
  | l :: c, o, h => by
    simp only [unitS]
    split
    · rfl
    rename_i h1
    have hc : x ∈ c := by
      rcases List.mem_cons.1 h with rfl | h
      · exact absurd hx h1
      · exact h
    split
    · exact unit_sat hx hc
    split
    · rfl
    · exact unit_sat hx hc
/-- A hint less. -/
theorem just_less {cl : Nat → List Int} : ∀ {hs : List Int} {T : List Int}, justR cl T hs = true → justR cl T (hs.take (hs.length - 1)) = false
  | [], T, h => by cases h
  | [a], T, h => rfl
  | [a, b], T, h => by
    rw [justR_two] at h
    split at h
    · cases h
    rename_i hu
    show falsS T (cl a.toNat) = false
    cases hf : falsS T (cl a.toNat) with
    | false => rfl
    | true => exact absurd (unit_fals hf) hu
  | a :: b :: d :: r, T, h => by
    rw [justR_two] at h
    split at h
    · cases h
    rename_i hu
    have := just_less h
    simp only [List.length_cons, Nat.add_sub_cancel, List.take_succ_cons] at this ⊢
    rw [justR_two, if_neg hu, this]
/-- A hint more, after the last. -/
theorem just_more {cl : Nat → List Int} {y : Int} : ∀ {hs : List Int} {T : List Int}, justR cl T hs = true → justR cl T (hs ++ [y]) = false
  | [], T, h => by cases h
  | [a], T, h => by
    show justR cl T (a :: y :: []) = false
    rw [justR_two, if_pos (unit_fals h)]
  | a :: b :: r, T, h => by
    rw [justR_two] at h
    split at h
    · cases h
    rename_i hu
    have := just_more (y := y) h
    simp only [List.cons_append] at this ⊢
    rw [justR_two, if_neg hu, this]
/-- A satisfied clause's hint put in. -/
theorem just_mixed {cl : Nat → List Int} {y x : Int} (hy : x ∈ cl y.toNat) : ∀ {hs : List Int} {T : List Int} {k : Nat}, x ∈ T → justR cl T hs = true → justR cl T (hs.take k ++ [y] ++ hs.drop k) = false
  | [], T, k, _, h => by cases h
  | a :: r, T, 0, hx, h => by
    simp only [List.take_zero, List.drop_zero, List.nil_append, List.cons_append]
    rw [justR_two, if_pos (unit_sat hx hy)]
  | [a], T, k + 1, hx, h => by
    simp only [List.take_succ_cons, List.drop_succ_cons, List.take_nil, List.drop_nil, List.append_nil]
    exact just_more h
  | a :: b :: r, T, k + 1, hx, h => by
    rw [justR_two] at h
    split at h
    · cases h
    rename_i hu
    have := just_mixed (k := k) hy (List.mem_append_left _ hx) h
    simp only [List.take_succ_cons, List.drop_succ_cons, List.cons_append]
    generalize hq : List.take k (b :: r) ++ [y] ++ List.drop k (b :: r) = q at this
    rcases q with _ | ⟨q1, q⟩
    · cases k <;> simp at hq
    · rw [justR_two, if_neg hu, this]
end Go.Proofs.Ytpmjdaiboniagaa
