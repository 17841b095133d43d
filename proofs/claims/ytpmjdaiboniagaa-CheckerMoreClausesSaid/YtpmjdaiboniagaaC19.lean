/- Plain laws: literals under other names, in another order. -/
import Derived.Test.YtpmjdaiboniagaaC18
set_option linter.unusedSimpArgs false
set_option linter.unusedVariables false
namespace Go.Proofs.Ytpmjdaiboniagaa
open Go Go.Ab

theorem unitS_iff {T : List Int} {u : Int} (hu : u ≠ 0) : ∀ {c : List Int} {o : Int}, (∀ x ∈ c, x ≠ 0) → (unitS T c o = u ↔ (∀ x ∈ c, x ∉ T) ∧ (∀ x ∈ c, -x ∉ T → o = 0 ∨ True → x = u) ∧ (o = u ∨ o = 0 ∧ u ∈ c ∧ -u ∉ T))
  | [], o, _ => by simp [unitS]
  | l :: c, o, hc => by
    have hl := hc l (by simp)
    have ih := fun o => unitS_iff (T := T) hu (c := c) (o := o) (fun x hx => hc x (by simp [hx]))
    simp only [or_true, true_imp_iff] at ih ⊢
    simp only [unitS, List.mem_cons, forall_eq_or_imp]
    by_cases h1 : l ∈ T
    · rw [if_pos h1]
      exact ⟨fun h => absurd h.symm hu, fun h => absurd h1 h.1.1⟩
    rw [if_neg h1]
    by_cases h2 : -l ∈ T ∨ l = o
    · rw [if_pos h2, ih o]
      constructor
      · rintro ⟨a, b, c'⟩
        refine ⟨⟨h1, a⟩, ⟨fun hn => ?_, b⟩, ?_⟩
        · rcases h2 with h2 | h2
          · exact absurd h2 hn
          · rcases c' with c' | c'
            · rw [h2, c']
            · exact absurd (h2.trans c'.1) hl
        · rcases c' with c' | ⟨c1, c2, c3⟩
          · exact .inl c'
          · exact .inr ⟨c1, .inr c2, c3⟩
      · rintro ⟨⟨_, a⟩, ⟨b0, b⟩, c'⟩
        refine ⟨a, b, ?_⟩
        rcases c' with c' | ⟨c1, c2 | c2, c3⟩
        · exact .inl c'
        · subst c2
          rcases h2 with h2 | h2
          · exact absurd h2 c3
          · exact absurd (h2.trans c1) hl
        · exact .inr ⟨c1, c2, c3⟩
    rw [if_neg h2]
    have h3 : -l ∉ T := fun h => h2 (.inl h)
    by_cases h4 : o ≠ 0
    · rw [if_pos h4]
      refine ⟨fun h => absurd h.symm hu, fun ⟨_, ⟨b0, _⟩, c'⟩ => ?_⟩
      have e := b0 h3
      rcases c' with c' | c'
      · exact absurd (.inr (e.trans c'.symm)) h2
      · exact absurd c'.1 h4
    · rw [if_neg h4, ih l]
      have h5 : o = 0 := by simpa using h4
      constructor
      · rintro ⟨a, b, c'⟩
        have e : l = u := by rcases c' with c' | c'; exact c'; exact absurd c'.1 hl
        exact ⟨⟨h1, a⟩, ⟨fun _ => e, b⟩, .inr ⟨h5, .inl e.symm, e ▸ h3⟩⟩
      · rintro ⟨⟨_, a⟩, ⟨b0, b⟩, c'⟩
        exact ⟨a, b, .inl (b0 h3)⟩
theorem unit_iff {T c : List Int} {u : Int} (hu : u ≠ 0) (hc : ∀ x ∈ c, x ≠ 0) : unitS T c 0 = u ↔ (∀ x ∈ c, x ∉ T) ∧ (∀ x ∈ c, -x ∉ T → x = u) ∧ u ∈ c ∧ -u ∉ T := by
  rw [unitS_iff hu hc]
  simp only [or_true, true_imp_iff, true_and]
  constructor
  · rintro ⟨a, b, c' | c'⟩
    · exact absurd c'.symm hu
    · exact ⟨a, b, c'⟩
  · rintro ⟨a, b, c'⟩; exact ⟨a, b, .inr c'⟩
/-- Literals of V variables under other names. -/
structure Nam (V : Int) (φ : Int → Int) : Prop where
  inj : ∀ x y, x ≠ 0 → y ≠ 0 → -V ≤ x → x ≤ V → -V ≤ y → y ≤ V → φ x = φ y → x = y
  neg : ∀ x, x ≠ 0 → -V ≤ x → x ≤ V → φ (-x) = -φ x
  nz : ∀ x, x ≠ 0 → -V ≤ x → x ≤ V → φ x ≠ 0
def InV (V : Int) (c : List Int) : Prop := ∀ x ∈ c, x ≠ 0 ∧ -V ≤ x ∧ x ≤ V
/-- The same literals under other names, in any order. -/
def Img (φ : Int → Int) (c c' : List Int) : Prop := ∀ y, y ∈ c' ↔ ∃ x ∈ c, φ x = y
theorem img_mem {V : Int} {φ : Int → Int} (hφ : Nam V φ) {c c' : List Int} (hc : InV V c) (h : Img φ c c') {x : Int} (hx : x ≠ 0 ∧ -V ≤ x ∧ x ≤ V) : φ x ∈ c' ↔ x ∈ c := by
  rw [h]
  constructor
  · rintro ⟨z, hz, e⟩
    have := hc z hz
    have := hφ.inj z x this.1 hx.1 this.2.1 this.2.2 hx.2.1 hx.2.2 e
    exact this ▸ hz
  · exact fun hm => ⟨x, hm, rfl⟩
theorem img_neg {V : Int} {φ : Int → Int} (hφ : Nam V φ) {c c' : List Int} (hc : InV V c) (h : Img φ c c') {x : Int} (hx : x ≠ 0 ∧ -V ≤ x ∧ x ≤ V) : -(φ x) ∈ c' ↔ -x ∈ c := by
  rw [← hφ.neg x hx.1 hx.2.1 hx.2.2]
  exact img_mem hφ hc h ⟨by omega, by omega, by omega⟩
theorem img_nz {V : Int} {φ : Int → Int} (hφ : Nam V φ) {c c' : List Int} (hc : InV V c) (h : Img φ c c') : ∀ y ∈ c', y ≠ 0 := fun y hy => by
  obtain ⟨x, hx, rfl⟩ := (h y).1 hy
  exact hφ.nz x (hc x hx).1 (hc x hx).2.1 (hc x hx).2.2
theorem sim_fals {V : Int} {φ : Int → Int} (hφ : Nam V φ) {T T' c c' : List Int} (hT : InV V T) (hc : InV V c) (iT : Img φ T T') (ic : Img φ c c') : falsS T' c' = falsS T c := by
  rw [Bool.eq_iff_iff, falsS, falsS, List.all_eq_true, List.all_eq_true]
  simp only [decide_eq_true_eq]
  constructor
  · intro h x hx
    exact (img_neg hφ hT iT (hc x hx)).1 (h (φ x) ((ic _).2 ⟨x, hx, rfl⟩))
  · intro h y hy
    obtain ⟨x, hx, rfl⟩ := (ic y).1 hy
    exact (img_neg hφ hT iT (hc x hx)).2 (h x hx)
theorem sim_unit {V : Int} {φ : Int → Int} (hφ : Nam V φ) {T T' c c' : List Int} (hT : InV V T) (hc : InV V c) (iT : Img φ T T') (ic : Img φ c c') : unitS T' c' 0 = if unitS T c 0 = 0 then 0 else φ (unitS T c 0) := by
  have hnz : ∀ x ∈ c, x ≠ 0 := fun x hx => (hc x hx).1
  have fwd : ∀ u, u ≠ 0 → unitS T c 0 = u → unitS T' c' 0 = φ u := fun u hu h => by
    obtain ⟨a, b, d, e⟩ := (unit_iff hu hnz).1 h
    have hv := hc u d
    refine (unit_iff (hφ.nz u hv.1 hv.2.1 hv.2.2) (img_nz hφ hc ic)).2 ⟨fun y hy hm => ?_, fun y hy hm => ?_, (ic _).2 ⟨u, d, rfl⟩, fun hm => e ((img_neg hφ hT iT hv).1 hm)⟩
    · obtain ⟨x, hx, rfl⟩ := (ic y).1 hy
      exact a x hx ((img_mem hφ hT iT (hc x hx)).1 hm)
    · obtain ⟨x, hx, rfl⟩ := (ic y).1 hy
      rw [b x hx fun h => hm ((img_neg hφ hT iT (hc x hx)).2 h)]
  split
  · rename_i h0
    cases Decidable.em (unitS T' c' 0 = 0) with
    | inl h => exact h
    | inr h =>
      exfalso
      obtain ⟨a, b, d, e⟩ := (unit_iff h (img_nz hφ hc ic)).1 rfl
      obtain ⟨x, hx, hxe⟩ := (ic _).1 d
      have hv := hc x hx
      have : unitS T c 0 = x := (unit_iff hv.1 hnz).2 ⟨fun z hz hm => a _ ((ic _).2 ⟨z, hz, rfl⟩) ((img_mem hφ hT iT (hc z hz)).2 hm), fun z hz hm => ?_, hx, fun hm => e (by rw [← hxe]; exact (img_neg hφ hT iT hv).2 hm)⟩
      · exact hv.1 (this.symm.trans h0)
      · have hz' := hc z hz
        have := b _ ((ic _).2 ⟨z, hz, rfl⟩) fun h => hm ((img_neg hφ hT iT hz').1 h)
        rw [← hxe] at this
        exact hφ.inj z x hz'.1 hv.1 hz'.2.1 hz'.2.2 hv.2.1 hv.2.2 this
  · rename_i h0
    exact fwd _ h0 rfl
theorem img_snoc {φ : Int → Int} {T T' : List Int} (h : Img φ T T') (u : Int) : Img φ (T ++ [u]) (T' ++ [φ u]) := fun y => by
  simp only [List.mem_append, List.mem_singleton, h y]
  constructor
  · rintro (⟨x, hx, e⟩ | rfl)
    · exact ⟨x, .inl hx, e⟩
    · exact ⟨u, .inr rfl, rfl⟩
  · rintro ⟨x, hx | rfl, e⟩
    · exact .inl ⟨x, hx, e⟩
    · exact .inr e.symm
theorem sim_just {V : Int} {φ : Int → Int} (hφ : Nam V φ) {cl cl' : Nat → List Int} {g : Int → Int} : ∀ {hints T T' : List Int}, InV V T → Img φ T T' → (∀ h ∈ hints, InV V (cl h.toNat) ∧ Img φ (cl h.toNat) (cl' (g h).toNat)) → justR cl' T' (hints.map g) = justR cl T hints
  | [], _, _, _, _, _ => rfl
  | [h], T, T', hT, iT, hc => by
    obtain ⟨h1, h2⟩ := hc h (by simp)
    rw [List.map_cons, List.map_nil, justR, justR, sim_fals hφ hT h1 iT h2]
  | h :: y :: r, T, T', hT, iT, hc => by
    obtain ⟨h1, h2⟩ := hc h (by simp)
    rw [List.map_cons, List.map_cons, justR_two, justR_two, sim_unit hφ hT h1 iT h2]
    by_cases hu : unitS T (cl h.toNat) 0 = 0
    · simp [hu]
    · have hm : unitS T (cl h.toNat) 0 ∈ cl h.toNat := ((unit_iff hu (fun x hx => (h1 x hx).1)).1 rfl).2.2.1
      have hv := h1 _ hm
      rw [if_neg hu, if_neg (hφ.nz _ hv.1 hv.2.1 hv.2.2), if_neg hu, ← List.map_cons (f := g)]
      exact sim_just hφ (fun x hx => by
        rcases List.mem_append.1 hx with hx | hx
        · exact hT x hx
        · rw [List.mem_singleton.1 hx]; exact hv) (img_snoc iT _) fun x hx => hc x (by simp only [List.mem_cons] at hx ⊢; exact .inr hx)
theorem Nam.id (V : Int) : Nam V fun x => x := ⟨fun _ _ _ _ _ _ _ _ h => h, fun _ _ _ _ => rfl, fun _ h _ _ => h⟩
theorem img_id {c c' : List Int} : Img (fun x => x) c c' ↔ ∀ y, y ∈ c' ↔ y ∈ c := by
  simp [Img]
theorem img_negs {V : Int} {φ : Int → Int} (hφ : Nam V φ) {c c' : List Int} (hc : InV V c) (h : Img φ c c') : Img φ (negs c) (negs c') := fun y => by
  simp only [negs, List.mem_map]
  constructor
  · rintro ⟨z, hz, rfl⟩
    obtain ⟨x, hx, rfl⟩ := (h z).1 hz
    exact ⟨-x, ⟨x, hx, rfl⟩, hφ.neg x (hc x hx).1 (hc x hx).2.1 (hc x hx).2.2⟩
  · rintro ⟨z, ⟨x, hx, rfl⟩, rfl⟩
    exact ⟨φ x, (h _).2 ⟨x, hx, rfl⟩, (hφ.neg x (hc x hx).1 (hc x hx).2.1 (hc x hx).2.2).symm⟩
theorem inV_negs {V : Int} {c : List Int} (hc : InV V c) : InV V (negs c) := fun x hx => by
  simp only [negs, List.mem_map] at hx
  obtain ⟨y, hy, rfl⟩ := hx
  have := hc y hy
  omega
end Go.Proofs.Ytpmjdaiboniagaa
