/- The list of steps is examined. -/
import Derived.Test.YtpmjdaiboniagaaC12
import Derived.Test.YtpmjdaiboniagaaC6
set_option linter.unusedSimpArgs false
set_option linter.unusedVariables false
set_option maxRecDepth 100000
namespace Go.Proofs.Ytpmjdaiboniagaa
open Go Go.Ab

theorem Views.agg {τ : St} {cs : List A} {ds : List D} (hl : cs.length = ds.length) (h : ∀ (i : Nat) (x : A) (y : D), cs[i]? = some x → ds[i]? = some y → y.one = true ∧ Views τ x (.d y)) : Views τ (.agg cs) (.d (.agg ds)) := fun G ρ w v hI hv => by
  cases hv with
  | agg cs vs len one rep =>
    refine .d (.agg ds vs (hl ▸ len) (fun i y hy => ?_) fun i y v hy hv => ?_)
    · have hi : i < cs.length := by rw [hl]; exact (List.getElem?_eq_some_iff.1 hy).1
      exact (h i _ y (List.getElem?_eq_getElem hi) hy).1
    · have hi : i < cs.length := by rw [hl]; exact (List.getElem?_eq_some_iff.1 hy).1
      have := (h i _ y (List.getElem?_eq_getElem hi) hy).2 G ρ w v hI (rep i _ v (List.getElem?_eq_getElem hi) hv)
      cases this with
      | d h => exact h
theorem rep_some {α : Type} {n i : Nat} {a x : α} (h : (List.replicate n a)[i]? = some x) : i < n ∧ a = x := by
  rw [List.getElem?_replicate] at h
  split at h
  · exact ⟨by assumption, by simpa using h⟩
  · cases h
theorem views_nils {τ : St} {id n m : Nat} {w : Option TypeId} (h : τ[id]? = some (some (.cells (List.replicate m (A.d .nils))))) (hn : n ≤ m) : Views τ (.rs id 1 0 n w) (.d (.sl 1 (List.replicate n .nils))) :=
  Views.rs h (by simp) (fun i x hx => by
    obtain ⟨_, rfl⟩ := rep_some hx
    rfl) fun i x j y hx hy => by
    obtain ⟨hi, rfl⟩ := rep_some hx
    match j with
    | 0 =>
      have e : D.nils = y := by simpa [D.cells] using hy
      subst e
      refine ⟨rfl, .d .nils, ?_, Views.d _⟩
      rw [List.getElem?_replicate, if_pos (by omega)]
    | j + 1 => simp [D.cells] at hy
theorem views_earlier {τ : St} {id n m : Nat} {w : Option TypeId} {v : Int} (h : τ[id]? = some (some (.cells (List.replicate m (A.d .nils))))) (hn : n ≤ m) : Views τ (.agg [.d (iD v), .rs id 1 0 n w]) (.d (.agg [iD v, .sl 1 (List.replicate n .nils)])) :=
  Views.agg rfl fun i x y hx hy => by
    match i with
    | 0 =>
      simp at hx hy; subst hx; subst hy
      exact ⟨rfl, Views.d _⟩
    | 1 =>
      simp at hx hy; subst hx; subst hy
      exact ⟨rfl, views_nils h hn⟩
    | i + 2 => simp at hx
theorem clauseAt_take {cls : List (List Int)} {l : List Stp} {n k : Nat} (h : n < cls.length + k) : clauseAt cls (l.take k) n = clauseAt cls l n := by
  unfold clauseAt
  split
  · rfl
  · rw [List.getD_eq_getElem?_getD, List.getElem?_take_of_lt (by omega), List.getD_eq_getElem?_getD]
/-- No literal is true together with its negative. -/
def Cons (T : List Int) : Prop := ∀ x ∈ T, -x ∉ T
theorem stS_open {T : List Int} : ∀ {c : List Int} {o : Int}, o ≠ 0 → (∀ x ∈ c, x ≠ 0) → stS T c o = (unitS T c o, false, unitS T c o != 0)
  | [], o, ho, _ => by simp [stS, unitS, ho]
  | l :: c, o, ho, hc => by
    simp only [stS, unitS]
    split
    · rfl
    split
    · exact stS_open ho fun x hx => hc x (by simp [hx])
    · simp [ho]
theorem stS_eq {T : List Int} (hT : Cons T) : ∀ {c : List Int}, (∀ x ∈ c, x ≠ 0) → stS T c 0 = (unitS T c 0, falsS T c, unitS T c 0 != 0)
  | [], _ => by simp [stS, unitS, falsS]
  | l :: c, hc => by
    have hl := hc l (by simp)
    have hc' : ∀ x ∈ c, x ≠ 0 := fun x hx => hc x (by simp [hx])
    simp only [stS, unitS, falsS, List.all_cons]
    by_cases h1 : l ∈ T
    · have := hT l h1
      simp [h1, this]
    · rw [if_neg h1, if_neg h1]
      by_cases h2 : -l ∈ T
      · rw [if_pos (.inl h2), if_pos (.inl h2), stS_eq hT hc']
        simp [h2, falsS]
      · have h3 : ¬ (-l ∈ T ∨ l = 0) := by rintro (h | h); exact h2 h; exact hl h
        rw [if_neg h3, if_neg h3, if_pos trivial, if_neg (fun h => h rfl), stS_open hl hc']
        simp [h2]
theorem unitS_mem {T : List Int} : ∀ {c : List Int} {o : Int}, unitS T c o = 0 ∨ unitS T c o = o ∨ (unitS T c o ∈ c ∧ unitS T c o ∉ T ∧ -(unitS T c o) ∉ T)
  | [], o => by simp [unitS]
  | l :: c, o => by
    simp only [unitS]
    split
    · exact .inl rfl
    split
    · rcases unitS_mem (T := T) (c := c) (o := o) with h | h | h
      · exact .inl h
      · exact .inr (.inl h)
      · exact .inr (.inr ⟨by simp [h.1], h.2⟩)
    split
    · exact .inl rfl
    · rename_i h1 h2 h3
      rcases unitS_mem (T := T) (c := c) (o := l) with h | h | h
      · exact .inl h
      · rw [h]; exact .inr (.inr ⟨by simp, h1, fun hh => h2 (.inl hh)⟩)
      · exact .inr (.inr ⟨by simp [h.1], h.2⟩)
theorem cons_snoc {T : List Int} {u : Int} (hT : Cons T) (h0 : u ≠ 0) (h1 : u ∉ T) (h2 : -u ∉ T) : Cons (T ++ [u]) := fun x hx hn => by
  rcases List.mem_append.1 hx with hx | hx <;> rcases List.mem_append.1 hn with hn | hn
  · exact hT x hx hn
  · simp at hn; rw [← hn, Int.neg_neg] at h2; exact h2 hx
  · simp at hx; rw [hx] at hn; exact h2 hn
  · simp at hx hn; omega
theorem justP_eq {cl : Nat → List Int} : ∀ {hints T : List Int}, Cons T → (∀ h ∈ hints, ∀ x ∈ cl h.toNat, x ≠ 0) → justP cl T hints = justR cl T hints
  | [], _, _, _ => rfl
  | [h], T, hT, hc => by rw [justP, justR, stS_eq hT (hc h (by simp))]
  | h :: y :: r, T, hT, hc => by
    rw [justP_two, justR_two, stS_eq hT (hc h (by simp))]
    by_cases hu : unitS T (cl h.toNat) 0 = 0
    · simp [hu]
    · rcases unitS_mem (T := T) (c := cl h.toNat) (o := 0) with h1 | h1 | h1
      · exact (hu h1).elim
      · exact (hu h1).elim
      · rw [if_neg hu, if_pos (by simpa using hu)]
        exact justP_eq (cons_snoc hT hu h1.2.1 h1.2.2) fun x hx => hc x (by simp [hx])
theorem cons_negs {v : Int} {l : List Int} (hw : ∀ x ∈ l, -v ≤ x ∧ x ≤ v ∧ x ≠ 0) (hv : v ≤ 8000) (h : (l.map absI).Nodup) : Cons (negs l) := fun x hx hn => by
  simp only [negs, List.mem_map] at hx hn
  obtain ⟨a, ha, rfl⟩ := hx
  obtain ⟨b, hb, e⟩ := hn
  have h1 := hw a ha
  have h2 := hw b hb
  have e1 : absI a = absI b := by rw [absI_of (by omega), absI_of (by omega)]; omega
  have hne : a ≠ b := by omega
  obtain ⟨i, hi, rfl⟩ := List.getElem_of_mem ha
  obtain ⟨j, hj, rfl⟩ := List.getElem_of_mem hb
  have := (List.getElem_inj (i := i) (j := j) (h₀ := by simpa using hi) (h₁ := by simpa using hj) h).1 (by simpa using e1)
  subst this; exact hne rfl
/-- The program's justification of a well-formed step is the reference's. -/
theorem just_eq {f : Cnf} {before : List Stp} {s : Stp} (hv : validC f = true) (hw : ∀ x ∈ s.lits, I64 x) (hb : ∀ t ∈ before, ∀ x ∈ t.lits, -8000 ≤ x ∧ x ≤ 8000 ∧ x ≠ 0) (hs : stepOk f.vars ((f.cls.length + before.length : Nat) : Int) s = true) :
    justP (clauseAt f.cls before) (negs s.lits) s.hints = justR (clauseAt f.cls before) (negs s.lits) s.hints := by
  obtain ⟨hv1, hv2⟩ := validC_iff.1 hv
  simp only [stepOk, Bool.and_eq_true] at hs
  refine justP_eq (cons_negs (v := f.vars) (litsFrom_range hw hs.1) (by omega) (litsFrom_iff.1 hs.1).2.1) fun h _ x hx => ?_
  have := clauseAt_all (cls := f.cls) (l := before) (p := fun c => ∀ x ∈ c, x ≠ 0) (fun x hx => by cases hx) (fun c hc x hx => (hv2 c hc x hx).1) (fun t ht x hx => (hb t ht x hx).2.2) h.toNat
  exact this x hx
theorem justP_congr {cl cl' : Nat → List Int} : ∀ {hints T : List Int}, (∀ h ∈ hints, cl h.toNat = cl' h.toNat) → justP cl T hints = justP cl' T hints
  | [], _, _ => rfl
  | [h], T, hc => by rw [justP, justP, hc h (by simp)]
  | h :: y :: r, T, hc => by
    rw [justP_two, justP_two, hc h (by simp), justP_congr (hints := y :: r) fun x hx => hc x (by simp [hx])]
end Go.Proofs.Ytpmjdaiboniagaa
