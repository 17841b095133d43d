/- CheckerRenaming: the plain law. -/
import Derived.Test.YtpmjdaiboniagaaC23
set_option linter.unusedSimpArgs false
set_option linter.unusedVariables false
set_option maxRecDepth 100000
namespace Go.Proofs.Ytpmjdaiboniagaa
open Go Go.Ab

theorem renI_abs {V b : Nat} {inv : List Bool} {x : Int} : (renI V b inv x).natAbs = (x.natAbs - 1 + b) % V + 1 := by
  unfold renI
  split <;> omega
theorem renI_neg {V b : Nat} {inv : List Bool} {x : Int} (hx : x ≠ 0) : renI V b inv (-x) = -renI V b inv x := by
  unfold renI
  have e1 : (-x).natAbs = x.natAbs := by omega
  have e2 : decide (-x < 0) = !decide (x < 0) := by
    rcases Int.lt_or_gt_of_ne hx with h | h
    · rw [decide_eq_false (show ¬ -x < 0 by omega), decide_eq_true h]; rfl
    · rw [decide_eq_true (show -x < 0 by omega), decide_eq_false (show ¬ x < 0 by omega)]; rfl
  rw [e1, e2]
  cases decide (x < 0) <;> cases inv.getD (x.natAbs - 1) false <;> simp
theorem mod_inj {V b v w : Nat} (hv : v < V) (hw : w < V) (h : (v + b) % V = (w + b) % V) : v = w := by
  have h1 : (v + b) % V = (v + b % V) % V := by rw [Nat.add_mod_mod]
  have h2 : (w + b) % V = (w + b % V) % V := by rw [Nat.add_mod_mod]
  rw [h1, h2] at h
  have hb : b % V < V := Nat.mod_lt _ (by omega)
  generalize b % V = c at h hb
  have k : ∀ u, u < V → (u + c) % V = if u + c < V then u + c else u + c - V := fun u hu => by
    split
    · exact Nat.mod_eq_of_lt (by assumption)
    · rw [Nat.mod_eq_sub_mod (by omega), Nat.mod_eq_of_lt (by omega)]
  rw [k v hv, k w hw] at h
  split at h <;> split at h <;> omega
theorem nam_ren {V b : Nat} (hV : 1 ≤ V) (inv : List Bool) : Nam V (renI V b inv) := by
  have hnz : ∀ x, renI V b inv x ≠ 0 := fun x h => by have := renI_abs (V := V) (b := b) (inv := inv) (x := x); rw [h] at this; simp at this
  refine ⟨fun x y hx hy h1 h2 h3 h4 h => ?_, fun x hx _ _ => renI_neg hx, fun x _ _ _ => hnz x⟩
  have ha := renI_abs (V := V) (b := b) (inv := inv) (x := x)
  rw [h, renI_abs] at ha
  have := mod_inj (V := V) (b := b) (v := y.natAbs - 1) (w := x.natAbs - 1) (by omega) (by omega) (by omega)
  have habs : x.natAbs = y.natAbs := by omega
  by_cases hxy : x = y
  · exact hxy
  · have e : x = -y := by omega
    rw [e, renI_neg hy] at h
    exact absurd (by omega) (hnz y)
def renF (V b : Nat) (inv : List Bool) (f : Cnf) : Cnf := ⟨f.vars, f.cls.map fun c => c.map (renI V b inv)⟩
def renS (V b : Nat) (inv : List Bool) (s : Stp) : Stp := ⟨s.lits.map (renI V b inv), s.hints⟩
theorem img_map (φ : Int → Int) (c : List Int) : Img φ c (c.map φ) := fun y => by simp [List.mem_map]
theorem renI_range {V b : Nat} (hV : 1 ≤ V) (inv : List Bool) (x : Int) : renI V b inv x ≠ 0 ∧ renI V b inv x ≤ V ∧ -(V : Int) ≤ renI V b inv x := by
  have ha := renI_abs (V := V) (b := b) (inv := inv) (x := x)
  have := Nat.mod_lt (x.natAbs - 1 + b) (show V > 0 by omega)
  omega
theorem litsOK_iff {v : Int} {l : List Stp} (hv : 0 ≤ v ∧ v ≤ 8000) : litsOK v l = true ↔ ∀ s ∈ l, ∀ x ∈ s.lits, x ≠ 0 ∧ x ≤ v ∧ -v ≤ x := by
  simp only [litsOK, List.all_eq_true, validC_iff, List.mem_cons, List.not_mem_nil, or_false, List.length_cons, List.length_nil]
  exact ⟨fun h s hs => (h s hs).2 s.lits rfl, fun h s hs => ⟨⟨hv.1, hv.2, by omega⟩, fun c hc => hc ▸ h s hs⟩⟩
theorem lits_ren {V b : Nat} (hV : 1 ≤ V ∧ V ≤ 8000) (inv : List Bool) {l : List Int} (hl : ∀ x ∈ l, x ≠ 0 ∧ x ≤ V ∧ -(V : Int) ≤ x) : litsFrom V [] (l.map (renI V b inv)) = litsFrom V [] l := by
  rw [Bool.eq_iff_iff, litsFrom_iff, litsFrom_iff]
  have h1 : ∀ x ∈ l, 1 ≤ absI x ∧ absI x ≤ V := fun x hx => by have := hl x hx; rw [absI_of (by omega)]; omega
  have h2 : ∀ y ∈ l.map (renI V b inv), 1 ≤ absI y ∧ absI y ≤ V := fun y hy => by
    obtain ⟨x, _, rfl⟩ := List.mem_map.1 hy
    have := renI_range (b := b) hV.1 inv x
    rw [absI_of (by omega)]; omega
  have h3 : ((l.map (renI V b inv)).map absI).Nodup ↔ (l.map absI).Nodup := by
    rw [List.map_map]
    show List.Pairwise (· ≠ ·) _ ↔ List.Pairwise (· ≠ ·) _
    rw [List.pairwise_map, List.pairwise_map]
    refine List.Pairwise.iff_of_mem fun {x y} hx hy => ?_
    have hx' := hl x hx
    have hy' := hl y hy
    have hx2 := renI_range (b := b) hV.1 inv x
    have hy2 := renI_range (b := b) hV.1 inv y
    simp only [Function.comp, ne_eq]
    rw [absI_of (by omega), absI_of (by omega), absI_of (by omega), absI_of (by omega), renI_abs, renI_abs]
    refine not_congr ⟨fun h => ?_, fun h => ?_⟩
    · have := mod_inj (V := V) (b := b) (v := x.natAbs - 1) (w := y.natAbs - 1) (by omega) (by omega) (by omega)
      omega
    · rw [show x.natAbs = y.natAbs by omega]
  simp only [h3]
  exact ⟨fun h => ⟨h1, h.2.1, fun _ _ _ hy => by cases hy⟩, fun h => ⟨h2, h.2.1, fun _ _ _ hy => by cases hy⟩⟩
theorem valid_ren {V b : Nat} (hV : 1 ≤ V ∧ V ≤ 8000) (inv : List Bool) {f : Cnf} (hf : f.vars = V) (h : validC f = true) : validC (renF V b inv f) = true := by
  obtain ⟨h1, h2⟩ := validC_iff.1 h
  refine validC_iff.2 ⟨by simpa [renF] using h1, fun c hc x hx => ?_⟩
  simp only [renF, List.mem_map] at hc
  obtain ⟨d, hd, rfl⟩ := hc
  obtain ⟨y, _, rfl⟩ := List.mem_map.1 hx
  simp only [renF, hf]
  exact renI_range hV.1 inv y
theorem ren_eq {V b : Nat} (hV : 1 ≤ V ∧ V ≤ 8000) (inv : List Bool) {f : Cnf} {l : List Stp} (hf : f.vars = V) (hl : l.length ≤ 20000) (hv : validC f = true) (hw : ∀ s ∈ l, ∀ x ∈ s.lits, I64 x) (hx : ∀ s ∈ l, ∀ x ∈ s.lits, x ≠ 0 ∧ x ≤ V ∧ -(V : Int) ≤ x) :
    chk (goodR (renF V b inv f)) (renF V b inv f) (l.map (renS V b inv)) = chk (goodR f) f l := by
  rw [chk, chk, valid_ren hV inv hf hv, hv, List.length_map]
  rw [if_neg (by simp), if_neg (by omega), if_neg (by simp), if_neg (by omega)]
  have := chk_eq (good := goodR f) (good' := goodR (renF V b inv f)) (l := l) (l' := l.map (renS V b inv)) (by simp) (k := 0) rfl fun i _ hi hg => ?_
  · simpa using this.symm
  have hg' : ∀ j, j < i → goodR f (l.take j) (l.getD j stp0) = true := fun j hj => hg j hj (by omega)
  rw [← List.map_take, getD_map (f := renS V b inv) (a := stp0) (b := stp0) rfl]
  have hmem := getD_mem stp0 hi
  obtain ⟨s, hse⟩ : ∃ s, l.getD i stp0 = s := ⟨_, rfl⟩
  rw [hse] at hmem ⊢
  refine good_sim (V := f.vars) (φ := renI V b inv) (g := fun x => x) (hf ▸ nam_ren hV.1 inv) ?_ fun hok => ⟨?_, ?_, ?_, fun h hh => ⟨clause_inV (by omega) hv hw hg' _, ?_⟩⟩
  · simp only [stepOk, renF, renS, List.length_map, hf]
    rw [lits_ren hV inv (hx s hmem)]
  · intro x hx'
    have := hx s hmem x hx'
    omega
  · exact img_map _ _
  · simp [renS]
  · have e : clauseAt (renF V b inv f).cls ((l.take i).map (renS V b inv)) h.toNat = (clauseAt f.cls (l.take i) h.toNat).map (renI V b inv) := by
      simp only [renF]
      rw [clauseAt_map rfl rfl, clauseAt]
      split <;> rfl
    rw [e]
    exact img_map _ _
theorem ren_refutes {V b : Nat} {inv : List Bool} {q : Int × Int} {l : List Stp} : refutes q (l.map (renS V b inv)) = refutes q l := by
  simp only [refutes, List.length_map]
  rw [getD_map (f := renS V b inv) (a := (⟨[], []⟩ : Stp)) (b := (⟨[], []⟩ : Stp)) rfl]
  simp [renS]
end Go.Proofs.Ytpmjdaiboniagaa
