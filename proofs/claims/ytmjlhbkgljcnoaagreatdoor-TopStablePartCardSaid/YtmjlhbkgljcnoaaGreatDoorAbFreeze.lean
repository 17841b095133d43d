/- A struct of one's own becomes data at once. -/
import Derived.Test.YtmjlhbkgljcnoaaGreatDoorAbPure
set_option linter.unusedSimpArgs false
set_option linter.unusedVariables false
namespace Go.Ab
open Go Go.RowKit
def refA (id : Nat) (ds : List D) : A → A
  | .ref i off => bif i == id then .ea (.agg ds) off else .ref i off
  | a => a
section
variable {G : Glob} {σ : St}
theorem Weak.freezeRef {n0 : Nat} {fr : Fr} (id : Nat) (ds : List D) (hσ : σ[id]? = some (some (.cells (ds.map .d)))) (h1 : ∀ d ∈ ds, d.one = true) : Weak G n0 fr σ (fr.map (refA id ds)) (σ.set id none) := fun ρ0 w0 ρ w vs h0 hx hI hr => by
  obtain ⟨hk, hI'⟩ := hI.kill id
  refine ⟨ρ.set id .dead, hx.trans hk, hI', by simpa using hr.1, fun i x v hx' hv => ?_⟩
  simp only [List.getElem?_map, Option.map_eq_some_iff] at hx'
  obtain ⟨y, hy, rfl⟩ := hx'
  have hrep := hr.2 i y v hy hv
  unfold refA
  split
  · rename_i j off
    cases he : (j == id) with
    | false => exact hrep.ext hk
    | true =>
      have : j = id := by simpa using he
      subst this
      rw [cond_true]
      obtain ⟨b, hb, rfl⟩ := ref_at hI (live_of hσ) hrep
      rcases hI.obj j _ hσ with ⟨b', g1, us, e, g2, g3, g4⟩ | ⟨g1, g2⟩
      · rw [hb] at g1; injection g1 with g1; injection g1 with g1; subst g1
        have hnm : ¬ M (ρ.set j .dead) b := fun ⟨i, hi⟩ => by
          rw [List.getElem?_set] at hi
          split at hi
          · split at hi
            · injection hi with hi; cases hi
            · cases hi
          · rename_i hne; exact hne (hI.inj j i b hb hi)
        have := RepA.ea (ρ := ρ.set j .dead) (w := w) (.agg ds) off b 0 (fun i => us.toList.getD i undef) hnm (hI.lt j b hb) (fun k y hy => h1 y (List.mem_of_getElem? hy)) (fun k y hy => by
          obtain ⟨u, b1, b2, b3⟩ := g4 k (.d y) (by rw [List.getElem?_map]; simp only [D.cells] at hy; rw [hy]; rfl)
          rw [Nat.zero_add, cell_of_heap g2, b1]
          simp [List.getD, b1]) (fun k y hy => by
          obtain ⟨u, b1, b2, b3⟩ := g4 k (.d y) (by rw [List.getElem?_map]; simp only [D.cells] at hy; rw [hy]; rfl)
          cases b3 with
          | d b3 =>
            have := b3.ext hk
            simp only [List.getD, Array.getElem?_toList, b1, Option.getD_some]
            exact this)
        simpa using this
      · rw [hb] at g1; cases g1
  · exact hrep.ext hk
/-- A call, a struct of one's own read as data. -/
theorem ac_ref {P : Program} {f : FuncId} {args : List A} {l : St} {R : A → St → Prop} (j : Nat) (ds : List D) (hσ : l[j]? = some (some (.cells (ds.map .d)))) (h1 : ∀ d ∈ ds, d.one = true)
    (h : AC P G f (args.map (refA (σ.length + j) ds)) (σ ++ l.set j none) R) : AC P G f args (σ ++ l) R := by
  have hk : (σ ++ l)[σ.length + j]? = some (some (.cells (ds.map .d))) := by rw [List.getElem?_append_right (by omega), Nat.add_sub_cancel_left]; exact hσ
  have := Weak.freezeRef (G := G) (n0 := (σ ++ l).length) (fr := args) (σ.length + j) ds hk h1
  rw [set_app] at this
  exact ac_weak this h
end
end Go.Ab
