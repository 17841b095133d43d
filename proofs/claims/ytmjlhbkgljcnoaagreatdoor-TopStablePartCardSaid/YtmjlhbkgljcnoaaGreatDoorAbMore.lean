/- Objects that hold others: a slice in a cell becomes data, a nil slice in a cell becomes an object. -/
import Derived.Test.YtmjlhbkgljcnoaaGreatDoorAbMapS
set_option linter.unusedSimpArgs false
namespace Go.Ab
open Go
section
variable {ρ ρ' : Ren} {w w' : World} {σ : St} {G : Glob} {n0 : Nat}
/-- An object's cells, read anew. -/
theorem Inv.recell (hI : Inv G ρ σ w) {i : Nat} {ds ds' : List A} (hi : σ[i]? = some (some (.cells ds))) (hl : ds'.length ≤ ds.length) (hbd : bdL σ.length ds' = true)
    (hr : ∀ (j : Nat) (x x' : A) (v : Value), ds[j]? = some x → ds'[j]? = some x' → RepA ρ w x v → RepA ρ w x' v) : Inv G ρ (σ.set i (some (.cells ds'))) w := by
  refine ⟨by rw [hI.len, List.length_set], hI.inj, hI.lt, fun id o ho => ?_, hI.glob, ?_, hI.own⟩
  · rw [List.getElem?_set] at ho
    split at ho
    · rename_i e
      split at ho
      · injection ho with ho; injection ho with ho; subst ho
        subst e
        rcases hI.obj _ _ hi with ⟨b, h1, u, et, h2, h3, h4⟩ | ⟨h1, h2⟩
        · refine .inl ⟨b, h1, u, et, h2, by omega, fun k x hx' => ?_⟩
          have hk : k < ds.length := by have := (List.getElem?_eq_some_iff.1 hx').1; omega
          obtain ⟨v, a1, a2, a3⟩ := h4 k ds[k] (List.getElem?_eq_getElem hk)
          exact ⟨v, a1, a2, hr k _ x v (List.getElem?_eq_getElem hk) hx' a3⟩
        · injection h2 with h2; subst h2
          have : ds' = [] := List.eq_nil_of_length_eq_zero (by simpa using hl)
          subst this
          exact .inr ⟨h1, rfl⟩
      · cases ho
    · exact hI.obj id o ho
  · rw [List.length_set]
    refine hI.bd.set _ fun o ho => ?_
    injection ho with ho; subst ho
    exact hbd
mutual
theorem bd_frz {id sz off n : Nat} {xs : List D} : ∀ (a : A), a.bd n = true → (a.frz id sz off xs).bd n = true
  | .rs i s o l ow, h => by
    unfold A.frz
    split
    · rfl
    · exact h
  | .agg cs, h => by
    unfold A.frz
    simp only [A.bd] at h
    have := bd_frzL (id := id) (sz := sz) (off := off) (xs := xs) cs h
    unfold mkAgg
    split
    · rfl
    · simpa only [A.bd] using this
  | .tup cs, h => by unfold A.frz; simp only [A.bd] at h ⊢; exact bd_frzL cs h
  | .ifc t a, h => by unfold A.frz; simp only [A.bd] at h ⊢; exact bd_frz a h
  | .d x, h => h
  | .ea x o, h => h
  | .ref i o, h => h
  | .fn f cs ds, h => h
  | .mapr i, h => h
  | .grd c a, h => h
  | .any, h => h
theorem bd_frzL {id sz off n : Nat} {xs : List D} : ∀ (l : List A), bdL n l = true → bdL n (frzL id sz off xs l) = true
  | [], _ => rfl
  | a :: l, h => by
    simp only [frzL, bdL, Bool.and_eq_true] at h ⊢
    exact ⟨bd_frz a h.1, bd_frzL l h.2⟩
end
theorem freeze_sl (hI : Inv G ρ σ w) {id sz off : Nat} {xs : List D} {cs : List A} (hσ : σ[id]? = some (some (.cells cs))) (hl : Lies cs sz off xs) :
    ∀ ow v, RepA ρ w (.rs id sz off xs.length ow) v → RepA (ρ.set id .dead) w (.d (.sl sz xs)) v := fun ow v hv => by
  obtain ⟨hk, hI'⟩ := hI.kill id
  rcases rs_at hI (live_of hσ) hv with ⟨b, cap, us, e, z, h1, rfl, h3, h4, h5, -⟩ | ⟨h1, h2, h3, rfl⟩
  · cases xs with
    | nil => exact .d (.sl0 sz _ cap)
    | cons x0 xt =>
      rcases hI.obj id _ hσ with ⟨b', g1, us', e', g2, g3, g4⟩ | ⟨g1, g2⟩
      · rw [h1] at g1; injection g1 with g1; injection g1 with g1; subst g1
        rw [h3] at g2; injection g2 with g2; injection g2 with g2 g2' g2''; subst g2
        have hnm : ¬ M (ρ.set id .dead) b := fun ⟨i, hi⟩ => by
          rw [List.getElem?_set] at hi
          split at hi
          · split at hi
            · injection hi with hi; cases hi
            · cases hi
          · rename_i hne; exact hne (hI.inj id i b h1 hi)
        refine .d (.sl sz _ b off cap (fun i j => us.toList.getD (off + i * sz + j) undef) hnm (hI.lt id b h1) h4 hl.1 (fun i x j y a1 a2 => (hl.2 i x j y a1 a2).2) (fun i x j y a1 a2 => ?_) (fun i x j y a1 a2 => ?_))
        · obtain ⟨u, b1, b2, b3⟩ := g4 _ _ (hl.2 i x j y a1 a2).1
          rw [cell_of_heap h3, b1]
          simp [List.getD, b1]
        · obtain ⟨u, b1, b2, b3⟩ := g4 _ _ (hl.2 i x j y a1 a2).1
          cases b3 with
          | d b3 =>
            have := b3.ext hk
            simp only [List.getD, Array.getElem?_toList, b1, Option.getD_some]
            exact this
      · rw [h1] at g1; cases g1
  · cases xs with
    | nil => exact .d (.sl0 sz none 0)
    | cons => simp at h3
/-- A slice that an object holds becomes data. -/
theorem Weak.freezeIn {fr : Fr} {l : St} (j i sz off : Nat) (xs : List D) {cs ds : List A} (hj : l[j]? = some (some (.cells cs))) (hl : Lies cs sz off xs) (hi : l[i]? = some (some (.cells ds))) (hij : j ≠ i) :
    Weak G n0 fr (σ ++ l) (frzL (σ.length + j) sz off xs fr) (σ ++ (l.set j none).set i (some (.cells (frzL (σ.length + j) sz off xs ds)))) := fun ρ0 w0 ρ w vs h0 hx hI hr => by
  have hk : (σ ++ l)[σ.length + j]? = some (some (.cells cs)) := by rw [List.getElem?_append_right (by omega), Nat.add_sub_cancel_left]; exact hj
  have hki : (σ ++ l)[σ.length + i]? = some (some (.cells ds)) := by rw [List.getElem?_append_right (by omega), Nat.add_sub_cancel_left]; exact hi
  obtain ⟨hE, hI'⟩ := hI.kill (σ.length + j)
  have hs := freeze_sl hI hk hl
  refine ⟨ρ.set (σ.length + j) .dead, hx.trans hE, ?_, rep_frzL hE hs fr vs hr⟩
  have hki' : ((σ ++ l).set (σ.length + j) none)[σ.length + i]? = some (some (.cells ds)) := by rw [List.getElem?_set, if_neg (by omega)]; exact hki
  rw [← set_app (σ := σ) (l := l.set j none) i, ← set_app (σ := σ) (l := l) j]
  -- the holder's cells as they were
  rcases hI.obj _ _ hki with ⟨b, h1, u, et, h2, h3, h4⟩ | ⟨h1, h2⟩
  · refine ⟨by rw [hI'.len, List.length_set (as := (σ ++ l).set (σ.length + j) none)], hI'.inj, hI'.lt, fun id o ho => ?_, hI'.glob, ?_, hI'.own⟩
    · rw [List.getElem?_set] at ho
      split at ho
      · rename_i e
        split at ho
        · injection ho with ho; injection ho with ho; subst ho
          subst e
          refine .inl ⟨b, by rw [List.getElem?_set, if_neg (by omega)]; exact h1, u, et, h2, by rw [frzL_eq, List.length_map]; exact h3, fun k x hx' => ?_⟩
          rw [frzL_eq, List.getElem?_map, Option.map_eq_some_iff] at hx'
          obtain ⟨y, hy, rfl⟩ := hx'
          obtain ⟨v, a1, a2, a3⟩ := h4 k y hy
          exact ⟨v, a1, a2, rep_frz hE hs y v a3⟩
        · cases ho
      · exact hI'.obj id o ho
    · rw [List.length_set]
      refine hI'.bd.set _ fun o ho => ?_
      injection ho with ho; subst ho
      exact bd_frzL ds (hI'.bd _ _ hki')
  · injection h2 with h2; subst h2
    have hself : ((σ ++ l).set (σ.length + j) none).set (σ.length + i) (some (.cells (frzL (σ.length + j) sz off xs []))) = (σ ++ l).set (σ.length + j) none := by
      apply List.ext_getElem?
      intro k
      rw [List.getElem?_set]
      split
      · rename_i e; subst e
        rw [hki']
        split
        · rfl
        · rename_i hlt; exact (hlt (List.getElem?_eq_some_iff.1 hki').1).elim
      · rfl
    rw [hself]; exact hI'
/-- A nil slice that an object holds becomes an object of one's own, empty. -/
theorem Weak.emptyIn {fr : Fr} {l : St} (i c sz : Nat) (ow : Option TypeId) {ds : List A} (hi : l[i]? = some (some (.cells ds))) (hc : ds[c]? = some (.d .nils)) :
    Weak G n0 fr (σ ++ l) fr (σ ++ (l.set i (some (.cells (ds.set c (.rs (σ.length + l.length) sz 0 0 ow)))) ++ [some (.cells [])])) := fun ρ0 w0 ρ w vs h0 hx hI hr => by
  obtain ⟨h1, h2⟩ := hI.pushEmpty
  have hil : i < l.length := (List.getElem?_eq_some_iff.1 hi).1
  have hki : (σ ++ l ++ [some (Ob.cells [])])[σ.length + i]? = some (some (.cells ds)) := by
    rw [List.getElem?_append_left (by simp; omega), List.getElem?_append_right (by omega), Nat.add_sub_cancel_left]; exact hi
  refine ⟨ρ ++ [.empty], hx.trans h1, ?_, hr.ext h1⟩
  have := h2.recell (ds' := ds.set c (.rs (σ.length + l.length) sz 0 0 ow)) hki (by simp) (bdL_of fun x hx => ?_) (fun j x x' v hj hj' hv => ?_)
  · have e : σ ++ (l.set i (some (.cells (ds.set c (.rs (σ.length + l.length) sz 0 0 ow)))) ++ [some (Ob.cells [])]) = (σ ++ l ++ [some (Ob.cells [])]).set (σ.length + i) (some (.cells (ds.set c (.rs (σ.length + l.length) sz 0 0 ow)))) := by
      rw [List.append_assoc, set_app, List.set_append_left _ _ hil]
    rw [e]; exact this
  · have hold := h2.bd _ _ hki
    obtain ⟨j, hj, rfl⟩ := List.getElem_of_mem hx
    rw [List.getElem_set]
    split
    · simp [A.bd]
    · exact bdL_mem hold _ (List.getElem_mem _)
  · rw [List.getElem?_set] at hj'
    split at hj'
    · rename_i e; subst e
      rw [hc] at hj; injection hj with hj; subst hj
      split at hj'
      · injection hj' with hj'; subst hj'
        cases hv with
        | d hv =>
          cases hv
          refine .rsEmpty sz ow ?_
          have hlen := hI.len
          rw [List.length_append] at hlen
          rw [← hlen]; exact getElem?_snoc_eq
      · cases hj'
    · rw [hj] at hj'; injection hj' with hj'; subst hj'; exact hv
end
end Go.Ab
