/- The operations that make or write memory: that they do what is said. -/
import Derived.Test.YtmjlhbkgljcnoaaGreatDoorAbWrite
namespace Go.Ab
open Go Go.RowKit

def Does (P : Program) (G : Glob) (ρ : Ren) (w : World) (s : Sem Value) (k : Prop → A → St → Prop) : Prop :=
  ∃ p a σ', k p a σ' ∧ (p → ∃ v ρ' w', s.run P w = .ok v w' ∧ Ext ρ w ρ' w' ∧ Inv G ρ' σ' w' ∧ RepA ρ' w' a v)

section
variable {P : Program} {ρ ρ' : Ren} {w w' : World} {σ : St} {G : Glob}

theorem rep_ofV (ρ : Ren) (w : World) (u : Value) : RepA ρ w (ofV u) u := by
  unfold ofV
  split <;> first | exact .d (by constructor) | exact .any _
theorem rep_constA (ρ : Ren) (w : World) (u : Value) : RepA ρ w (constA u) u := by
  unfold constA
  split
  · rename_i cs
    split
    · rename_i ds hds
      split
      · rename_i hone
        have e := toDs_spec hds
        have hlen : ds.length = cs.toList.length := by
          have := congrArg List.length e
          simpa using this.symm
        have h := RepD.agg (w := w) (m := M ρ) ds cs.toList hlen (fun i x hx => List.all_eq_true.1 hone x (List.mem_of_getElem? hx)) fun i x v hx hv => by
          have h1 : (cs.toList.map ofV)[i]? = some (.d x) := by rw [e, List.getElem?_map, hx]; rfl
          rw [List.getElem?_map, hv] at h1
          have h2 := rep_ofV ρ w v
          have h3 : ofV v = .d x := by simpa using h1
          rw [h3] at h2
          cases h2 with
          | d h2 => exact h2
        rw [Array.toArray_toList] at h
        exact .d h
      · exact .any _
    · exact .any _
  · exact rep_ofV _ _ _
theorem one_ofV {u : Value} (h : oneA [] (ofV u) = true) : u.oneCell' = true := by
  unfold ofV at h
  split at h <;> first | rfl | simp [oneA] at h
theorem run_newVar (t : TypeId) (v : Value) (vs : List Value) (h : v.cells = vs.toArray) :
    (newVar t v).run P w = .ok ⟨w.heap.size, 0, none⟩ (w.alloc (.cells vs.toArray t)) := by
  simp [newVar, newRow, h]
theorem newCells (hI : Inv G ρ σ w) {cs : List A} {vs : List Value} (e : TypeId) (hbd : bdL σ.length cs = true) (hl : cs.length ≤ vs.length) (h1 : ∀ u ∈ vs, u.oneCell' = true)
    (hr : ∀ (i : Nat) (x : A) (u : Value), cs[i]? = some x → vs[i]? = some u → RepA ρ w x u) :
    Ext ρ w (ρ ++ [.live w.heap.size]) (w.alloc (.cells vs.toArray e)) ∧ Inv G (ρ ++ [.live w.heap.size]) (σ ++ [some (.cells cs)]) (w.alloc (.cells vs.toArray e)) :=
  hI.push (bdL_mono (Nat.le_succ _) cs hbd) (fun ρ' w' hx hb => ⟨vs.toArray, e, hb, by simpa using hl, fun i x hx' => by
    have hi : i < vs.length := by have := (List.getElem?_eq_some_iff.1 hx').1; omega
    exact ⟨vs[i], by simp [hi], h1 _ (List.getElem_mem hi), (hr i x _ hx' (List.getElem?_eq_getElem hi)).ext hx⟩⟩) (fun ds h => by cases h)
theorem zeroA_spec {t : TypeId} {zs : List A} (h : zeroA P t = some zs) : ∃ i z, P.info? t = some i ∧ i.zero = some z ∧ zs = z.cells.toList.map ofV := by
  unfold zeroA at h
  split at h
  · rename_i i hi
    split at h
    · rename_i z hz; injection h with h; exact ⟨i, z, hi, hz, h.symm⟩
    · cases h
  · cases h
theorem zero_reps {z : Value} (h : (z.cells.toList.map ofV).all (oneA []) = true) : (∀ u ∈ z.cells.toList, u.oneCell' = true) ∧
    ∀ (i : Nat) (x : A) (u : Value), (z.cells.toList.map ofV)[i]? = some x → z.cells.toList[i]? = some u → RepA ρ w x u := by
  refine ⟨fun u hu => one_ofV ?_, fun i x u hx hu => ?_⟩
  · simp only [List.all_map, List.all_eq_true, Function.comp] at h
    exact h u hu
  · simp only [List.getElem?_map, hu, Option.map_some, Option.some.injEq] at hx
    subst hx
    exact rep_ofV _ _ _
theorem ofV_bd (n : Nat) (u : Value) : (ofV u).bd n = true := by
  unfold ofV
  split <;> rfl
theorem map_ofV_bd (n : Nat) (l : List Value) : bdL n (l.map ofV) = true := bdL_of fun x hx => by
  obtain ⟨u, _, rfl⟩ := List.mem_map.1 hx
  exact ofV_bd n u
theorem live_new (hI : Inv G ρ σ w) (b : Nat) : (ρ ++ [Rs.live b])[σ.length]? = some (.live b) := by rw [← hI.len]; exact getElem?_snoc_eq

theorem wrAlloc_sound {t : TypeId} {k : Prop → A → St → Prop} (hI : Inv G ρ σ w) (h : wrAlloc P σ t k) : Does P G ρ w (Instr.alloc t true (.tuple #[])) k := by
  unfold wrAlloc at h
  split at h
  · rename_i zs hz
    obtain ⟨i, z, hi, hz', rfl⟩ := zeroA_spec hz
    refine ⟨_, _, _, h, fun hp => ?_⟩
    obtain ⟨h1, h2⟩ := zero_reps (ρ := ρ) (w := w) hp
    obtain ⟨hx, hI'⟩ := newCells hI (cs := z.cells.toList.map ofV) (vs := z.cells.toList) t (map_ofV_bd _ _) (by simp) h1 h2
    refine ⟨.pointer (some ⟨w.heap.size, 0, none⟩), _, _, ?_, hx, hI', .ref 0 (live_new hI _)⟩
    simp [Instr.alloc, zeroValue, typeInfo, hi, hz', run_newVar (P := P) (w := w) t z z.cells.toList (by simp)]
  · exact h.elim
theorem wrBox_sound {t : TypeId} {a : A} {v : Value} {k : Prop → A → St → Prop} (hI : Inv G ρ σ w) (ha : RepA ρ w a v) (h : wrBox σ a k) : Does P G ρ w (Instr.box t v) k := by
  refine ⟨_, _, _, h, fun hp => ?_⟩
  obtain ⟨vs, e, hl, h1, h2⟩ := cells_rep hI ha hp
  obtain ⟨hx, hI'⟩ := newCells hI (cs := a.cells) (vs := vs) t (bd_cells hp) (by omega) h1 h2
  refine ⟨.pointer (some ⟨w.heap.size, 0, none⟩), _, _, ?_, hx, hI', .ref 0 (live_new hI _)⟩
  simp [Instr.box, run_newVar (P := P) (w := w) t v vs e]

theorem obj_live (hI : Inv G ρ σ w) {id : Nat} {cs : List A} (h : σ[id]? = some (some (.cells cs))) :
    (∃ b vs e, ρ[id]? = some (.live b) ∧ w.heap[b]? = some (.cells vs e (0, 0)) ∧ cs.length ≤ vs.size ∧ ∀ (i : Nat) (x : A), cs[i]? = some x → ∃ v, vs[i]? = some v ∧ v.oneCell' = true ∧ RepA ρ w x v) ∨
    (ρ[id]? = some .empty ∧ cs = []) := by
  rcases hI.obj _ _ h with ⟨b, h1, vs, e, h2, h3, h4⟩ | ⟨h1, h2⟩
  · exact .inl ⟨b, vs, e, h1, h2, h3, h4⟩
  · injection h2 with h2; exact .inr ⟨h1, h2⟩
theorem live_of {id : Nat} {o : Ob} (h : σ[id]? = some (some o)) : liveId σ id = true := by simp [liveId, h]

/-- New cells in the midst of old ones. -/
theorem splice_reps {cs new : List A} {vs us : List Value} {off : Nat} (hl : new.length = us.length) (hoff : off + new.length ≤ cs.length) (hv : cs.length ≤ vs.length)
    (h1 : ∀ u ∈ us, u.oneCell' = true) (hn : ∀ (i : Nat) (x : A) (u : Value), new[i]? = some x → us[i]? = some u → RepA ρ w x u)
    (hc : ∀ (i : Nat) (x : A), cs[i]? = some x → ∃ v, vs[i]? = some v ∧ v.oneCell' = true ∧ RepA ρ w x v) :
    ∀ (i : Nat) (x : A), (cs.take off ++ new ++ cs.drop (off + new.length))[i]? = some x → ∃ v, (vs.take off ++ us ++ vs.drop (off + us.length))[i]? = some v ∧ v.oneCell' = true ∧ RepA ρ w x v := by
  intro i x hx
  by_cases c1 : i < off
  · rw [List.append_assoc, List.getElem?_append_left (by simp; omega), List.getElem?_take_of_lt c1] at hx
    rw [List.append_assoc, List.getElem?_append_left (by simp; omega), List.getElem?_take_of_lt c1]
    exact hc i x hx
  · by_cases c2 : i < off + new.length
    · rw [List.append_assoc, List.getElem?_append_right (by simp; omega), List.getElem?_append_left (by simp; omega)] at hx
      rw [List.append_assoc, List.getElem?_append_right (by simp; omega), List.getElem?_append_left (by simp; omega)]
      have e1 : i - (cs.take off).length = i - off := by simp; omega
      have e2 : i - (vs.take off).length = i - off := by simp; omega
      rw [e1] at hx; rw [e2]
      have hlt : i - off < us.length := by omega
      exact ⟨us[i - off], List.getElem?_eq_getElem hlt, h1 _ (List.getElem_mem hlt), hn _ x _ hx (List.getElem?_eq_getElem hlt)⟩
    · rw [List.append_assoc, List.getElem?_append_right (by simp; omega), List.getElem?_append_right (by simp; omega), List.getElem?_drop] at hx
      rw [List.append_assoc, List.getElem?_append_right (by simp; omega), List.getElem?_append_right (by simp; omega), List.getElem?_drop]
      have e1 : off + new.length + (i - (cs.take off).length - new.length) = i := by simp; omega
      have e2 : off + us.length + (i - (vs.take off).length - us.length) = i := by simp; omega
      rw [e1] at hx; rw [e2]
      exact hc i x hx

theorem wrStore_sound {t : TypeId} {a x : A} {u v : Value} {k : Prop → A → St → Prop} (hI : Inv G ρ σ w) (ha : RepA ρ w a u) (hx : RepA ρ w x v) (h : wrStore P σ t a x k) :
    Does P G ρ w (do Instr.storeAt t u v; pure undef) k := by
  unfold wrStore at h
  split at h
  · rename_i id off
    split at h
    · rename_i cs hσ
      refine ⟨_, _, _, h, fun ⟨p1, p2, p3, p4⟩ => ?_⟩
      obtain ⟨us, e, hl, h1, h2⟩ := cells_rep hI hx p1
      obtain ⟨i, hi⟩ := Option.isSome_iff_exists.1 p3
      rcases obj_live hI hσ with ⟨b, vs, et, hb, hh, hlen, hcs⟩ | ⟨he, _⟩
      case inr => exact (ref_not_empty ha he).elim
      obtain rfl := ref_live ha hb
      have hw := hI.write (vs' := (vs.toList.take off ++ us ++ vs.toList.drop (off + us.length)).toArray) (cs := cs.take off ++ x.cells ++ cs.drop (off + x.cells.length)) hb hh rfl (by simp; omega) (bdL_of fun y hy => by
          have hold : bdL σ.length cs = true := hI.bd id _ hσ
          simp only [List.mem_append] at hy
          rcases hy with (hy | hy) | hy
          · exact bdL_mem hold y (List.mem_of_mem_take hy)
          · exact bdL_mem (bd_cells p1) y hy
          · exact bdL_mem hold y (List.mem_of_mem_drop hy)) (by simp; omega)
        (fun i y hy => by simpa using splice_reps hl p4 (by simpa using hlen) h1 h2 (fun i x hx => by simpa using hcs i x hx) i y hy)
      have hst := run_storeCells_at P b off et us 0 vs w hh (by omega) h1
      simp only [Nat.add_zero] at hst
      refine ⟨undef, _, _, ?_, hw.1, hw.2, .any _⟩
      have hsz : us.length = P.cellsOf t := by omega
      simp [Instr.storeAt, Instr.sureAddr, storeVar, e, run_sizeOf_of hi, hsz, hst]
    · exact h.elim
  · exact h.elim
end
end Go.Ab
