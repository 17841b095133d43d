/- The operations that make or write memory, over abstract stores. -/
import Derived.Test.YtmjlhbkgljcnoaaGreatDoorAbRead2
import Derived.Maps.AppendAt
namespace Go.Ab
open Go Go.RowKit

section
variable {P : Program} {ρ ρ' : Ren} {w w' : World} {σ : St} {G : Glob}

theorem ObjRep.keep {o : Ob} {b : Nat} (h : ObjRep ρ w o b) (hx : Ext ρ w ρ' w') (hb : w'.heap[b]? = w.heap[b]?) : ObjRep ρ' w' o b := by
  cases o with
  | cells cs =>
    obtain ⟨vs, e, h1, h2, h3⟩ := h
    exact ⟨vs, e, hb.trans h1, h2, fun i x hx' => let ⟨v, a, b, c⟩ := h3 i x hx'; ⟨v, a, b, c.ext hx⟩⟩
  | map es =>
    obtain ⟨ms, c, h1, h2, h3⟩ := h
    exact ⟨ms, c, hb.trans h1, h2, fun i x m hx' hm => ⟨(h3 i x m hx' hm).1.ext hx, (h3 i x m hx' hm).2.ext hx⟩⟩
  | lp l r fr =>
    obtain ⟨h0, h1, h2⟩ := h
    exact ⟨h0, hb.trans h1, h2.ext hx⟩

theorem getElem?_snoc_lt {α : Type} {l : List α} {x : α} {i : Nat} (h : i < l.length) : (l ++ [x])[i]? = l[i]? := List.getElem?_append_left h
theorem Bd.snoc {n : Nat} {σ : St} {x : Option Ob} (h : Bd n σ) (hx : ∀ o, x = some o → o.bd n = true) : Bd n (σ ++ [x]) := fun id o ho => by
  by_cases hid : id < σ.length
  · rw [List.getElem?_append_left hid] at ho; exact h id o ho
  · rw [List.getElem?_append_right (by omega)] at ho
    have e0 : id - σ.length = 0 := by
      have := (List.getElem?_eq_some_iff.1 ho).1
      simp at this; omega
    rw [e0] at ho
    exact hx o (by simpa using ho)
theorem Bd.mono {n m : Nat} {σ : St} (h : Bd n σ) (hm : n ≤ m) : Bd m σ := fun id o ho => Ob.bd_mono hm o (h id o ho)
theorem Bd.set {n : Nat} {σ : St} {x : Option Ob} (h : Bd n σ) (id : Nat) (hx : ∀ o, x = some o → o.bd n = true) : Bd n (σ.set id x) := fun i o ho => by
  rw [List.getElem?_set] at ho
  split at ho
  · split at ho
    · injection ho with ho; exact hx o ho
    · cases ho
  · exact h i o ho
theorem getElem?_snoc_eq {α : Type} {l : List α} {x : α} : (l ++ [x])[l.length]? = some x := by simp

/-- A NEW BLOCK: the object's number is the next one. -/
theorem Inv.push (hI : Inv G ρ σ w) {ob : Obj} {o : Ob} (hbd : o.bd (σ.length + 1) = true) (ho : ∀ ρ' w', Ext ρ w ρ' w' → w'.heap[w.heap.size]? = some ob → ObjRep ρ' w' o w.heap.size) (hdf : ∀ ds, ob ≠ .deferred ds) :
    Ext ρ w (ρ ++ [.live w.heap.size]) (w.alloc ob) ∧ Inv G (ρ ++ [.live w.heap.size]) (σ ++ [some o]) (w.alloc ob) := by
  have hnew : (w.alloc ob).heap[w.heap.size]? = some ob := heap_alloc_new w _
  have hold : ∀ b, b < w.heap.size → (w.alloc ob).heap[b]? = w.heap[b]? := fun b hb => heap_alloc_old w _ hb
  have hx : Ext ρ w (ρ ++ [.live w.heap.size]) (w.alloc ob) := by
    refine ⟨rfl, rfl, rfl, by simp, by simp, fun id r h => .inl ?_, fun b ⟨id, h⟩ hlt => ?_, fun b hb _ => hold b hb, fun b vs e z h => ⟨vs, ?_, rfl⟩⟩
    · rw [getElem?_snoc_lt (List.getElem?_eq_some_iff.1 h).1]; exact h
    · by_cases hid : id < ρ.length
      · rw [getElem?_snoc_lt hid] at h; exact ⟨id, h⟩
      · rw [List.getElem?_append_right (by omega)] at h
        have : id - ρ.length = 0 := by
          have := (List.getElem?_eq_some_iff.1 h).1
          simp at this; omega
        rw [this] at h
        simp at h
        omega
    · rw [hold b (Array.getElem?_eq_some_iff.1 h).1]; exact h
  refine ⟨hx, ?_, fun i j b hi hj => ?_, fun i b hi => ?_, fun id o' h => ?_, fun g x h => (hI.glob g x h).ext hx, ?_, fun b hb ds he => ?_⟩
  · simp [hI.len]
  · have key : ∀ i, (ρ ++ [Rs.live w.heap.size])[i]? = some (.live b) → (i < ρ.length ∧ ρ[i]? = some (.live b)) ∨ (i = ρ.length ∧ b = w.heap.size) := fun i h => by
      by_cases hid : i < ρ.length
      · rw [getElem?_snoc_lt hid] at h; exact .inl ⟨hid, h⟩
      · rw [List.getElem?_append_right (by omega)] at h
        have e0 : i - ρ.length = 0 := by
          have := (List.getElem?_eq_some_iff.1 h).1
          simp at this; omega
        rw [e0] at h
        simp at h
        exact .inr ⟨by omega, h.symm⟩
    rcases key i hi with ⟨h1, h2⟩ | ⟨h1, h2⟩ <;> rcases key j hj with ⟨h3, h4⟩ | ⟨h3, h4⟩
    · exact hI.inj i j b h2 h4
    · have := hI.lt i b h2; omega
    · have := hI.lt j b h4; omega
    · omega
  · by_cases hid : i < ρ.length
    · rw [getElem?_snoc_lt hid] at hi
      have := hI.lt i b hi
      simp; omega
    · rw [List.getElem?_append_right (by omega)] at hi
      have e0 : i - ρ.length = 0 := by
        have := (List.getElem?_eq_some_iff.1 hi).1
        simp at this; omega
      rw [e0] at hi
      simp at hi
      subst hi
      simp
  · by_cases hid : id < σ.length
    · rw [getElem?_snoc_lt hid] at h
      rcases hI.obj id o' h with ⟨b, h1, h2⟩ | ⟨h1, h2⟩
      · exact .inl ⟨b, by rw [getElem?_snoc_lt (by rw [hI.len]; exact hid)]; exact h1, h2.keep hx (hold b (hI.lt _ _ h1))⟩
      · exact .inr ⟨by rw [getElem?_snoc_lt (by rw [hI.len]; exact hid)]; exact h1, h2⟩
    · rw [List.getElem?_append_right (by omega)] at h
      have e0 : id - σ.length = 0 := by
        have := (List.getElem?_eq_some_iff.1 h).1
        simp at this; omega
      rw [e0] at h
      simp at h
      subst h
      have e1 : id = ρ.length := by rw [hI.len]; omega
      refine .inl ⟨w.heap.size, by rw [e1]; exact getElem?_snoc_eq, ho _ _ hx hnew⟩
  · rw [List.length_append]
    exact (hI.bd.mono (by simp)).snoc fun o' h => by injection h with h; subst h; exact hbd
  · rcases Nat.lt_or_ge b w.heap.size with hlt | hge
    · exact hI.own b (hx.fresh b hb hlt) ds (by rw [← hold b hlt]; exact he)
    · have hlt := (Array.getElem?_eq_some_iff.1 he).1
      have e0 : b = w.heap.size := by simp at hlt; omega
      subst e0
      rw [hnew] at he
      injection he with he
      exact hdf ds he

/-- A BLOCK OF OURS IS WRITTEN: of the same size, of the same kind. -/
theorem Inv.write (hI : Inv G ρ σ w) {id b : Nat} {vs : Array Value} {e : TypeId} {z : Nat × Nat} {vs' : Array Value} {cs : List A} (hid : ρ[id]? = some (.live b)) (hb : w.heap[b]? = some (.cells vs e z)) (hz : z = (0, 0))
    (hsz : vs'.size = vs.size) (hbd : bdL σ.length cs = true) (hl : cs.length ≤ vs'.size) (hcs : ∀ (i : Nat) (x : A), cs[i]? = some x → ∃ v, vs'[i]? = some v ∧ v.oneCell' = true ∧ RepA ρ w x v) :
    Ext ρ w ρ (w.setRow b vs') ∧ Inv G ρ (σ.set id (some (.cells cs))) (w.setRow b vs') := by
  have hnew : (w.setRow b vs').heap[b]? = some (.cells vs' e z) := setRow_heap w b vs vs' e z hb
  have hold : ∀ k, k ≠ b → (w.setRow b vs').heap[k]? = w.heap[k]? := fun k hk => setRow_other w b k _ hk
  have hsize : (w.setRow b vs').heap.size = w.heap.size := by simp [World.setRow]
  have hx : Ext ρ w ρ (w.setRow b vs') := by
    refine ⟨rfl, rfl, rfl, by rw [hsize]; exact Nat.le_refl _, Nat.le_refl _, fun _ _ h => .inl h, fun _ h _ => h, fun k _ hm => hold k (fun e => hm ⟨id, by rw [e]; exact hid⟩), fun k us e' z' h => ?_⟩
    by_cases hk : k = b
    · subst hk
      rw [hb] at h; injection h with h; injection h with h1 h2 h3; subst h1; subst h2; subst h3
      exact ⟨vs', hnew, hsz⟩
    · exact ⟨us, by rw [hold k hk]; exact h, rfl⟩
  refine ⟨hx, by simp [hI.len], hI.inj, fun i k h => by rw [hsize]; exact hI.lt i k h, fun id' o h => ?_, fun g x h => (hI.glob g x h).ext hx, by rw [List.length_set]; exact hI.bd.set id (fun o h => by injection h with h; subst h; exact hbd), fun k hk ds he => by
    by_cases hkb : k = b
    · subst hkb; rw [hnew] at he; cases he
    · rw [hold k hkb] at he; exact hI.own k hk ds he⟩
  rw [List.getElem?_set] at h
  split at h
  · rename_i he
    subst he
    split at h
    · injection h with h; injection h with h; subst h
      refine .inl ⟨b, hid, vs', e, by rw [hnew, hz], hl, fun i x hx' => let ⟨v, a1, a2, a3⟩ := hcs i x hx'; ⟨v, a1, a2, a3.ext hx⟩⟩
    · cases h
  · rename_i hne
    rcases hI.obj id' o h with ⟨k, h1, h2⟩ | ⟨h1, h2⟩
    · exact .inl ⟨k, h1, h2.keep hx (hold k (fun e => hne (hI.inj id id' b hid (by rw [← e]; exact h1))))⟩
    · exact .inr ⟨h1, h2⟩

/-- A draw of the tape turns nothing. -/
theorem Ext.drew (ρ : Ren) (w : World) : Ext ρ w ρ w.drew :=
  ⟨rfl, rfl, rfl, Nat.le_refl _, Nat.le_refl _, fun _ _ h => .inl h, fun _ h _ => h, fun _ _ _ => rfl, fun _ vs _ _ h => ⟨vs, h, rfl⟩⟩
theorem Inv.ext_same (hI : Inv G ρ σ w) (hx : Ext ρ w ρ w') (hh : w'.heap = w.heap) : Inv G ρ σ w' :=
  ⟨hI.len, hI.inj, fun i b h => by rw [hh]; exact hI.lt i b h, fun id o h => by
    rcases hI.obj id o h with ⟨b, h1, h2⟩ | h
    · exact .inl ⟨b, h1, h2.keep hx (by rw [hh])⟩
    · exact .inr h, fun g x h => (hI.glob g x h).ext hx, hI.bd, fun b hb ds => by rw [hh]; exact hI.own b hb ds⟩

/-- AN OBJECT IS LET GO. -/
theorem Inv.kill (hI : Inv G ρ σ w) (id : Nat) : Ext ρ w (ρ.set id .dead) w ∧ Inv G (ρ.set id .dead) (σ.set id none) w := by
  have hget : ∀ (i : Nat) (b : Nat), (ρ.set id .dead)[i]? = some (.live b) → i ≠ id ∧ ρ[i]? = some (.live b) := fun i b h => by
    rw [List.getElem?_set] at h
    split at h
    · split at h
      · injection h with h; cases h
      · cases h
    · rename_i hne; exact ⟨fun e => hne e.symm, h⟩
  have hx : Ext ρ w (ρ.set id .dead) w := by
    refine ⟨rfl, rfl, rfl, Nat.le_refl _, by simp, fun i r h => ?_, fun b ⟨i, h⟩ _ => ⟨i, (hget i b h).2⟩, fun _ _ _ => rfl, fun _ vs _ _ h => ⟨vs, h, rfl⟩⟩
    rw [List.getElem?_set]
    split
    · rename_i e; subst e
      rw [if_pos (List.getElem?_eq_some_iff.1 h).1]; exact .inr rfl
    · exact .inl h
  refine ⟨hx, by simp [hI.len], fun i j b h1 h2 => hI.inj i j b (hget i b h1).2 (hget j b h2).2, fun i b h => hI.lt i b (hget i b h).2, fun i o h => ?_, fun g x h => (hI.glob g x h).ext hx, by rw [List.length_set]; exact hI.bd.set id (fun o h => by cases h), fun b ⟨i, h⟩ => hI.own b ⟨i, (hget i b h).2⟩⟩
  rw [List.getElem?_set] at h
  split at h
  · split at h <;> cases h
  · rename_i hne
    rcases hI.obj i o h with ⟨b, h1, h2⟩ | ⟨h1, h2⟩
    · exact .inl ⟨b, by rw [List.getElem?_set, if_neg hne]; exact h1, h2.keep hx rfl⟩
    · exact .inr ⟨by rw [List.getElem?_set, if_neg hne]; exact h1, h2⟩

/-- AN EMPTY OBJECT, which no block bears: a nil slice to be appended to. -/
theorem Inv.pushEmpty (hI : Inv G ρ σ w) : Ext ρ w (ρ ++ [.empty]) w ∧ Inv G (ρ ++ [.empty]) (σ ++ [some (.cells [])]) w := by
  have hget : ∀ (i : Nat) (b : Nat), (ρ ++ [Rs.empty])[i]? = some (.live b) → ρ[i]? = some (.live b) := fun i b h => by
    by_cases hid : i < ρ.length
    · rw [getElem?_snoc_lt hid] at h; exact h
    · rw [List.getElem?_append_right (by omega)] at h
      have e0 : i - ρ.length = 0 := by
        have := (List.getElem?_eq_some_iff.1 h).1
        simp at this; omega
      rw [e0] at h; simp at h
  have hx : Ext ρ w (ρ ++ [.empty]) w :=
    ⟨rfl, rfl, rfl, Nat.le_refl _, by simp, fun i r h => .inl (by rw [getElem?_snoc_lt (List.getElem?_eq_some_iff.1 h).1]; exact h), fun b ⟨i, h⟩ _ => ⟨i, hget i b h⟩, fun _ _ _ => rfl, fun _ vs _ _ h => ⟨vs, h, rfl⟩⟩
  refine ⟨hx, by simp [hI.len], fun i j b h1 h2 => hI.inj i j b (hget i b h1) (hget j b h2), fun i b h => hI.lt i b (hget i b h), fun i o h => ?_, fun g x h => (hI.glob g x h).ext hx, by rw [List.length_append]; exact (hI.bd.mono (by simp)).snoc (fun o h => by injection h with h; subst h; rfl), fun b ⟨i, h⟩ => hI.own b ⟨i, hget i b h⟩⟩
  by_cases hid : i < σ.length
  · rw [getElem?_snoc_lt hid] at h
    rcases hI.obj i o h with ⟨b, h1, h2⟩ | ⟨h1, h2⟩
    · exact .inl ⟨b, by rw [getElem?_snoc_lt (by rw [hI.len]; exact hid)]; exact h1, h2.keep hx rfl⟩
    · exact .inr ⟨by rw [getElem?_snoc_lt (by rw [hI.len]; exact hid)]; exact h1, h2⟩
  · rw [List.getElem?_append_right (by omega)] at h
    have e0 : i - σ.length = 0 := by
      have := (List.getElem?_eq_some_iff.1 h).1
      simp at this; omega
    rw [e0] at h
    simp at h
    subst h
    have e1 : i = ρ.length := by rw [hI.len]; omega
    exact .inr ⟨by rw [e1]; exact getElem?_snoc_eq, rfl⟩
end

/-- One cell's worth, for sure. -/
def oneA (σ : St) : A → Bool
  | .d x => x.one
  | .ea _ _ => true
  | .ref id _ => liveId σ id
  | .rs id _ _ _ _ => liveId σ id
  | .mapr id => liveId σ id
  | .fn f c d => (A.fn f c d).bd σ.length
  | .ifc t a => (A.ifc t a).bd σ.length
  | _ => false
/-- What can be laid into memory: one cell, or cells. -/
def okA (σ : St) : A → Bool
  | .agg cs => bdL σ.length cs
  | .d _ => true
  | a => oneA σ a

section
variable {P : Program} {ρ ρ' : Ren} {w w' : World} {σ : St} {G : Glob}

theorem liveId_lt {id : Nat} (h : liveId σ id = true) : id < σ.length := by
  unfold liveId at h
  split at h
  · rename_i ho; exact (List.getElem?_eq_some_iff.1 ho).1
  · cases h
theorem bd_of_oneA {a : A} (h : oneA σ a = true) : a.bd σ.length = true := by
  cases a with
  | d x => rfl
  | ea x o => rfl
  | ref id o => simp only [A.bd, decide_eq_true_eq]; exact liveId_lt h
  | rs id a b c d => simp only [A.bd, decide_eq_true_eq]; exact liveId_lt h
  | mapr id => simp only [A.bd, decide_eq_true_eq]; exact liveId_lt h
  | fn f c d => exact h
  | ifc t a => exact h
  | _ => simp [oneA] at h
theorem bd_cells {a : A} (h : okA σ a = true) : bdL σ.length a.cells = true := by
  have single : oneA σ a = true → a.cells = [a] → bdL σ.length a.cells = true := fun h1 h2 => by rw [h2]; simp only [bdL, bd_of_oneA h1, Bool.and_self]
  cases a with
  | d x =>
    cases x with
    | agg cs =>
      refine bdL_of fun x hx => ?_
      simp only [A.cells, D.cells, List.mem_map] at hx
      obtain ⟨y, _, rfl⟩ := hx
      rfl
    | _ => rfl
  | agg cs => exact h
  | ea x o => rfl
  | ref id o => exact single h rfl
  | rs id a b c d => exact single h rfl
  | mapr id => exact single h rfl
  | fn f c d => exact single h rfl
  | ifc t a => exact single h rfl
  | _ => simp [okA, oneA] at h
theorem one_of_oneA {a : A} {v : Value} (hI : Inv G ρ σ w) (h : RepA ρ w a v) (h1 : oneA σ a = true) : v.oneCell' = true := by
  cases a with
  | d x => cases h with | d h => exact repD_one h h1
  | ea x off => cases h; rfl
  | ref id off => obtain ⟨b, _, rfl⟩ := ref_at hI h1 h; rfl
  | rs id sz off len o => rcases rs_at hI h1 h with ⟨b, cap, vs, e, z, _, rfl, _⟩ | ⟨_, _, _, rfl⟩ <;> rfl
  | mapr id =>
    cases h with
    | mapr h => rfl
    | mapDead _ hd =>
      rcases live_spec hI h1 with ⟨b, _, _, hb, _⟩ | ⟨he, _⟩
      · rw [hd] at hb; injection hb with hb; cases hb
      · rw [hd] at he; injection he with he; cases he
  | fn f c d => cases h; rfl
  | ifc t a => cases h; rfl
  | _ => simp [oneA] at h1
theorem cells_one {v : Value} (h : v.oneCell' = true) : v.cells = #[v] := by cases v <;> first | rfl | simp [Value.oneCell'] at h
/-- The cells of a value. -/
theorem cells_rep {a : A} {v : Value} (hI : Inv G ρ σ w) (h : RepA ρ w a v) (h1 : okA σ a = true) :
    ∃ vs : List Value, v.cells = vs.toArray ∧ a.cells.length = vs.length ∧ (∀ u ∈ vs, u.oneCell' = true) ∧
      ∀ (i : Nat) (x : A) (u : Value), a.cells[i]? = some x → vs[i]? = some u → RepA ρ w x u := by
  have single : oneA σ a = true → a.cells = [a] → ∃ vs : List Value, v.cells = vs.toArray ∧ a.cells.length = vs.length ∧ (∀ u ∈ vs, u.oneCell' = true) ∧
      ∀ (i : Nat) (x : A) (u : Value), a.cells[i]? = some x → vs[i]? = some u → RepA ρ w x u := fun ho hc =>
    ⟨[v], cells_one (one_of_oneA hI h ho), by rw [hc]; rfl, by simp [one_of_oneA hI h ho], fun i x u hx hu => by
      rw [hc] at hx
      match i with
      | 0 => simp at hx hu; subst hx; subst hu; exact h
      | i + 1 => simp at hx⟩
  cases a with
  | d x =>
    cases x with
    | agg cs =>
      cases h with
      | d h =>
        cases h with
        | agg _ vs len one rep =>
          refine ⟨vs, rfl, by simpa [A.cells, D.cells] using len, fun u hu => ?_, fun i x u hx hu => ?_⟩
          · obtain ⟨i, hi, rfl⟩ := List.getElem_of_mem hu
            obtain ⟨y, hy⟩ : ∃ y, cs[i]? = some y := ⟨_, List.getElem?_eq_getElem (by omega)⟩
            exact repD_one (rep i y _ hy (List.getElem?_eq_getElem hi)) (one i y hy)
          · simp only [A.cells, D.cells, List.getElem?_map, Option.map_eq_some_iff] at hx
            obtain ⟨y, hy, rfl⟩ := hx
            exact .d (rep i y u hy hu)
    | _ => exact single rfl rfl
  | agg cs =>
    cases h with
    | agg _ vs len one rep =>
      exact ⟨vs, rfl, len, fun u hu => by obtain ⟨i, hi, rfl⟩ := List.getElem_of_mem hu; exact one i _ (List.getElem?_eq_getElem hi), rep⟩
  | ea x off => exact single rfl rfl
  | ref id off => exact single h1 rfl
  | rs id sz off len o => exact single h1 rfl
  | mapr id => exact single h1 rfl
  | fn f c d => exact single h1 rfl
  | ifc t a => exact single h1 rfl
  | _ => simp [okA, oneA] at h1
end

section
variable (P : Program) (σ : St)
/-- A type's zero, as cells. -/
def zeroA (t : TypeId) : Option (List A) := match P.info? t with
  | some i => match i.zero with
    | some z => some (z.cells.toList.map ofV)
    | none => none
  | none => none
/-- A slice's element: its type, size, bytes, and zero. -/
def mkT (t : TypeId) : Option (TypeId × Nat × Nat × List A) := match elemT P t with
  | some (e, s) => match P.info? e, zeroA P e with
    | some i, some zs => if zs.length = s ∧ 0 < s ∧ zs.all (oneA []) = true then some (e, s, i.bytes, zs) else none
    | _, _ => none
  | none => none
def wrAlloc (t : TypeId) (k : Prop → A → St → Prop) : Prop := match zeroA P t with
  | some zs => k (zs.all (oneA []) = true) (.ref σ.length 0) (σ ++ [some (.cells zs)])
  | none => False
def wrBox (a : A) (k : Prop → A → St → Prop) : Prop := k (okA σ a = true) (.ref σ.length 0) (σ ++ [some (.cells a.cells)])
def wrStore (t : TypeId) (a x : A) (k : Prop → A → St → Prop) : Prop := match a with
  | .ref id off => match σ[id]? with
    | some (some (.cells cs)) => k (okA σ x = true ∧ x.cells.length = P.cellsOf t ∧ (P.info? t).isSome = true ∧ off + x.cells.length ≤ cs.length) .any
        (σ.set id (some (.cells (cs.take off ++ x.cells ++ cs.drop (off + x.cells.length)))))
    | _ => False
  | _ => False
/-- The parts of a slice's literal are all its elements, in order. -/
def inOrder (s : Nat) : Nat → List (Nat × A) → Bool
  | _, [] => true
  | i, (j, a) :: r => i == j && a.cells.length == s && okA σ a && inOrder s (i + 1) r
def wrBuildSlice (t : TypeId) (n : Nat) (parts : List (Nat × A)) (k : Prop → A → St → Prop) : Prop := match mkT P t with
  | some (e, s, _, _) => k (inOrder σ s 0 parts = true ∧ parts.length = n ∧ n * s ≤ 16777216 ∧ n ≤ 16777216) (.rs σ.length s 0 n (some e)) (σ ++ [some (.cells (parts.flatMap fun p => p.2.cells))])
  | none => False
def wrMakeSlice (t : TypeId) (l c : A) (k : Prop → A → St → Prop) : Prop := match l, c with
  | .d (.int _ n), .d (.int _ m) => match mkT P t with
    | some (e, s, bytes, zs) => k (0 ≤ n ∧ n ≤ m ∧ (bytes : Int) * m ≤ 281474976710656 ∧ m ≤ 9223372036854775807) (.rs σ.length s 0 n.toNat (some e))
          (σ ++ [some (.cells (List.replicate n.toNat zs).flatten)])
    | none => False
  | _, _ => False
/-- What is appended: how many, their cells. -/
def srcA (s : Nat) (t : TypeId) : A → Option (Prop × Nat × List A)
  | .d (.sl sz xs) => some (sz = s ∧ (elemT P t).isSome = true, xs.length, xs.flatMap fun x => x.cells.map .d)
  | .d .nils => some ((elemT P t).isSome = true, 0, [])
  | .d (.str b) => some (s = 1 ∧ isStrT P t = true, b.length, b.map fun c => .d (.int .u8 c.toNat))
  | .rs id sz off len _ => match σ[id]? with
    | some (some (.cells cs)) => some (sz = s ∧ (elemT P t).isSome = true ∧ off + len * s ≤ cs.length, len, (cs.drop off).take (len * s))
    | _ => none
  | _ => none
def wrAppend (t tx : TypeId) (a x : A) (k : Prop → A → St → Prop) : Prop := match mkT P t with
  | some (e, s, bytes, _) => match srcA P σ s tx x with
      | some (p, m, news) => match a with
        | .d .nils => k (p ∧ m ≤ maxLen ∧ m * bytes ≤ 140737488355328) (.rs σ.length s 0 m (some e)) (σ ++ [some (.cells news)])
        | .rs id sz off len ow => match σ[id]? with
          | some (some (.cells cs)) => k (p ∧ sz = s ∧ off = 0 ∧ ow = some e ∧ cs.length = len * s ∧ len + m ≤ maxLen ∧ (len + m) * bytes ≤ 140737488355328) (.rs σ.length s 0 (len + m) (some e))
              (σ.set id none ++ [some (.cells (cs ++ news))])
          | _ => False
        | _ => False
      | none => False
  | none => False
end
end Go.Ab
