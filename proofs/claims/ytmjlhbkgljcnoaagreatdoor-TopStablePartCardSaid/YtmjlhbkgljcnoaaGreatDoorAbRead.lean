/- The operations that only read: what they come to over abstract values, and that they do. -/
import Derived.Test.YtmjlhbkgljcnoaaGreatDoorAbCore
namespace Go.Ab
open Go

/-- Cells of data as data, where all of them are. -/
def toDs : List A → Option (List D)
  | [] => some []
  | .d x :: r => (toDs r).map (x :: ·)
  | _ :: _ => none
def mkAgg (cs : List A) : A := match toDs cs with | some ds => .d (.agg ds) | none => .agg cs
def A.cells : A → List A
  | .agg cs => cs
  | .d x => x.cells.map .d
  | a => [a]
def A.strip : A → A | .grd _ a => a.strip | a => a
def A.cond : A → Bool | .grd c a => c && a.cond | _ => true

def ofV : Value → A
  | .int k n => .d (.int k n)
  | .bool b => .d (.bool b)
  | .string s => .d (.str s.data.toList)
  | .pointer none => .d .nilp
  | .nilFunc => .d .nilf
  | .nilIface => .d .nili
  | .map none => .d .nilm
  | .slice none 0 0 => .d .nils
  | _ => .any
/-- A constant; an aggregate of plain ones too. -/
def constA : Value → A
  | .agg cs => match toDs (cs.toList.map ofV) with
    | some ds => if ds.all D.one = true then .d (.agg ds) else .any
    | none => .any
  | v => ofV v
def ev (G : Glob) (fr : Fr) : Operand → A
  | .tmp t => fr.getD t .any
  | .const v => constA v
  | .global g => match G.g g with | some x => .ea x 0 | none => .any
  | .func f => .fn (.func f) [] []

section
variable (P : Program) (σ : St)

/-- Is a variable of this type laid out cell by cell? -/
def aggT (t : TypeId) : Option Bool := match P.underlying t with
  | none => none
  | some (.struct _) | some (.array ..) => some true
  | some _ => some false
/-- A struct's field: its offset, its type; its size is not 0. -/
def fld (t : TypeId) (f : Nat) : Option (Nat × TypeId) := match P.underlying t with
  | some (.struct fs) => match fs[f]? with
    | some fl => if P.cellsOf fl.type = 0 then none else some (fl.offset, fl.type)
    | none => none
  | _ => none
/-- A slice's element: its type and size. -/
def elemT (t : TypeId) : Option (TypeId × Nat) := match P.underlying t with
  | some (.slice e) => if (P.info? e).isSome then some (e, P.cellsOf e) else none
  | _ => none
/-- An array's length, element type and the element's size. -/
def arrT (t : TypeId) : Option (Nat × TypeId × Nat) := match P.underlying t with
  | some (.array n e) => if (P.info? e).isSome then some (n, e, P.cellsOf e) else none
  | _ => none
def isStrT (t : TypeId) : Bool := match P.underlying t with
  | some .string => true
  | _ => false

def rdLoad (t : TypeId) (k : Prop → A → Prop) : A → Prop
  | .ea x off => match aggT P t with
    | some true => k (off + P.cellsOf t ≤ x.cells.length) (.d (.agg ((x.cells.drop off).take (P.cellsOf t))))
    | some false => k (off < x.cells.length) (.d (x.cells.getD off default))
    | none => False
  | .ref id off => match σ[id]? with
    | some (some (.cells cs)) => match aggT P t with
      | some true => k (off + P.cellsOf t ≤ cs.length) (mkAgg ((cs.drop off).take (P.cellsOf t)))
      | some false => k (off < cs.length) (cs.getD off .any)
      | none => False
    | _ => False
  | _ => False
def liveId (id : Nat) : Bool := match σ[id]? with | some (some _) => true | _ => false
def rdFieldAddr (t : TypeId) (f : Nat) (k : Prop → A → Prop) : A → Prop
  | .ea x off => match fld P t f with
    | some (o, _) => k True (.ea x (off + o))
    | none => False
  | .ref id off => match fld P t f with
    | some (o, _) => k (liveId σ id = true) (.ref id (off + o))
    | none => False
  | _ => False
def rdIndexAddr (t : TypeId) (k : Prop → A → Prop) : A → A → Prop
  | .d (.sl sz xs), .d (.int _ n) => match elemT P t with
    | some (_, s) => k (s = sz ∧ 0 ≤ n ∧ n < xs.length) (.ea (xs.getD n.toNat default) 0)
    | none => False
  | .rs id sz off len _, .d (.int _ n) => match elemT P t with
    | some (_, s) => k (liveId σ id = true ∧ s = sz ∧ 0 ≤ n ∧ n < len) (.ref id (off + n.toNat * sz))
    | none => False
  | .ea x off, .d (.int _ n) => match arrT P t with
    | some (len, _, s) => k (0 ≤ n ∧ n < len) (.ea x (off + n.toNat * s))
    | none => False
  | .ref id off, .d (.int _ n) => match arrT P t with
    | some (len, _, s) => k (liveId σ id = true ∧ 0 ≤ n ∧ n < len) (.ref id (off + n.toNat * s))
    | none => False
  | _, _ => False
def rdPart (t : TypeId) (off : Nat) (k : Prop → A → Prop) : A → Prop
  | .d (.agg cs) => match aggT P t with
    | some true => k (off + P.cellsOf t ≤ cs.length) (.d (.agg ((cs.drop off).take (P.cellsOf t))))
    | some false => k (off < cs.length) (.d (cs.getD off default))
    | none => False
  | .agg cs => match aggT P t with
    | some true => k (off + P.cellsOf t ≤ cs.length) (mkAgg ((cs.drop off).take (P.cellsOf t)))
    | some false => k (off < cs.length) (cs.getD off .any)
    | none => False
  | _ => False
def rdIndex (t : TypeId) (k : Prop → A → Prop) : A → A → Prop
  | .d (.str s), .d (.int _ n) => k (isStrT P t = true ∧ 0 ≤ n ∧ n < s.length) (.d (.int .u8 (s.getD n.toNat 0).toNat))
  | .d (.agg cs), .d (.int _ n) => match arrT P t with
    | some (len, e, s) => rdPart P e (n.toNat * s) (fun p a => k (0 ≤ n ∧ n < len ∧ p) a) (.d (.agg cs))
    | none => False
  | .agg cs, .d (.int _ n) => match arrT P t with
    | some (len, e, s) => rdPart P e (n.toNat * s) (fun p a => k (0 ≤ n ∧ n < len ∧ p) a) (.agg cs)
    | none => False
  | _, _ => False
def rdField (t : TypeId) (f : Nat) (k : Prop → A → Prop) (a : A) : Prop := match fld P t f with
  | some (o, ft) => rdPart P ft o k a
  | none => False
end

/-- What a reading comes to. -/
def Yld (P : Program) (ρ : Ren) (w : World) (s : Sem Value) (k : Prop → A → Prop) : Prop :=
  ∃ p a, k p a ∧ (p → ∃ v, s.run P w = .ok v w ∧ RepA ρ w a v)

section
variable {P : Program} {ρ : Ren} {w : World} {σ : St} {G : Glob}

theorem repD_one {m : Nat → Prop} {x : D} {v : Value} (h : RepD w m x v) (h1 : x.one = true) : v.oneCell' = true := by
  cases h <;> first | rfl | simp [D.one] at h1
theorem repD_of_one {m : Nat → Prop} {x : D} {v : Value} (h : RepD w m x v) (h1 : v.oneCell' = true) : x.one = true := by
  cases h <;> first | rfl | simp [Value.oneCell'] at h1

theorem add0 (b o n : Nat) : (⟨b, o, none⟩ : Addr).add n = ⟨b, o + n, none⟩ := by
  unfold Addr.add; split <;> simp_all

theorem toDs_spec : ∀ {cs : List A} {ds : List D}, toDs cs = some ds → cs = ds.map .d
  | [], ds, h => by simp [toDs] at h; subst h; rfl
  | .d x :: r, ds, h => by
    simp only [toDs, Option.map_eq_some_iff] at h
    obtain ⟨es, h1, h2⟩ := h
    subst h2
    simp [toDs_spec h1]
  | .ea .. :: _, _, h | .ref .. :: _, _, h | .rs .. :: _, _, h | .agg .. :: _, _, h | .fn .. :: _, _, h | .ifc .. :: _, _, h
  | .tup .. :: _, _, h | .mapr .. :: _, _, h | .grd .. :: _, _, h | .any :: _, _, h => by simp [toDs] at h

theorem rep_mkAgg {cs : List A} {vs : List Value} (hl : cs.length = vs.length) (h1 : ∀ (i : Nat) (v : Value), vs[i]? = some v → v.oneCell' = true)
    (hr : ∀ (i : Nat) (x : A) (v : Value), cs[i]? = some x → vs[i]? = some v → RepA ρ w x v) : RepA ρ w (mkAgg cs) (.agg vs.toArray) := by
  unfold mkAgg
  cases h : toDs cs with
  | none => exact .agg cs vs hl h1 hr
  | some ds =>
    have e := toDs_spec h
    subst e
    have key : ∀ (i : Nat) (x : D) (v : Value), ds[i]? = some x → vs[i]? = some v → RepD w (M ρ) x v := fun i x v hx hv => by
      have := hr i (.d x) v (by simp [hx]) hv
      cases this with
      | d h => exact h
    refine .d (.agg ds vs (by simpa using hl) (fun i x hx => ?_) key)
    obtain ⟨v, hv⟩ : ∃ v, vs[i]? = some v := by
      have : i < vs.length := by
        have := (List.getElem?_eq_some_iff.1 hx).1
        simp at hl; omega
      exact ⟨vs[i], List.getElem?_eq_getElem this⟩
    exact repD_of_one (key i x v hx hv) (h1 i v hv)

theorem yld_agg {t : TypeId} {b o : Nat} (cs : List A) (vs : List Value) (n : Nat) (hn : cs.length = n) (hl : cs.length = vs.length)
    (hc : ∀ j v, vs[j]? = some v → w.cell? ⟨b, o + j, none⟩ = some v) (ht : P.cellsOf t = n) (hi : ∃ i, P.info? t = some i) :
    (do let k ← sizeOf t; let c ← loadCells ⟨b, o, none⟩ k; pure (Value.agg c) : Sem Value).run P w = .ok (.agg vs.toArray) w := by
  obtain ⟨i, hi⟩ := hi
  have h1 := run_loadCells_list (P := P) w ⟨b, o, none⟩ vs (fun j v hj => by rw [add0]; exact hc j v hj)
  have h2 : i.size = vs.length := by
    have : P.cellsOf t = i.size := by simp [Program.cellsOf, hi]
    omega
  simp [sizeOf, typeInfo, hi, h2, h1]

theorem info_of_underlying {t : TypeId} {u : TypeDesc} (h : P.underlying t = some u) : ∃ i, P.info? t = some i := by
  unfold Program.underlying at h
  cases hi : P.info? t with
  | none => simp [hi] at h
  | some i => exact ⟨i, rfl⟩

theorem aggT_run {t : TypeId} {b : Bool} (h : aggT P t = some b) (w : World) : (isAgg t).run P w = .ok b w := by
  unfold aggT at h
  cases hu : P.underlying t with
  | none => simp [hu] at h
  | some u =>
    rw [hu] at h
    simp only [isAgg, Sem.run_bind, run_underlying hu, Result.andThen_ok]
    cases u <;> first | (injection h with h; subst h; rfl)
theorem aggT_info {t : TypeId} {b : Bool} (h : aggT P t = some b) : ∃ i, P.info? t = some i := by
  unfold aggT at h
  cases hu : P.underlying t with
  | none => simp [hu] at h
  | some u => exact info_of_underlying hu
theorem cell_of_heap {b : Nat} {vs : Array Value} {e : TypeId} {z : Nat × Nat} (h : w.heap[b]? = some (.cells vs e z)) (o : Nat) :
    w.cell? ⟨b, o, none⟩ = vs[o]? := by
  simp [World.cell?, h]

theorem ref_form {id off : Nat} {v : Value} (ha : RepA ρ w (.ref id off) v) : (∃ b, ρ[id]? = some (.live b) ∧ v = .pointer (some ⟨b, off, none⟩)) ∨ ρ[id]? = some .dead := by
  cases ha with
  | ref _ h => exact .inl ⟨_, h, rfl⟩
  | refDead _ _ h => exact .inr h
theorem ref_not_empty {id off : Nat} {v : Value} (ha : RepA ρ w (.ref id off) v) (h : ρ[id]? = some .empty) : False := by
  rcases ref_form ha with ⟨b', h', rfl⟩ | h' <;> rw [h] at h' <;> injection h' with h' <;> cases h'
theorem ref_live {id off b : Nat} {v : Value} (ha : RepA ρ w (.ref id off) v) (hb : ρ[id]? = some (.live b)) : v = .pointer (some ⟨b, off, none⟩) := by
  rcases ref_form ha with ⟨b', h, rfl⟩ | h
  · rw [hb] at h; injection h with h; injection h with h; subst h; rfl
  · rw [hb] at h; injection h with h; cases h
theorem live_spec {id : Nat} (hI : Inv G ρ σ w) (h : liveId σ id = true) : (∃ b o, σ[id]? = some (some o) ∧ ρ[id]? = some (.live b) ∧ ObjRep ρ w o b) ∨ (ρ[id]? = some .empty ∧ σ[id]? = some (some (.cells []))) := by
  unfold liveId at h
  split at h
  · rename_i o ho
    rcases hI.obj _ _ ho with ⟨b, h1, h2⟩ | ⟨h1, rfl⟩
    · exact .inl ⟨b, o, ho, h1, h2⟩
    · exact .inr ⟨h1, ho⟩
  · cases h
theorem ref_at {id off : Nat} {v : Value} (hI : Inv G ρ σ w) (h : liveId σ id = true) (ha : RepA ρ w (.ref id off) v) : ∃ b, ρ[id]? = some (.live b) ∧ v = .pointer (some ⟨b, off, none⟩) := by
  rcases live_spec hI h with ⟨b, _, _, hb, _⟩ | ⟨he, _⟩
  · exact ⟨b, hb, ref_live ha hb⟩
  · exact (ref_not_empty ha he).elim
theorem rs_at {id sz off len : Nat} {ow : Option TypeId} {v : Value} (hI : Inv G ρ σ w) (h : liveId σ id = true) (ha : RepA ρ w (.rs id sz off len ow) v) :
    (∃ b cap vs e z, ρ[id]? = some (.live b) ∧ v = .slice (some ⟨b, off, none⟩) len cap ∧ w.heap[b]? = some (.cells vs e z) ∧ len ≤ cap ∧ off + cap * sz ≤ vs.size ∧ (∀ e', ow = some e' → e' = e ∧ off = 0 ∧ vs.size = cap * sz ∧ cap ≤ maxLen)) ∨
    (ρ[id]? = some .empty ∧ off = 0 ∧ len = 0 ∧ v = .slice none 0 0) := by
  cases ha with
  | rs h h1 h2 h3 h4 => exact .inl ⟨_, _, _, _, _, h, rfl, h1, h2, h3, h4⟩
  | rsEmpty _ _ h => exact .inr ⟨h, rfl, rfl, rfl⟩
  | rsDead _ _ _ _ _ hd =>
    rcases live_spec hI h with ⟨b, _, _, hb, _⟩ | ⟨he, _⟩
    · rw [hd] at hb; injection hb with hb; cases hb
    · rw [hd] at he; injection he with he; cases he
/-- A part of data whose cells are known. -/
theorem rep_slice_d {m : Nat → Prop} {ys : List D} {vs : Nat → Value} (off n : Nat) (hn : off + n ≤ ys.length)
    (one : ∀ (j : Nat) (y : D), ys[j]? = some y → y.one = true) (rep : ∀ (j : Nat) (y : D), ys[j]? = some y → RepD w m y (vs j)) :
    RepD w m (.agg ((ys.drop off).take n)) (.agg ((List.range n).map fun j => vs (off + j)).toArray) := by
  refine .agg _ _ (by simp; omega) (fun i y hy => ?_) (fun i y v hy hv => ?_)
  · simp only [List.getElem?_take] at hy
    split at hy
    · rw [List.getElem?_drop] at hy; exact one _ _ hy
    · cases hy
  · simp only [List.getElem?_take] at hy
    split at hy
    · rename_i hlt
      rw [List.getElem?_drop] at hy
      simp [hlt] at hv
      subst hv
      exact rep _ _ hy
    · cases hy
theorem mem_range_map {vs : Nat → Value} {n j : Nat} {v : Value} (h : ((List.range n).map vs)[j]? = some v) : j < n ∧ v = vs j := by
  simp only [List.getElem?_map, Option.map_eq_some_iff] at h
  obtain ⟨j', h1, h2⟩ := h
  have hlt : j < n := by
    have := (List.getElem?_eq_some_iff.1 h1).1
    simpa using this
  have e : j' = j := by simpa [List.getElem?_range, hlt] using h1.symm
  subst e
  exact ⟨hlt, h2.symm⟩
theorem getD_some {α : Type} {l : List α} {i : Nat} {d : α} (h : i < l.length) : l[i]? = some (l.getD i d) := by
  simp [List.getD, List.getElem?_eq_getElem h]

theorem rdLoad_sound {t : TypeId} {k : Prop → A → Prop} {a : A} {v : Value} (hI : Inv G ρ σ w) (ha : RepA ρ w a v) (h : rdLoad P σ t k a) :
    Yld P ρ w (Instr.loadAt t v) k := by
  unfold rdLoad at h
  split at h
  · rename_i x off
    cases ha with
    | ea _ _ b o vs hm hb one cell rep =>
      split at h
      · rename_i hu
        refine ⟨_, _, h, fun hp => ?_⟩
        refine ⟨.agg (((List.range (P.cellsOf t)).map fun j => vs (off + j))).toArray, ?_, .d (rep_slice_d off _ hp one rep)⟩
        have := yld_agg (P := P) (w := w) (t := t) (b := b) (o := o + off) (((x.cells.drop off).take (P.cellsOf t)).map A.d) ((List.range (P.cellsOf t)).map fun j => vs (off + j)) (P.cellsOf t)
          (by simp; omega) (by simp; omega) (fun j v hj => by
            obtain ⟨hlt, rfl⟩ := mem_range_map hj
            rw [Nat.add_assoc]
            exact cell (off + j) (x.cells.getD (off + j) default) (getD_some (by omega))) rfl (aggT_info hu)
        simp only [Instr.loadAt, Instr.sureAddr, loadVar, Sem.run_bind, Sem.run_pure, aggT_run hu, Result.andThen_ok, if_true] at this ⊢
        exact this
      · rename_i hu
        refine ⟨_, _, h, fun hp => ?_⟩
        have hget : x.cells[off]? = some (x.cells.getD off default) := getD_some hp
        refine ⟨vs off, ?_, .d (rep off _ hget)⟩
        simp [Instr.loadAt, Instr.sureAddr, loadVar, aggT_run hu, cell off _ hget]
      · exact h.elim
  · rename_i id off
    split at h
    case h_2 => exact h.elim
    case h_1 cs hσ =>
      rcases hI.obj id _ hσ with ⟨b, hb, vs, e, hheap, hlen, hcs⟩ | ⟨he, _⟩
      case inr => exact (ref_not_empty ha he).elim
      obtain rfl := ref_live ha hb
      split at h
      · rename_i hu
        refine ⟨_, _, h, fun hp => ?_⟩
        refine ⟨.agg ((vs.toList.drop off).take (P.cellsOf t)).toArray, ?_, rep_mkAgg (by simp; omega) (fun i v hv => ?_) (fun i x v hx hv => ?_)⟩
        · have := yld_agg (P := P) (w := w) (t := t) (b := b) (o := off) ((cs.drop off).take (P.cellsOf t)) ((vs.toList.drop off).take (P.cellsOf t)) (P.cellsOf t)
            (by simp; omega) (by simp; omega) (fun j v hj => by
              rw [cell_of_heap hheap]
              simp only [List.getElem?_take] at hj
              split at hj
              · simpa [List.getElem?_drop] using hj
              · cases hj) rfl (aggT_info hu)
          simp only [Instr.loadAt, Instr.sureAddr, loadVar, Sem.run_bind, Sem.run_pure, aggT_run hu, Result.andThen_ok, if_true] at this ⊢
          exact this
        · simp only [List.getElem?_take] at hv
          split at hv
          · rename_i hlt
            rw [List.getElem?_drop] at hv
            obtain ⟨v', h1, h2, _⟩ := hcs (off + i) (cs.getD (off + i) .any) (getD_some (by omega))
            have : v' = v := by
              have h4 : vs[off + i]? = some v := by simpa using hv
              rw [h1] at h4; injection h4
            subst this; exact h2
          · cases hv
        · simp only [List.getElem?_take] at hv hx
          split at hv
          · rename_i hlt
            rw [if_pos hlt] at hx
            rw [List.getElem?_drop] at hv hx
            obtain ⟨v', h1, _, h3⟩ := hcs (off + i) x hx
            have : v' = v := by
              have h4 : vs[off + i]? = some v := by simpa using hv
              rw [h1] at h4; injection h4
            subst this; exact h3
          · cases hv
      · rename_i hu
        refine ⟨_, _, h, fun hp => ?_⟩
        obtain ⟨v, h1, _, h3⟩ := hcs off (cs.getD off .any) (getD_some hp)
        refine ⟨v, ?_, h3⟩
        simp [Instr.loadAt, Instr.sureAddr, loadVar, aggT_run hu, cell_of_heap hheap, h1]
      · exact h.elim
  · exact h.elim

theorem fld_spec {t : TypeId} {f o : Nat} {ft : TypeId} (h : fld P t f = some (o, ft)) :
    ∃ fs fl, P.underlying t = some (.struct fs) ∧ fs[f]? = some fl ∧ P.cellsOf fl.type ≠ 0 ∧ fl.offset = o ∧ fl.type = ft := by
  unfold fld at h
  split at h
  · rename_i fs hu
    split at h
    · rename_i fl hf
      split at h
      · cases h
      · rename_i hne
        injection h with h; injection h with h1 h2
        exact ⟨fs, fl, hu, hf, hne, h1, h2⟩
    · cases h
  · cases h
theorem info_of_cells {t : TypeId} (h : P.cellsOf t ≠ 0) : ∃ i, P.info? t = some i := by
  unfold Program.cellsOf at h
  cases hi : P.info? t with
  | none => simp [hi] at h
  | some i => exact ⟨i, rfl⟩
theorem run_sizeOf_of {t : TypeId} {i : TypeInfo} (h : P.info? t = some i) (w : World) : (sizeOf t).run P w = .ok (P.cellsOf t) w := by
  simp [sizeOf, typeInfo, Program.cellsOf, h]
theorem run_fieldAt {t : TypeId} {f o : Nat} {ft : TypeId} (h : fld P t f = some (o, ft)) (b off : Nat) (w : World) :
    (Instr.fieldAt t (.pointer (some ⟨b, off, none⟩)) f).run P w = .ok (.pointer (some ⟨b, off + o, none⟩)) w := by
  obtain ⟨fs, fl, h1, h2, h3, rfl, rfl⟩ := fld_spec h
  obtain ⟨i, hi⟩ := info_of_cells h3
  simp [Instr.fieldAt, run_underlying h1, h2, Instr.sureAddr, fieldPlace, run_sizeOf_of hi, h3, add0]
theorem rdFieldAddr_sound {t : TypeId} {f : Nat} {k : Prop → A → Prop} {a : A} {v : Value} (hI : Inv G ρ σ w) (ha : RepA ρ w a v) (h : rdFieldAddr P σ t f k a) :
    Yld P ρ w (Instr.fieldAt t v f) k := by
  unfold rdFieldAddr at h
  split at h
  · rename_i x off
    split at h
    · rename_i o ft hf
      cases ha with
      | ea _ _ b p vs hm hb one cell rep =>
        exact ⟨_, _, h, fun _ => ⟨_, run_fieldAt hf _ _ w, by rw [Nat.add_assoc]; exact .ea x (off + o) b p vs hm hb one cell rep⟩⟩
    · exact h.elim
  · rename_i id off
    split at h
    · rename_i o ft hf
      refine ⟨_, _, h, fun hp => ?_⟩
      obtain ⟨b, hb, rfl⟩ := ref_at hI hp ha
      exact ⟨_, run_fieldAt hf _ _ w, .ref _ hb⟩
    · exact h.elim
  · exact h.elim

theorem elemT_spec {t e s : Nat} (h : elemT P t = some (e, s)) : P.underlying t = some (.slice e) ∧ P.cellsOf e = s ∧ ∃ i, P.info? e = some i := by
  unfold elemT at h
  split at h
  · rename_i e' hu
    split at h
    · rename_i hi
      injection h with h; injection h with h1 h2; subst h1
      exact ⟨hu, h2, Option.isSome_iff_exists.1 hi⟩
    · cases h
  · cases h
theorem arrT_spec {t n e s : Nat} (h : arrT P t = some (n, e, s)) : P.underlying t = some (.array n e) ∧ P.cellsOf e = s ∧ ∃ i, P.info? e = some i := by
  unfold arrT at h
  split at h
  · rename_i n' e' hu
    split at h
    · rename_i hi
      injection h with h; injection h with h1 h2; injection h2 with h2 h3; subst h1; subst h2
      exact ⟨hu, h3, Option.isSome_iff_exists.1 hi⟩
    · cases h
  · cases h
theorem int_form {k : IntKind} {n : Int} {v : Value} (h : RepA ρ w (.d (.int k n)) v) : v = .int k n := by
  cases h with | d h => cases h; rfl
theorem bool_form {b : Bool} {v : Value} (h : RepA ρ w (.d (.bool b)) v) : v = .bool b := by
  cases h with | d h => cases h; rfl
theorem str_form {s : List UInt8} {v : Value} (h : RepA ρ w (.d (.str s)) v) : ∃ t : ByteArray, v = .string t ∧ t.data.toList = s := by
  cases h with | d h => cases h with | str t => exact ⟨t, rfl, rfl⟩

theorem rdIndexAddr_sound {t : TypeId} {k : Prop → A → Prop} {a c : A} {v u : Value} (hI : Inv G ρ σ w) (ha : RepA ρ w a v) (hc : RepA ρ w c u) (h : rdIndexAddr P σ t k a c) :
    Yld P ρ w (Instr.indexAt t v u) k := by
  unfold rdIndexAddr at h
  split at h
  · rename_i sz xs ik n
    obtain rfl := int_form hc
    split at h
    · rename_i e s he
      obtain ⟨hu, hs, i, hi⟩ := elemT_spec he
      refine ⟨_, _, h, fun ⟨h1, h2, h3⟩ => ?_⟩
      subst h1
      cases ha with
      | d ha =>
        cases ha with
        | sl0 sz a c => simp at h3; omega
        | sl _ _ b o c vs hm hb hcap len one cell rep =>
          have hget : xs[n.toNat]? = some (xs.getD n.toNat default) := getD_some (by omega)
          refine ⟨.pointer (some ⟨b, (o + n.toNat * s) + 0, none⟩), ?_, .ea _ 0 b (o + n.toNat * s) (vs n.toNat) hm hb (fun j y hy => one _ _ _ _ hget hy) (fun j y hy => cell _ _ _ _ hget hy) (fun j y hy => rep _ _ _ _ hget hy)⟩
          simp [Instr.indexAt, asIntOf, run_underlying hu, h2, h3, run_sizeOf_of hi, hs, add0]
    · exact h.elim
  · rename_i id sz off len ow ik n
    obtain rfl := int_form hc
    split at h
    · rename_i e s he
      obtain ⟨hu, hs, i, hi⟩ := elemT_spec he
      refine ⟨_, _, h, fun ⟨hl, h1, h2, h3⟩ => ?_⟩
      subst h1
      rcases rs_at hI hl ha with ⟨b, cap, vs, e', z, hb, rfl, _, _, _, _⟩ | ⟨_, _, h0, _⟩
      case inr => omega
      exact ⟨_, by simp [Instr.indexAt, asIntOf, run_underlying hu, h2, h3, run_sizeOf_of hi, hs, add0], .ref _ hb⟩
    · exact h.elim
  · rename_i x off ik n
    obtain rfl := int_form hc
    split at h
    · rename_i len e s he
      obtain ⟨hu, hs, i, hi⟩ := arrT_spec he
      refine ⟨_, _, h, fun ⟨h2, h3⟩ => ?_⟩
      cases ha with
      | ea _ _ b p vs hm hb one cell rep =>
        refine ⟨_, ?_, .ea x (off + n.toNat * s) b p vs hm hb one cell rep⟩
        simp [Instr.indexAt, Instr.sureAddr, asIntOf, run_underlying hu, h2, h3, run_sizeOf_of hi, hs, add0, Nat.add_assoc]
    · exact h.elim
  · rename_i id off ik n
    obtain rfl := int_form hc
    split at h
    · rename_i len e s he
      obtain ⟨hu, hs, i, hi⟩ := arrT_spec he
      refine ⟨_, _, h, fun ⟨hl, h2, h3⟩ => ?_⟩
      obtain ⟨b, hb, rfl⟩ := ref_at hI hl ha
      refine ⟨_, ?_, .ref _ hb⟩
      simp [Instr.indexAt, Instr.sureAddr, asIntOf, run_underlying hu, h2, h3, run_sizeOf_of hi, hs, add0]
    · exact h.elim
  · exact h.elim

theorem rep_part_list {cs : List A} {vs : List Value} (off n : Nat) (hl : cs.length = vs.length) (hn : off + n ≤ cs.length) (h1 : ∀ (i : Nat) (v : Value), vs[i]? = some v → v.oneCell' = true)
    (hr : ∀ (i : Nat) (x : A) (v : Value), cs[i]? = some x → vs[i]? = some v → RepA ρ w x v) : RepA ρ w (mkAgg ((cs.drop off).take n)) (.agg ((vs.drop off).take n).toArray) := by
  refine rep_mkAgg (by simp; omega) (fun i v hv => ?_) (fun i x v hx hv => ?_)
  · simp only [List.getElem?_take] at hv
    split at hv
    · rw [List.getElem?_drop] at hv; exact h1 _ _ hv
    · cases hv
  · simp only [List.getElem?_take] at hv hx
    split at hv
    · rename_i hlt
      rw [if_pos hlt] at hx
      rw [List.getElem?_drop] at hv hx
      exact hr _ _ _ hx hv
    · cases hv
theorem rdPart_sound {t off : Nat} {k : Prop → A → Prop} {a : A} {v : Value} (ha : RepA ρ w a v) (h : rdPart P t off k a) :
    ∃ cs, v = .agg cs ∧ Yld P ρ w (part t cs off) k := by
  unfold rdPart at h
  split at h
  · rename_i cs
    cases ha with
    | d ha =>
      cases ha with
      | agg _ vs len one rep =>
        refine ⟨_, rfl, ?_⟩
        split at h
        · rename_i hu
          obtain ⟨i, hi⟩ := aggT_info hu
          refine ⟨_, _, h, fun hp => ⟨.agg ((vs.drop off).take (P.cellsOf t)).toArray, ?_, .d (.agg _ _ (by simp; omega) (fun i y hy => ?_) (fun i y v hy hv => ?_))⟩⟩
          · simp only [part, Sem.run_bind, aggT_run hu, Result.andThen_ok, if_true, run_sizeOf_of hi, Sem.run_pure]
            congr 2
            simp [List.extract_toArray]
          · simp only [List.getElem?_take] at hy
            split at hy
            · rw [List.getElem?_drop] at hy; exact one _ _ hy
            · cases hy
          · simp only [List.getElem?_take] at hy hv
            split at hv
            · rename_i hlt
              rw [if_pos hlt] at hy
              rw [List.getElem?_drop] at hy hv
              exact rep _ _ _ hy hv
            · cases hv
        · rename_i hu
          refine ⟨_, _, h, fun hp => ?_⟩
          obtain ⟨v, hv⟩ : ∃ v, vs[off]? = some v := ⟨_, List.getElem?_eq_getElem (by omega)⟩
          refine ⟨v, ?_, .d (rep off _ _ (getD_some hp) hv)⟩
          simp [part, aggT_run hu, hv]
        · exact h.elim
  · rename_i cs
    cases ha with
    | agg _ vs len one rep =>
      refine ⟨_, rfl, ?_⟩
      split at h
      · rename_i hu
        obtain ⟨i, hi⟩ := aggT_info hu
        refine ⟨_, _, h, fun hp => ⟨.agg ((vs.drop off).take (P.cellsOf t)).toArray, ?_, rep_part_list off _ len hp one rep⟩⟩
        simp only [part, Sem.run_bind, aggT_run hu, Result.andThen_ok, if_true, run_sizeOf_of hi, Sem.run_pure]
        congr 2
        simp [List.extract_toArray]
      · rename_i hu
        refine ⟨_, _, h, fun hp => ?_⟩
        obtain ⟨v, hv⟩ : ∃ v, vs[off]? = some v := ⟨_, List.getElem?_eq_getElem (by omega)⟩
        refine ⟨v, ?_, rep off _ _ (getD_some hp) hv⟩
        simp [part, aggT_run hu, hv]
      · exact h.elim
  · exact h.elim
theorem rdField_sound {t f : Nat} {k : Prop → A → Prop} {a : A} {v : Value} (ha : RepA ρ w a v) (h : rdField P t f k a) : Yld P ρ w (Instr.field t v f) k := by
  unfold rdField at h
  split at h
  · rename_i o ft hf
    obtain ⟨fs, fl, h1, h2, h3, rfl, rfl⟩ := fld_spec hf
    obtain ⟨cs, rfl, p, b, hk, hp⟩ := rdPart_sound ha h
    exact ⟨p, b, hk, fun hp' => let ⟨v, hv, hr⟩ := hp hp'; ⟨v, by simp [Instr.field, run_underlying h1, h2, asAgg, hv], hr⟩⟩
  · exact h.elim
theorem isStrT_spec {t : TypeId} (h : isStrT P t = true) : P.underlying t = some .string := by
  unfold isStrT at h
  split at h
  · assumption
  · cases h
theorem rdIndex_sound {t : TypeId} {k : Prop → A → Prop} {a c : A} {v u : Value} (ha : RepA ρ w a v) (hc : RepA ρ w c u) (h : rdIndex P t k a c) :
    Yld P ρ w (Instr.index t v u) k := by
  unfold rdIndex at h
  split at h
  · rename_i s ik n
    obtain rfl := int_form hc
    obtain ⟨b, rfl, rfl⟩ := str_form ha
    refine ⟨_, _, h, fun ⟨h0, h1, h2⟩ => ⟨_, ?_, .d (.int _ _)⟩⟩
    have hlt : n.toNat < b.data.toList.length := by omega
    have hg : b[n.toNat]? = some (b.data.toList.getD n.toNat 0) := by
      rw [show b[n.toNat]? = b.data[n.toNat]? from rfl, ← getD_some hlt, Array.getElem?_toList]
    simp [Instr.index, asIntOf, run_underlying (isStrT_spec h0), h1, hg]
  all_goals first
    | exact h.elim
    | (obtain rfl := int_form hc
       split at h
       · rename_i len e s he
         obtain ⟨hu, hs, i, hi⟩ := arrT_spec he
         obtain ⟨cs, rfl, p, b, hk, hp⟩ := rdPart_sound ha h
         refine ⟨_, b, hk, fun ⟨h1, h2, h3⟩ => ?_⟩
         obtain ⟨v, hv, hr⟩ := hp h3
         exact ⟨v, by simp [Instr.index, asIntOf, run_underlying hu, h1, h2, run_sizeOf_of hi, hs, hv], hr⟩
       · exact h.elim)
end
end Go.Ab
