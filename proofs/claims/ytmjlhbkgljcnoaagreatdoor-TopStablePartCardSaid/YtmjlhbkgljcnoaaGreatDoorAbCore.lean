/- Abstract values and stores for Go walks: what a value of the model reads as in a world, and that this reading is kept. -/
import Derived.WalkKit
import Derived.KernelRfl
namespace Go.Ab
open Go

/-- Immutable data. -/
inductive D where
  | int (k : IntKind) (n : Int)
  | bool (b : Bool)
  | str (s : List UInt8)
  | nilp | nilf | nili | nilm | nils
  | sl (sz : Nat) (xs : List D)
  | agg (cs : List D)
instance : Inhabited D := ⟨.nilp⟩
def D.cells : D → List D
  | .agg cs => cs
  | d => [d]
def D.one : D → Bool
  | .agg _ => false
  | _ => true

/-- What a slot holds. -/
inductive A where
  | d (x : D)
  | ea (x : D) (off : Nat)
  | ref (id off : Nat)
  | rs (id sz off len : Nat) (o : Option TypeId)
  | agg (cs : List A)
  | fn (f : Fn) (first captured : List A)
  | ifc (t : TypeId) (a : A)
  | tup (as : List A)
  | mapr (id : Nat)
  | grd (c : Bool) (a : A)
  | any
instance : Inhabited A := ⟨.any⟩

inductive Ob where
  | cells (cs : List A)
  | map (es : List (D × A))
  | lp (l : Nat) (r : Loop) (fr : List A)

/-- What an object's number stands for: nothing any more; a nil slice; a block. -/
inductive Rs where
  | dead | empty | live (b : Nat)
abbrev Ren := List Rs
abbrev St := List (Option Ob)
abbrev Fr := List A

def M (ρ : Ren) (b : Nat) : Prop := ∃ id : Nat, ρ[id]? = some (.live b)

inductive RepD (w : World) (m : Nat → Prop) : D → Value → Prop
  | int (k : IntKind) (n : Int) : RepD w m (.int k n) (.int k n)
  | bool (b : Bool) : RepD w m (.bool b) (.bool b)
  | str (s : ByteArray) : RepD w m (.str s.data.toList) (.string s)
  | nilp : RepD w m .nilp (.pointer none)
  | nilf : RepD w m .nilf .nilFunc
  | nili : RepD w m .nili .nilIface
  | nilm : RepD w m .nilm (.map none)
  | nils : RepD w m .nils (.slice none 0 0)
  | sl0 (sz : Nat) (a : Option Addr) (c : Nat) : RepD w m (.sl sz []) (.slice a 0 c)
  | sl (sz : Nat) (xs : List D) (b o c : Nat) (vs : Nat → Nat → Value) (hm : ¬ m b) (hb : b < w.heap.size) (hc : xs.length ≤ c)
      (len : ∀ (i : Nat) (x : D), xs[i]? = some x → x.cells.length = sz)
      (one : ∀ (i : Nat) (x : D) (j : Nat) (y : D), xs[i]? = some x → x.cells[j]? = some y → y.one = true)
      (cell : ∀ (i : Nat) (x : D) (j : Nat) (y : D), xs[i]? = some x → x.cells[j]? = some y → w.cell? ⟨b, o + i * sz + j, none⟩ = some (vs i j))
      (rep : ∀ (i : Nat) (x : D) (j : Nat) (y : D), xs[i]? = some x → x.cells[j]? = some y → RepD w m y (vs i j)) :
      RepD w m (.sl sz xs) (.slice (some ⟨b, o, none⟩) xs.length c)
  | agg (cs : List D) (vs : List Value) (len : cs.length = vs.length)
      (one : ∀ (i : Nat) (x : D), cs[i]? = some x → x.one = true)
      (rep : ∀ (i : Nat) (x : D) (v : Value), cs[i]? = some x → vs[i]? = some v → RepD w m x v) : RepD w m (.agg cs) (.agg vs.toArray)

inductive RepA (ρ : Ren) (w : World) : A → Value → Prop
  | d {x : D} {v : Value} (h : RepD w (M ρ) x v) : RepA ρ w (.d x) v
  | ea (x : D) (off b o : Nat) (vs : Nat → Value) (hm : ¬ M ρ b) (hb : b < w.heap.size)
      (one : ∀ (j : Nat) (y : D), x.cells[j]? = some y → y.one = true)
      (cell : ∀ (j : Nat) (y : D), x.cells[j]? = some y → w.cell? ⟨b, o + j, none⟩ = some (vs j))
      (rep : ∀ (j : Nat) (y : D), x.cells[j]? = some y → RepD w (M ρ) y (vs j)) : RepA ρ w (.ea x off) (.pointer (some ⟨b, o + off, none⟩))
  | ref {id b : Nat} (off : Nat) (h : ρ[id]? = some (.live b)) : RepA ρ w (.ref id off) (.pointer (some ⟨b, off, none⟩))
  | refDead {id : Nat} (off : Nat) (v : Value) (h : ρ[id]? = some .dead) : RepA ρ w (.ref id off) v
  | rs {id b sz off len cap e : Nat} {z : Nat × Nat} {vs : Array Value} {ow : Option TypeId} (h : ρ[id]? = some (.live b)) (hb : w.heap[b]? = some (.cells vs e z)) (hc : len ≤ cap) (hs : off + cap * sz ≤ vs.size)
      (ho : ∀ e', ow = some e' → e' = e ∧ off = 0 ∧ vs.size = cap * sz ∧ cap ≤ maxLen) :
      RepA ρ w (.rs id sz off len ow) (.slice (some ⟨b, off, none⟩) len cap)
  | rsEmpty {id : Nat} (sz : Nat) (ow : Option TypeId) (h : ρ[id]? = some .empty) : RepA ρ w (.rs id sz 0 0 ow) (.slice none 0 0)
  | rsDead {id : Nat} (sz off len : Nat) (ow : Option TypeId) (v : Value) (h : ρ[id]? = some .dead) : RepA ρ w (.rs id sz off len ow) v
  | mapr {id b : Nat} (h : ρ[id]? = some (.live b)) : RepA ρ w (.mapr id) (.map (some b))
  | mapDead {id : Nat} (b : Nat) (h : ρ[id]? = some .dead) : RepA ρ w (.mapr id) (.map (some b))
  | agg (cs : List A) (vs : List Value) (len : cs.length = vs.length) (one : ∀ (i : Nat) (v : Value), vs[i]? = some v → v.oneCell' = true)
      (rep : ∀ (i : Nat) (x : A) (v : Value), cs[i]? = some x → vs[i]? = some v → RepA ρ w x v) : RepA ρ w (.agg cs) (.agg vs.toArray)
  | tup (cs : List A) (vs : List Value) (len : cs.length = vs.length)
      (rep : ∀ (i : Nat) (x : A) (v : Value), cs[i]? = some x → vs[i]? = some v → RepA ρ w x v) : RepA ρ w (.tup cs) (.tuple vs.toArray)
  | fn (f : Fn) (cs ds : List A) (vs us : List Value) (len : cs.length = vs.length) (len' : ds.length = us.length)
      (rep : ∀ (i : Nat) (x : A) (v : Value), cs[i]? = some x → vs[i]? = some v → RepA ρ w x v)
      (rep' : ∀ (i : Nat) (x : A) (v : Value), ds[i]? = some x → us[i]? = some v → RepA ρ w x v) : RepA ρ w (.fn f cs ds) (.func f vs.toArray us.toArray)
  | ifc (t : TypeId) {a : A} {v : Value} (h : RepA ρ w a v) : RepA ρ w (.ifc t a) (.iface t v)
  | grd (c : Bool) {a : A} {v : Value} (h : c = true → RepA ρ w a v) (h' : c = false → v = undef) : RepA ρ w (.grd c a) v
  | any (v : Value) : RepA ρ w .any v

/-- The lists of abstract and concrete values, one by one. -/
def RepL (ρ : Ren) (w : World) (xs : List A) (vs : List Value) : Prop :=
  xs.length = vs.length ∧ ∀ (i : Nat) (x : A) (v : Value), xs[i]? = some x → vs[i]? = some v → RepA ρ w x v

/-- From (ρ, w) on: nothing but the blocks of ρ, and what is new, has turned. -/
structure Ext (ρ : Ren) (w : World) (ρ' : Ren) (w' : World) : Prop where
  os : w'.os = w.os
  tape : w'.tape = w.tape
  output : w'.output = w.output
  size : w.heap.size ≤ w'.heap.size
  len : ρ.length ≤ ρ'.length
  ids : ∀ (id : Nat) (r : Rs), ρ[id]? = some r → ρ'[id]? = some r ∨ ρ'[id]? = some .dead
  fresh : ∀ b, M ρ' b → b < w.heap.size → M ρ b
  block : ∀ b, b < w.heap.size → ¬ M ρ b → w'.heap[b]? = w.heap[b]?
  shape : ∀ (b : Nat) (vs : Array Value) (e : TypeId) (z : Nat × Nat), w.heap[b]? = some (.cells vs e z) → ∃ vs', w'.heap[b]? = some (.cells vs' e z) ∧ vs'.size = vs.size

theorem Ext.refl (ρ : Ren) (w : World) : Ext ρ w ρ w :=
  ⟨rfl, rfl, rfl, Nat.le_refl _, Nat.le_refl _, fun _ _ h => .inl h, fun _ h _ => h, fun _ _ _ => rfl, fun _ vs _ _ h => ⟨vs, h, rfl⟩⟩

theorem Ext.trans {ρ ρ' ρ'' : Ren} {w w' w'' : World} (h : Ext ρ w ρ' w') (k : Ext ρ' w' ρ'' w'') : Ext ρ w ρ'' w'' where
  os := k.os.trans h.os
  tape := k.tape.trans h.tape
  output := k.output.trans h.output
  size := Nat.le_trans h.size k.size
  len := Nat.le_trans h.len k.len
  ids := fun id r hr => by
    rcases h.ids id r hr with h1 | h1
    · exact k.ids id r h1
    · rcases k.ids id .dead h1 with h2 | h2 <;> exact .inr h2
  fresh := fun b hb hlt => h.fresh b (k.fresh b hb (Nat.lt_of_lt_of_le hlt h.size)) hlt
  block := fun b hlt hm => (k.block b (Nat.lt_of_lt_of_le hlt h.size) (fun hm' => hm (h.fresh b hm' hlt))).trans (h.block b hlt hm)
  shape := fun b vs e z hb => by
    obtain ⟨vs', h1, h2⟩ := h.shape b vs e z hb
    obtain ⟨vs'', h3, h4⟩ := k.shape b vs' e z h1
    exact ⟨vs'', h3, h4.trans h2⟩

theorem RepD.ext {ρ ρ' : Ren} {w w' : World} {x : D} {v : Value} (h : RepD w (M ρ) x v) (hx : Ext ρ w ρ' w') : RepD w' (M ρ') x v := by
  induction h with
  | int k n => exact .int k n
  | bool b => exact .bool b
  | str s => exact .str s
  | nilp => exact .nilp
  | nilf => exact .nilf
  | nili => exact .nili
  | nilm => exact .nilm
  | nils => exact .nils
  | sl0 sz a c => exact .sl0 sz a c
  | sl sz xs b o c vs hm hb hc len one cell rep ih =>
    exact .sl sz xs b o c vs (fun h => hm (hx.fresh b h hb)) (Nat.lt_of_lt_of_le hb hx.size) hc len one
      (fun i x j y h1 h2 => by rw [← cell i x j y h1 h2]; exact World.cell?_of_block (hx.block b hb hm)) ih
  | agg cs vs len one rep ih => exact .agg cs vs len one ih

theorem RepA.ext {ρ ρ' : Ren} {w w' : World} {x : A} {v : Value} (h : RepA ρ w x v) (hx : Ext ρ w ρ' w') : RepA ρ' w' x v := by
  induction h with
  | d h => exact .d (h.ext hx)
  | ea x off b o vs hm hb one cell rep =>
    exact .ea x off b o vs (fun h => hm (hx.fresh b h hb)) (Nat.lt_of_lt_of_le hb hx.size) one
      (fun j y h1 => by rw [← cell j y h1]; exact World.cell?_of_block (hx.block b hb hm)) (fun j y h1 => (rep j y h1).ext hx)
  | ref off h => rcases hx.ids _ _ h with h1 | h1
                 · exact .ref off h1
                 · exact .refDead off _ h1
  | refDead off v h => rcases hx.ids _ _ h with h1 | h1 <;> exact .refDead off v h1
  | rs h hb hc hs ho =>
    obtain ⟨vs', h2, h3⟩ := hx.shape _ _ _ _ hb
    rcases hx.ids _ _ h with h1 | h1
    · exact .rs h1 h2 hc (by rw [h3]; exact hs) (fun e' he => by rw [h3]; exact ho e' he)
    · exact .rsDead _ _ _ _ _ h1
  | rsEmpty sz ow h => rcases hx.ids _ _ h with h1 | h1
                       · exact .rsEmpty sz ow h1
                       · exact .rsDead _ _ _ _ _ h1
  | rsDead sz off len ow v h => rcases hx.ids _ _ h with h1 | h1 <;> exact .rsDead sz off len ow v h1
  | mapr h => rcases hx.ids _ _ h with h1 | h1
              · exact .mapr h1
              · exact .mapDead _ h1
  | mapDead v h => rcases hx.ids _ _ h with h1 | h1 <;> exact .mapDead v h1
  | agg cs vs len one rep ih => exact .agg cs vs len one ih
  | tup cs vs len rep ih => exact .tup cs vs len ih
  | fn f cs ds vs us len len' rep rep' ih ih' => exact .fn f cs ds vs us len len' ih ih'
  | ifc t h ih => exact .ifc t ih
  | grd c h h' ih => exact .grd c ih h'
  | any v => exact .any v

theorem RepL.ext {ρ ρ' : Ren} {w w' : World} {xs : List A} {vs : List Value} (h : RepL ρ w xs vs) (hx : Ext ρ w ρ' w') : RepL ρ' w' xs vs :=
  ⟨h.1, fun i x v h1 h2 => (h.2 i x v h1 h2).ext hx⟩

mutual
/-- All numbers of objects in it are below n, and nothing in it is there under a guard alone. -/
def A.bd (n : Nat) : A → Bool
  | .d _ => true
  | .ea _ _ => true
  | .ref id _ => decide (id < n)
  | .rs id _ _ _ _ => decide (id < n)
  | .mapr id => decide (id < n)
  | .agg cs => bdL n cs
  | .tup cs => bdL n cs
  | .fn _ cs ds => bdL n cs && bdL n ds
  | .ifc _ a => a.bd n
  | .grd _ _ => false
  | .any => true
def bdL (n : Nat) : List A → Bool
  | [] => true
  | a :: r => a.bd n && bdL n r
end
theorem bdL_spec {n : Nat} : ∀ {l : List A}, bdL n l = true → ∀ (i : Nat) (x : A), l[i]? = some x → x.bd n = true
  | [], _, i, x, h => by simp at h
  | a :: l, h, i, x, hx => by
    simp only [bdL, Bool.and_eq_true] at h
    match i with
    | 0 => simp at hx; subst hx; exact h.1
    | i + 1 => exact bdL_spec h.2 i x (by simpa using hx)
theorem bdL_of {n : Nat} : ∀ {l : List A}, (∀ x ∈ l, x.bd n = true) → bdL n l = true
  | [], _ => rfl
  | a :: l, h => by
    simp only [bdL, Bool.and_eq_true]
    exact ⟨h a (by simp), bdL_of fun x hx => h x (by simp [hx])⟩
theorem bdL_mem {n : Nat} {l : List A} (h : bdL n l = true) : ∀ x ∈ l, x.bd n = true := fun x hx => by
  obtain ⟨i, hi, rfl⟩ := List.getElem_of_mem hx
  exact bdL_spec h i _ (List.getElem?_eq_getElem hi)
theorem bdL_append {n : Nat} {l m : List A} (h : bdL n l = true) (k : bdL n m = true) : bdL n (l ++ m) = true :=
  bdL_of fun x hx => by rcases List.mem_append.1 hx with hx | hx; exact bdL_mem h x hx; exact bdL_mem k x hx
mutual
theorem A.bd_mono {n m : Nat} (h : n ≤ m) : ∀ (a : A), a.bd n = true → a.bd m = true
  | .d _, _ => rfl
  | .ea _ _, _ => rfl
  | .ref id _, hb => by simp only [A.bd, decide_eq_true_eq] at hb ⊢; omega
  | .rs id _ _ _ _, hb => by simp only [A.bd, decide_eq_true_eq] at hb ⊢; omega
  | .mapr id, hb => by simp only [A.bd, decide_eq_true_eq] at hb ⊢; omega
  | .agg cs, hb => by simp only [A.bd] at hb ⊢; exact bdL_mono h cs hb
  | .tup cs, hb => by simp only [A.bd] at hb ⊢; exact bdL_mono h cs hb
  | .fn _ cs ds, hb => by simp only [A.bd, Bool.and_eq_true] at hb ⊢; exact ⟨bdL_mono h cs hb.1, bdL_mono h ds hb.2⟩
  | .ifc _ a, hb => by simp only [A.bd] at hb ⊢; exact A.bd_mono h a hb
  | .grd _ _, hb => by simp [A.bd] at hb
  | .any, _ => rfl
theorem bdL_mono {n m : Nat} (h : n ≤ m) : ∀ (l : List A), bdL n l = true → bdL m l = true
  | [], _ => rfl
  | a :: l, hb => by simp only [bdL, Bool.and_eq_true] at hb ⊢; exact ⟨A.bd_mono h a hb.1, bdL_mono h l hb.2⟩
end
/-- Fewer objects: what names none of those that are let go reads as it did. -/
theorem RepA.cut {ρ ρ' : Ren} {w : World} {x : A} {v : Value} {n : Nat} (h : RepA ρ w x v) (hn : ∀ i, i < n → ρ'[i]? = ρ[i]?) (hm : ∀ b, M ρ' b → M ρ b) : x.bd n = true → RepA ρ' w x v := by
  have hd : ∀ {y : D} {u : Value}, RepD w (M ρ) y u → RepD w (M ρ') y u := fun {y u} h => by
    induction h with
    | int k n => exact .int k n
    | bool b => exact .bool b
    | str s => exact .str s
    | nilp => exact .nilp
    | nilf => exact .nilf
    | nili => exact .nili
    | nilm => exact .nilm
    | nils => exact .nils
    | sl0 sz a c => exact .sl0 sz a c
    | sl sz xs b o c vs hm' hb hc len one cell rep ih => exact .sl sz xs b o c vs (fun h => hm' (hm b h)) hb hc len one cell ih
    | agg cs vs len one rep ih => exact .agg cs vs len one ih
  induction h with
  | d h => exact fun _ => .d (hd h)
  | ea x off b o vs hm' hb one cell rep => exact fun _ => .ea x off b o vs (fun h => hm' (hm b h)) hb one cell (fun j y h1 => hd (rep j y h1))
  | ref off h => intro hb; simp only [A.bd, decide_eq_true_eq] at hb; exact .ref off ((hn _ hb).trans h)
  | refDead off v h => intro hb; simp only [A.bd, decide_eq_true_eq] at hb; exact .refDead off v ((hn _ hb).trans h)
  | rs h hb hc hs ho => intro hb'; simp only [A.bd, decide_eq_true_eq] at hb'; exact .rs ((hn _ hb').trans h) hb hc hs ho
  | rsEmpty sz ow h => intro hb; simp only [A.bd, decide_eq_true_eq] at hb; exact .rsEmpty sz ow ((hn _ hb).trans h)
  | rsDead sz off len ow v h => intro hb; simp only [A.bd, decide_eq_true_eq] at hb; exact .rsDead sz off len ow v ((hn _ hb).trans h)
  | mapr h => intro hb; simp only [A.bd, decide_eq_true_eq] at hb; exact .mapr ((hn _ hb).trans h)
  | mapDead v h => intro hb; simp only [A.bd, decide_eq_true_eq] at hb; exact .mapDead v ((hn _ hb).trans h)
  | agg cs vs len one rep ih => intro hb; simp only [A.bd] at hb; exact .agg cs vs len one fun i x v h1 h2 => ih i x v h1 h2 (bdL_spec hb i x h1)
  | tup cs vs len rep ih => intro hb; simp only [A.bd] at hb; exact .tup cs vs len fun i x v h1 h2 => ih i x v h1 h2 (bdL_spec hb i x h1)
  | fn f cs ds vs us len len' rep rep' ih ih' =>
    intro hb; simp only [A.bd, Bool.and_eq_true] at hb
    exact .fn f cs ds vs us len len' (fun i x v h1 h2 => ih i x v h1 h2 (bdL_spec hb.1 i x h1)) (fun i x v h1 h2 => ih' i x v h1 h2 (bdL_spec hb.2 i x h1))
  | ifc t h ih => intro hb; simp only [A.bd] at hb; exact .ifc t (ih hb)
  | grd c h h' ih => intro hb; simp [A.bd] at hb
  | any v => exact fun _ => .any v

def Ob.bd (n : Nat) : Ob → Bool
  | .cells cs => bdL n cs
  | .map es => es.all fun e => e.2.bd n
  | .lp _ _ fr => bdL n fr
theorem Ob.bd_mono {n m : Nat} (h : n ≤ m) : ∀ (o : Ob), o.bd n = true → o.bd m = true
  | .cells cs, hb => bdL_mono h cs hb
  | .map es, hb => by
    simp only [Ob.bd, List.all_eq_true] at hb ⊢
    exact fun e he => A.bd_mono h _ (hb e he)
  | .lp _ _ fr, hb => bdL_mono h fr hb
/-- The objects name none but these. -/
def Bd (n : Nat) (σ : St) : Prop := ∀ (id : Nat) (o : Ob), σ[id]? = some (some o) → o.bd n = true

/-- An object as it lies in block b. -/
def ObjRep (ρ : Ren) (w : World) : Ob → Nat → Prop
  | .cells cs, b => ∃ vs e, w.heap[b]? = some (.cells vs e (0, 0)) ∧ cs.length ≤ vs.size ∧
      ∀ (i : Nat) (x : A), cs[i]? = some x → ∃ v, vs[i]? = some v ∧ v.oneCell' = true ∧ RepA ρ w x v
  | .map es, b => ∃ ms clock, w.heap[b]? = some (.map ms clock) ∧ es.length = ms.size ∧
      ∀ (i : Nat) (x : D × A) (m : MapEntry), es[i]? = some x → ms[i]? = some m → RepD w (M ρ) x.1 m.key ∧ RepA ρ w x.2 m.val
  | .lp l r fr, b => b = l ∧ w.heap[b]? = some (.loop r) ∧ RepL ρ w fr r.tmps.toList

/-- What lies in the program's variables; what may be of a panic's value and of the store when one comes. -/
structure Glob where
  g : Nat → Option D
  pan : A → St → Prop

structure Inv (G : Glob) (ρ : Ren) (σ : St) (w : World) : Prop where
  len : ρ.length = σ.length
  inj : ∀ (i j b : Nat), ρ[i]? = some (.live b) → ρ[j]? = some (.live b) → i = j
  lt : ∀ (i b : Nat), ρ[i]? = some (.live b) → b < w.heap.size
  obj : ∀ (id : Nat) (o : Ob), σ[id]? = some (some o) → (∃ b, ρ[id]? = some (.live b) ∧ ObjRep ρ w o b) ∨ (ρ[id]? = some .empty ∧ o = .cells [])
  glob : ∀ (g : Nat) (x : D), G.g g = some x → RepA ρ w (.ea x 0) (.pointer (some ⟨g, 0, none⟩))
  bd : Bd σ.length σ
  own : ∀ b, M ρ b → ∀ ds, w.heap[b]? ≠ some (.deferred ds)

def Glob.calm (G : Glob) : Glob := ⟨G.g, fun _ _ => False⟩
theorem Inv.turn {G G' : Glob} {ρ : Ren} {σ : St} {w : World} (h : Inv G ρ σ w) (e : G'.g = G.g) : Inv G' ρ σ w := ⟨h.len, h.inj, h.lt, h.obj, by rw [e]; exact h.glob, h.bd, h.own⟩

end Go.Ab
