/- One operation over abstract frames and stores; calls; the contract of a function. -/
import Derived.Test.YtmjlhbkgljcnoaaGreatDoorAbCmp
import Derived.CallsIn
import Derived.TacticsIn
import Derived.OrdersIn
import Derived.RangeFuncIn
import Derived.RangeFuncRecord
import Derived.RangeFuncLeaves
import Derived.Sort.LoopGhostIn
namespace Go.Ab
open Go Go.RowKit

/-- May the function be entered? -/
def callable (P : Program) (f : FuncId) : Bool := match P.funcs[f]? with
  | some fn => (fn.name != "runtime.NumGoroutine") && fn.body.isSome
  | none => false
/-- What a panic comes to: one value; the store at that point. -/
def Pan (G : Glob) (ρ : Ren) (w : World) (chain : List PanicEntry) (w' : World) : Prop :=
  ∃ v ρ' σ' r, chain = [{ v, recovered := false }] ∧ Ext ρ w ρ' w' ∧ Inv G ρ' σ' w' ∧ RepA ρ' w' r v ∧ G.pan r σ'
/-- What a call comes to. -/
def Called (P : Program) (G : Glob) (ρ : Ren) (w : World) (k : A → St → Prop) (e : Ending) (w' : World) : Prop :=
  (∃ v ρ' σ' r, e = .returned v ∧ Ext ρ w ρ' w' ∧ Inv G ρ' σ' w' ∧ RepA ρ' w' r v ∧ k r σ') ∨ ∃ chain, e = .panicked chain ∧ Pan G ρ w chain w'
theorem Pan.pre {G : Glob} {ρ ρ' : Ren} {w w' w'' : World} {chain : List PanicEntry} (hx : Ext ρ w ρ' w') (h : Pan G ρ' w' chain w'') : Pan G ρ w chain w'' := by
  obtain ⟨v, ρ2, σ2, r, a, b, c⟩ := h
  exact ⟨v, ρ2, σ2, r, a, hx.trans b, c⟩
theorem Called.mono {P : Program} {G : Glob} {ρ : Ren} {w w' : World} {k k' : A → St → Prop} {e : Ending} (h : Called P G ρ w k e w') (hk : ∀ r σ, k r σ → k' r σ) : Called P G ρ w k' e w' := by
  rcases h with ⟨v, ρ', σ', r, a, b, c, d, e⟩ | h
  · exact .inl ⟨v, ρ', σ', r, a, b, c, d, hk _ _ e⟩
  · exact .inr h
theorem Called.pre {P : Program} {G : Glob} {ρ ρ' : Ren} {w w' w'' : World} {k : A → St → Prop} {e : Ending} (hx : Ext ρ w ρ' w') (h : Called P G ρ' w' k e w'') : Called P G ρ w k e w'' := by
  rcases h with ⟨v, ρ2, σ2, r, a, b, c⟩ | ⟨chain, a, b⟩
  · exact .inl ⟨v, ρ2, σ2, r, a, hx.trans b, c⟩
  · exact .inr ⟨chain, a, b.pre hx⟩
/-- THE CONTRACT OF A FUNCTION: from whatever world that holds the store and the arguments it returns, and R holds of its result and the store; or it panics, as G lets it. -/
def AC (P : Program) (G : Glob) (f : FuncId) (args : List A) (σ : St) (R : A → St → Prop) : Prop :=
  callable P f = true ∧ ∀ ρ w vs, Inv G ρ σ w → RepL ρ w args vs → Calls P f vs.toArray w (Called P G ρ w R)
theorem AC.mono {P : Program} {G : Glob} {f : FuncId} {args : List A} {σ : St} {R R' : A → St → Prop} (h : AC P G f args σ R) (hr : ∀ r σ', R r σ' → R' r σ') : AC P G f args σ R' :=
  ⟨h.1, fun ρ w vs hI hL => (h.2 ρ w vs hI hL).mono fun _ _ k => k.mono hr⟩
/-- A contract without a panic holds whatever panics are let. -/
theorem AC.calm {P : Program} {G : Glob} {f : FuncId} {args : List A} {σ : St} {R : A → St → Prop} (h : AC P G.calm f args σ R) : AC P G f args σ R :=
  ⟨h.1, fun ρ w vs hI hL => (h.2 ρ w vs (hI.turn rfl) hL).mono fun _ _ k => by
    rcases k with ⟨v, ρ2, σ2, r, a, b, c, d⟩ | ⟨chain, _, v, ρ2, σ2, r, _, _, _, _, h⟩
    · exact .inl ⟨v, ρ2, σ2, r, a, b, c.turn rfl, d⟩
    · exact h.elim⟩
/-- Where code is walked: in an activation of a function, or in a round of a range over a function. -/
def RF (rd : Option Nat) : Fence := { fn := fun _ => True, depth := none, alive := false, round := rd }
theorem callsIn_RF {rd : Option Nat} {n : Nat} {P : Program} {f : FuncId} {args : Array Value} {w : World} {R : Ending → World → Prop} (h : Calls P f args w R) : CallsIn (RF rd) n P f args w R := (callsIn_wide (n := n)).2 h
theorem semAt_RF {rd : Option Nat} {ρ : Operand → Value} {o : Oper} (h : ∀ c, o.op ≠ .defer c) : o.semAt rd ρ = execOp ρ o := by
  cases rd with
  | none => exact Oper.semAt_none ρ o
  | some l => exact Oper.semAt_some l ρ o h
/-- A CALL OF yield: one round of the loop whose record is block l. -/
def YC (P : Program) (G : Glob) (l : Nat) (args : List A) (σ : St) (k : A → St → Prop) : Prop :=
  ∀ ρ w vs, Inv G ρ σ w → RepL ρ w args vs → ∃ fn tmps assign body, (Instr.yield l vs.toArray).run P w = .ok (.round l fn tmps assign body) w ∧
    RoundIn (RF none) 0 P l fn tmps assign body w fun e w' => ∃ v ρ' σ' r, e = .returned v ∧ Ext ρ w ρ' w' ∧ Inv G ρ' σ' w' ∧ RepA ρ' w' r v ∧ k r σ'
theorem YC.mono {P : Program} {G : Glob} {l : Nat} {args : List A} {σ : St} {R R' : A → St → Prop} (h : YC P G l args σ R) (hr : ∀ r σ', R r σ' → R' r σ') : YC P G l args σ R' := fun ρ w vs hI hL => by
  obtain ⟨fn, tmps, assign, body, h1, h2⟩ := h ρ w vs hI hL
  exact ⟨fn, tmps, assign, body, h1, h2.mono fun e w' ⟨v, ρ', σ', r, a, b, c, d, hR⟩ => ⟨v, ρ', σ', r, a, b, c, d, hr r σ' hR⟩⟩
/-- What a method is handed of the interface's value: itself; what it points at; a part of what it points at. -/
inductive Rc where
  | self
  | load (t : TypeId)
  | fld (s : TypeId) (i : Nat)
/-- A method of a type, by its name: the function; what it is handed. -/
def methT (P : Program) (t : TypeId) (name : String) : Option (FuncId × Rc) := match P.info? t with
  | some i => match i.methods.find? (·.name == name) with
    | some m => match m.path.toList with
      | [] => (match m.func, P.underlying t with
        | some (f, true), some (.pointer _) => some (f, .self)
        | some (f, false), some (.pointer e) => some (f, .load e)
        | some (_, true), _ => none
        | some (f, false), some _ => some (f, .self)
        | _, _ => none)
      | [s] => (match s.deref, m.func, P.underlying s.struct with
        | true, some (f, true), some (.struct fs) => (match fs[s.index]? with
          | some fl => (match P.underlying fl.type with
            | some (.struct _) => some (f, .fld s.struct s.index)
            | _ => none)
          | none => none)
        | _, _, _ => none)
      | _ => none
    | none => none
  | none => none
def placeOf (P : Program) (t : TypeId) : Option (Nat → Option (Nat × Nat)) := match P.underlying t with
  | some (.struct fs) => match fs.toList.mapM (fun f => (P.info? f.type).map fun i => (f.offset, i.size)) with
    | some ps => some fun i => ps.toArray[i]?
    | none => none
  | some (.array _ e) => match P.info? e with
    | some ie => some fun i => some (i * ie.size, ie.size)
    | none => none
  | _ => none
def rdBuild (P : Program) (σ : St) (t : TypeId) (ps : List (Nat × A)) (k : Prop → A → Prop) : Prop := match zeroA P t, placeOf P t with
  | some zs, some pl => match fillA pl zs ps with
    | some cs => k (zs.all (oneA []) = true ∧ ps.all (fun p => okA σ p.2) = true) (mkAgg cs)
    | none => False
  | _, _ => False
/-- The lesser, the greater of two integers. -/
def rdMinMax (g : Bool) (k : Prop → A → Prop) : A → A → Prop
  | .d (.int ik a), .d (.int ik' b) => if ik = ik' then k True (.d (.int ik (if g then max a b else min a b))) else False
  | _, _ => False
/-- The room of a nil slice. -/
def rdCap (P : Program) (t : TypeId) (k : Prop → A → Prop) : A → Prop
  | .d .nils => k ((elemT P t).isSome = true) (.d (.int .i64 0))
  | _ => False
def rdBuiltin (P : Program) (σ : St) (b : Builtin) (k : Prop → A → Prop) : List A → List TypeId → Prop
  | [x], [t] => match b with
    | .len => rdLen P σ t k x
    | .cap => rdCap P t k x
    | _ => False
  | [x, y], [_, _] => match b with
    | .min => rdMinMax false k x y
    | .max => rdMinMax true k x y
    | _ => False
  | _, _ => False
/-- What is not nil stays. -/
def rdNil (σ : St) (k : Prop → A → Prop) : A → Prop
  | .ref id off => k (liveId σ id = true) (.ref id off)
  | .ea x off => k True (.ea x off)
  | .fn (.func f) a b => k True (.fn (.func f) a b)
  | .ifc t a => k True (.ifc t a)
  | _ => False
/-- The operations that only read. -/
def rd (P : Program) (σ : St) (e : Operand → A) (op : Op) (k : Prop → A → Prop) : Prop := match op with
  | .move x => k True (e x)
  | .assign x => k True (e x)
  | .pick c a b => rdPick k (e c) (e a) (e b)
  | .load t a => rdLoad P σ t k (e a)
  | .fieldAddr t x f => rdFieldAddr P σ t f k (e x)
  | .field t x f => rdField P t f k (e x)
  | .indexAddr t x i => rdIndexAddr P σ t k (e x) (e i)
  | .index t x i => rdIndex P t k (e x) (e i)
  | .binOp op t x y _ => rdBin P op t k (e x) (e y)
  | .unOp op _ x => rdUn op k (e x)
  | .convert s d x => rdConvert P σ s d k (e x)
  | .slice t x lo hi none => rdSlice P σ t k (e x) (lo.map e) (hi.map e)
  | .extract x i => rdExtract k i (e x)
  | .makeInterface t x => k (aggT P t ≠ none ∧ isIfaceT P t = false) (.ifc t (e x))
  | .makeFunc f first cap => k True (.fn f (first.toList.map e) (cap.toList.map e))
  | .typeAssert x _ t ok => rdAssert P t ok k (e x)
  | .build t ps => rdBuild P σ t (ps.toList.map fun p => (p.1, e p.2)) k
  | .lookup t x i ok => rdLookup P σ t ok k (e x) (e i)
  | .nilCheck x => rdNil σ k (e x)
  | .call c => match c.callee with
    | .builtin b => rdBuiltin P σ b k (c.args.toList.map e) c.argTypes.toList
    | _ => False
  | _ => False
def callV (P : Program) (G : Glob) (σ : St) (f : A) (args : List A) (k : A → St → Prop) : Prop := match f with
  | .fn (.func g) first cap => AC P G g (first ++ args ++ cap) σ k
  | .fn (.yield l) [] _ => YC P G l args σ k
  | _ => False
/-- A call by an interface's method. -/
def callI (P : Program) (G : Glob) (σ : St) (r : A) (name : String) (args : List A) (k : A → St → Prop) : Prop := match r with
  | .ifc t a => match methT P t name with
    | some (f, .self) => AC P G f (a :: args) σ k
    | some (f, .load e) => rdLoad P σ e (fun p x => p ∧ AC P G f (x :: args) σ k) a
    | some (f, .fld s i) => rdFieldAddr P σ s i (fun p x => p ∧ AC P G f (x :: args) σ k) a
    | none => False
  | _ => False
/-- An append: of fresh zeros, or of what a slice or a string holds. -/
def wrApp (P : Program) (σ : St) (t tx : TypeId) (a x : A) (k : Prop → A → St → Prop) : Prop := match x with
  | .d (.int _ n) => wrGrow P σ t tx a n k
  | x => wrAppend P σ t tx a x k
def wrBuiltin (P : Program) (σ : St) (b : Builtin) (args : List A) (ts : List TypeId) (k : A → St → Prop) : Prop := match b with
  | .append => match args, ts with
    | [a, x], [t, tx] => wrApp P σ t tx a x fun p a σ' => p ∧ k a σ'
    | _, _ => False
  | .delete => match args, ts with
    | [m, x], t :: _ => wrDelete P σ t m x fun p a σ' => p ∧ k a σ'
    | _, _ => False
  | .clear => match args, ts with
    | [x], [t] => wrClear P σ t x fun p a σ' => p ∧ k a σ'
    | _, _ => False
  | .copy => match args, ts with
    | [a, x], [t, tx] => wrCopy P σ t tx a x fun p a σ' => p ∧ k a σ'
    | _, _ => False
  | b => rdBuiltin P σ b (fun p a => p ∧ k a σ) args ts
/-- ONE OPERATION. -/
def op1 (P : Program) (G : Glob) (σ : St) (e : Operand → A) (op : Op) (k : A → St → Prop) : Prop := match op with
  | .alloc t => wrAlloc P σ t fun p a σ' => p ∧ k a σ'
  | .box _ x => wrBox σ (e x) fun p a σ' => p ∧ k a σ'
  | .buildSlice t n ps => wrBuildSlice P σ t n (ps.toList.map fun p => (p.1, e p.2)) fun p a σ' => p ∧ k a σ'
  | .makeSlice t l c => wrMakeSlice P σ t (e l) (e c) fun p a σ' => p ∧ k a σ'
  | .store t a x => wrStore P σ t (e a) (e x) fun p a σ' => p ∧ k a σ'
  | .makeMap _ none => wrMakeMap σ fun p a σ' => p ∧ k a σ'
  | .mapUpdate t m x v => wrMapUpdate P σ t (e m) (e x) (e v) fun p a σ' => p ∧ k a σ'
  | .insert t m x v => wrMapUpdate P σ t (e m) (e x) (e v) fun p a σ' => p ∧ k a σ'
  | .panic x => (∃ t a, e x = .ifc t a) ∧ G.pan (e x) σ
  | .binOp o t x y ty => match nilC o y with
    | some q => wrNil P σ q t k (e x)
    | none => rd P σ e (.binOp o t x y ty) fun p a => p ∧ k a σ
  | .call c => match c.callee with
    | .value f => callV P G σ (e f) (c.args.toList.map e) k
    | .invoke r name => callI P G σ (e r) name (c.args.toList.map e) k
    | .builtin b => wrBuiltin P σ b (c.args.toList.map e) c.argTypes.toList k
  | op => rd P σ e op fun p a => p ∧ k a σ

section
variable {P : Program} {ρ ρ' : Ren} {w w' : World} {σ : St} {G : Glob}

theorem placeOf_spec {t : TypeId} {pl : Nat → Option (Nat × Nat)} (h : placeOf P t = some pl) : (∃ fs ps, P.underlying t = some (.struct fs) ∧ fs.toList.mapM (fun f => (P.info? f.type).map fun i => (f.offset, i.size)) = some ps ∧ pl = fun i => ps.toArray[i]?) ∨
    ∃ n e ie, P.underlying t = some (.array n e) ∧ P.info? e = some ie ∧ pl = fun i => some (i * ie.size, ie.size) := by
  unfold placeOf at h
  split at h
  · rename_i fs hu
    split at h
    · rename_i ps hp; injection h with h; exact .inl ⟨fs, ps, hu, hp, h.symm⟩
    · cases h
  · rename_i n e hu
    split at h
    · rename_i ie hi; injection h with h; exact .inr ⟨n, e, ie, hu, hi, h.symm⟩
    · cases h
  · cases h
theorem rdBuild_sound {t : TypeId} {ps : List (Nat × A)} {qs : Array (Nat × Value)} {k : Prop → A → Prop} (hI : Inv G ρ σ w) (hp : PartsRep ρ w σ ps qs.toList) (h : rdBuild P σ t ps k) : Yld P ρ w (Instr.build t qs) k := by
  unfold rdBuild at h
  split at h
  · rename_i zs pl hz hpl
    split at h
    · rename_i cs hf
      obtain ⟨i, z, hi, hz', rfl⟩ := zeroA_spec hz
      refine ⟨_, _, h, fun ⟨p1, p2⟩ => ?_⟩
      obtain ⟨h1, h2⟩ := zero_reps (ρ := ρ) (w := w) p1
      obtain ⟨vs', hfl, hS⟩ := fill_sound hI ps qs.toList _ cs z.cells.toList hp p2 ⟨by simp, h1, h2⟩ hf
      rcases placeOf_spec hpl with ⟨fs, pls, hu, hpls, rfl⟩ | ⟨n, e, ie, hu, hie, rfl⟩
      · refine ⟨_, run_build (P := P) w t qs vs'.toArray (by
          unfold Program.built
          simp only [hi, hu, hz', hpls]
          simpa using hfl), rep_mkAgg hS.1 (fun i v hv => hS.2.1 v (List.mem_of_getElem? hv)) hS.2.2⟩
      · refine ⟨_, run_build (P := P) w t qs vs'.toArray (by
          unfold Program.built
          simp only [hi, hu, hz', hie]
          simpa using hfl), rep_mkAgg hS.1 (fun i v hv => hS.2.1 v (List.mem_of_getElem? hv)) hS.2.2⟩
    · exact h.elim
  · exact h.elim

/-- What holds of an operation's run. -/
def YldN (P : Program) (ρ : Ren) (w : World) (s : Sem Next) (k : Prop → A → Prop) : Prop :=
  ∃ p a, k p a ∧ (p → ∃ v, s.run P w = .ok (.value v) w ∧ RepA ρ w a v)
theorem Yld.next {s : Sem Value} {k : Prop → A → Prop} (h : Yld P ρ w s k) : YldN P ρ w (do pure (.value (← s))) k := by
  obtain ⟨p, a, hk, hp⟩ := h
  exact ⟨p, a, hk, fun q => let ⟨v, h1, h2⟩ := hp q; ⟨v, by simp [h1], h2⟩⟩
theorem parts_rep {e : Operand → A} {ve : Operand → Value} (hev : ∀ x, RepA ρ w (e x) (ve x)) : ∀ (ps : List (Nat × Operand)), PartsRep ρ w σ (ps.map fun p => (p.1, e p.2)) (ps.map fun p => (p.1, ve p.2))
  | [] => trivial
  | (_, x) :: ps => ⟨rfl, hev x, parts_rep hev ps⟩
theorem map_rep {e : Operand → A} {ve : Operand → Value} (hev : ∀ x, RepA ρ w (e x) (ve x)) (xs : List Operand) : RepL ρ w (xs.map e) (xs.map ve) :=
  ⟨by simp, fun i x v hx hv => by
    simp only [List.getElem?_map, Option.map_eq_some_iff] at hx hv
    obtain ⟨o, h1, rfl⟩ := hx
    obtain ⟨o', h2, rfl⟩ := hv
    rw [h1] at h2; injection h2 with h2; subst h2; exact hev o⟩
theorem map_rep' {e : Operand → A} {ve : Operand → Value} (hev : ∀ x, RepA ρ w (e x) (ve x)) (xs : Array Operand) : ∃ vs : List Value, xs.map ve = vs.toArray ∧ RepL ρ w (xs.toList.map e) vs :=
  ⟨xs.toList.map ve, by apply Array.ext'; simp, map_rep hev _⟩

theorem rdMinMax_next {g : Bool} {k : Prop → A → Prop} {x y : A} {vx vy : Value} (hx : RepA ρ w x vx) (hy : RepA ρ w y vy) (h : rdMinMax g k x y) :
    ∃ ik a b, vx = .int ik a ∧ vy = .int ik b ∧ k True (.d (.int ik (if g then max a b else min a b))) := by
  unfold rdMinMax at h
  split at h
  · split at h
    · rename_i e; subst e
      cases hx with | d hx => cases hy with | d hy => cases hx; cases hy; exact ⟨_, _, _, rfl, rfl, h⟩
    · exact h.elim
  · exact h.elim
theorem rdBuiltin_sound {c : Call} {b : Builtin} {ty : TypeId} {e : Operand → A} {ve : Operand → Value} {k : Prop → A → Prop} (hI : Inv G ρ σ w) (hev : ∀ x, RepA ρ w (e x) (ve x)) (hc : c.callee = .builtin b)
    (h : rdBuiltin P σ b k (c.args.toList.map e) c.argTypes.toList) : YldN P ρ w (do let d ← resolve ve c ty; invoke d.target d.args) k := by
  obtain ⟨callee, ⟨args⟩, ⟨argTypes⟩⟩ := c
  obtain rfl : callee = .builtin b := hc
  unfold rdBuiltin at h
  split at h
  · rename_i x t hx ht
    match args, hx with
    | [o], hx =>
      have hx' : [e o] = [x] := hx
      injection hx' with hx'; subst hx'
      have ht' : argTypes = [t] := ht
      subst ht'
      split at h
      · have := (rdLen_sound (ty := ty) hI (hev o) h).next
        simpa [resolve, invoke, builtin] using this
      · unfold rdCap at h
        split at h
        · rename_i hx0
          have hr := hev o
          rw [hx0] at hr
          have hu : ve o = .slice none 0 0 := by generalize ve o = u at hr; cases hr with | d hr => cases hr; rfl
          refine ⟨_, _, h, fun hp => ⟨.int .i64 0, ?_, .d (.int .i64 0)⟩⟩
          obtain ⟨e, he⟩ := Option.isSome_iff_exists.1 hp
          obtain ⟨ht, -⟩ := elemT_spec he
          simp [resolve, invoke, builtin, Builtin.cap_, hu, run_underlying ht]
          rfl
        · exact h.elim
      · exact h.elim
  · rename_i x y t u hx ht
    match args, hx with
    | [o, o'], hx =>
      have hx' : [e o, e o'] = [x, y] := hx
      injection hx' with hx1 hx2; subst hx1
      injection hx2 with hx2; subst hx2
      have ht' : argTypes = [t, u] := ht
      subst ht'
      split at h
      · obtain ⟨ik, a, b, e1, e2, h3⟩ := rdMinMax_next (hev o) (hev o') h
        refine ⟨_, _, h3, fun _ => ⟨.int ik (min a b), ?_, .d (.int ik _)⟩⟩
        simp [resolve, invoke, builtin, Builtin.min_, Builtin.min2, e1, e2]
        split <;> omega
      · obtain ⟨ik, a, b, e1, e2, h3⟩ := rdMinMax_next (hev o) (hev o') h
        refine ⟨_, _, h3, fun _ => ⟨.int ik (max a b), ?_, .d (.int ik _)⟩⟩
        simp [resolve, invoke, builtin, Builtin.max_, Builtin.max2, e1, e2]
        split <;> omega
      · exact h.elim
  · exact h.elim

theorem rdNil_sound {k : Prop → A → Prop} {a : A} {v : Value} {x : Operand} {ve : Operand → Value} {o : Oper} (ho : o.op = .nilCheck x) (hv : ve x = v) (hI : Inv G ρ σ w) (ha : RepA ρ w a v) (h : rdNil σ k a) : YldN P ρ w (execOp ve o) k := by
  unfold rdNil at h
  split at h
  · rename_i id off
    refine ⟨_, _, h, fun hp => ?_⟩
    obtain ⟨b, hb, rfl⟩ := ref_at hI hp ha
    exact ⟨_, by simp only [execOp, ho, hv]; rfl, .ref _ hb⟩
  · refine ⟨_, _, h, fun _ => ⟨v, ?_, ha⟩⟩
    cases ha
    simp only [execOp, ho, hv]; rfl
  · refine ⟨_, _, h, fun _ => ⟨v, ?_, ha⟩⟩
    cases ha
    simp only [execOp, ho, hv]; rfl
  · refine ⟨_, _, h, fun _ => ⟨v, ?_, ha⟩⟩
    cases ha
    simp only [execOp, ho, hv]; rfl
  · exact h.elim
theorem rd_sound {o : Oper} {e : Operand → A} {ve : Operand → Value} {k : Prop → A → Prop} (hI : Inv G ρ σ w) (hev : ∀ x, RepA ρ w (e x) (ve x)) (h : rd P σ e o.op k) : YldN P ρ w (execOp ve o) k := by
  obtain ⟨dst, op, type, pos, after, guard⟩ := o
  simp only at h
  cases op <;> simp only [rd] at h <;> simp only [execOp] <;> first
    | exact h.elim
    | exact ⟨_, _, h, fun _ => ⟨_, rfl, hev _⟩⟩
    | skip
  case pick c a b =>
    obtain ⟨p, a', hk, hp⟩ := rdPick_sound (P := P) (hev c) (hev a) (hev b) h
    refine ⟨p, a', hk, fun q => let ⟨v, h1, h2⟩ := hp q; ⟨v, ?_, h2⟩⟩
    simp only [Sem.run_bind] at h1 ⊢
    cases hr : (asBool (ve c)).run P w with
    | halt x w' => rw [hr] at h1; simp at h1
    | ok b w' =>
      rw [hr] at h1
      simp only [Result.andThen_ok, Sem.run_pure, Result.ok.injEq] at h1 ⊢
      exact ⟨by rw [h1.1], h1.2⟩
  case build t ps =>
    have hp := parts_rep (σ := σ) hev ps.toList
    refine (rdBuild_sound (qs := ps.map fun (i, x) => (i, ve x)) hI ?_ h).next
    simpa using hp
  case load t a => exact (rdLoad_sound hI (hev a) h).next
  case binOp op t x y _ => exact (rdBin_sound x y (hev x) (hev y) h).next
  case unOp op _ x => exact (rdUn_sound (hev x) h).next
  case convert s d x => exact (rdConvert_sound hI (hev x) h).next
  case makeInterface t x =>
    refine Yld.next ⟨_, _, h, fun ⟨p1, p2⟩ => ⟨.iface t (ve x), ?_, .ifc t (hev x)⟩⟩
    cases hu : P.underlying t with
    | none => simp [aggT, hu] at p1
    | some u =>
      simp only [Instr.makeInterface, Sem.run_bind, run_underlying hu, Result.andThen_ok]
      cases u <;> first | rfl | (simp [isIfaceT, hu] at p2)
  case makeFunc f first cap =>
    obtain ⟨vs, e1, h1⟩ := map_rep' hev first
    obtain ⟨us, e2, h2⟩ := map_rep' hev cap
    exact ⟨_, _, h, fun _ => ⟨.func f vs.toArray us.toArray, by simp [Instr.makeFunc, e1, e2], .fn f _ _ vs us h1.1 h2.1 h1.2 h2.2⟩⟩
  case slice t x lo hi mx =>
    cases mx with
    | some m => exact h.elim
    | none =>
      refine (rdSlice_sound (vlo := lo.map ve) (vhi := hi.map ve) hI (hev x) (fun a ha => ?_) (fun ha => ?_) (fun a ha => ?_) (fun ha => ?_) h).next
      · cases lo with
        | none => cases ha
        | some o => injection ha with ha; subst ha; exact ⟨_, rfl, hev o⟩
      · cases lo with
        | none => rfl
        | some o => cases ha
      · cases hi with
        | none => cases ha
        | some o => injection ha with ha; subst ha; exact ⟨_, rfl, hev o⟩
      · cases hi with
        | none => rfl
        | some o => cases ha
  case fieldAddr t x f => exact (rdFieldAddr_sound hI (hev x) h).next
  case field t x f => exact (rdField_sound (hev x) h).next
  case indexAddr t x i => exact (rdIndexAddr_sound hI (hev x) (hev i) h).next
  case index t x i => exact (rdIndex_sound (hev x) (hev i) h).next
  case typeAssert x xt t ok => exact (rdAssert_sound (hev x) h).next
  case lookup t x i ok => exact (rdLookup_sound hI (hev x) (hev i) h).next
  case nilCheck x =>
    have := rdNil_sound (o := ⟨dst, .nilCheck x, type, pos, after, guard⟩) (P := P) rfl rfl hI (hev x) h
    simpa only [execOp] using this
  case extract x i => exact (rdExtract_sound (hev x) h).next
  case call c =>
    split at h
    · rename_i b hb; exact rdBuiltin_sound hI hev hb h
    · exact h.elim
end
end Go.Ab
