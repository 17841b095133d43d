/- Code over abstract frames and stores. -/
import Derived.Test.YtmjlhbkgljcnoaaGreatDoorAbOps
import Derived.Deep.LoopGhost
set_option linter.unusedSimpArgs false
set_option linter.unusedVariables false
namespace Go.Ab
open Go Go.RowKit

def put (fr : Fr) (dst : Option Tmp) (x : A) : Fr := match dst with
  | some d => fr.set d x
  | none => fr
/-- Is the guard met? -/
def guardB (ops : Array Oper) (fr : Fr) (j : Nat) (b : Bool) : Option Bool := match (ops[j]?).bind (·.dst) with
  | some d => match fr.getD d .any with
    | .d (.bool x) => some (x == b)
    | .grd c (.d (.bool x)) => some (c && (x == b))
    | .grd false _ => some false
    | _ => none
  | none => none
def isCmp : BinOp → Bool
  | .eql | .neq | .lss | .leq | .gtr | .geq => true
  | _ => false
/-- A comparison of data, whatever shape they have. -/
def cmpD (P : Program) (o : BinOp) (t : TypeId) : D → D → Option Bool
  | .int ik a, .int jk b => if ik = jk then (match o with
    | .eql => some (a == b)
    | .neq => some (a != b)
    | .lss => some (decide (a < b))
    | .leq => some (decide (a ≤ b))
    | .gtr => some (decide (b < a))
    | .geq => some (decide (b ≤ a))
    | _ => none) else none
  | .str a, .str b => match o with
    | .eql => some (a == b)
    | .neq => some (!(a == b))
    | .lss => some (Op.bytesLess a b)
    | .leq => some (Op.bytesLess a b || a == b)
    | .gtr => some (!(Op.bytesLess a b || a == b))
    | .geq => some (!Op.bytesLess a b)
    | _ => none
  | .bool a, .bool b => if isBoolT P t = true then (match o with
    | .eql => some (a == b)
    | .neq => some (!(a == b))
    | _ => none) else none
  | .agg xs, .agg ys => match structEqT P t with
    | some ks => match eqCells ks xs ys with
      | some r => match o with
        | .eql => some r
        | .neq => some (!r)
        | _ => none
      | none => none
    | none => none
  | .nilp, .nilp => if ptrT P t = true then (match o with
    | .eql => some true
    | .neq => some false
    | _ => none) else none
  | _, _ => none
theorem cmpD_rd {P : Program} {o : BinOp} {t : TypeId} {a b : D} {r : Bool} (h : cmpD P o t a b = some r) : rdBin P o t (fun p x => p ∧ x = .d (.bool r)) (.d a) (.d b) := by
  unfold cmpD at h
  split at h
  · split at h
    · rename_i e; subst e
      cases o <;> first | (injection h with h; subst h; simp [rdBin, rdArith]; done) | (cases h)
    · cases h
  · cases o <;> first | (injection h with h; subst h; simp [rdBin, rdStr]; done) | (cases h)
  · split at h
    · rename_i hb
      cases o <;> first | (injection h with h; subst h; simp [rdBin, hb]; done) | (cases h)
    · cases h
  · split at h
    · rename_i ks hk
      split at h
      · rename_i q hq
        cases o <;> first | (injection h with h; subst h; simp [rdBin, hk, hq]; done) | (cases h)
      · cases h
    · cases h
  · split at h
    · rename_i hb
      cases o <;> first | (injection h with h; subst h; simp [rdBin, hb]; done) | (cases h)
    · cases h
  · cases h
def rdCmp (P : Program) (o : BinOp) (t : TypeId) (k : Prop → A → Prop) (a b : A) : Prop := match isCmp o, a, b with
  | true, .d a, .d b => k ((cmpD P o t a b).isSome = true) (.d (.bool ((cmpD P o t a b).getD false)))
  | _, a, b => rdBin P o t k a b
/-- A reading under a guard: comparisons answer a bool, whatever they compare. -/
def rdC (P : Program) (σ : St) (e : Operand → A) (op : Op) (k : Prop → A → Prop) : Prop := match op with
  | .binOp o t x y _ => rdCmp P o t k (e x) (e y)
  | op => rd P σ e op k
/-- A guarded reading: its operands may be there under their guards alone. -/
def rdG (P : Program) (σ : St) (e : Operand → A) (op : Op) (k : Prop → A → Prop) : Prop := match op with
  | .pick x a b => rdPick (fun p z => k ((e x).cond = true ∧ p) z) (e x).strip (e a) (e b)
  | op => rdC P σ (fun x => (e x).strip) op fun p z => k ((op.operands.toList.all fun x => (e x).cond) = true ∧ p) z
/-- What is there whatever its guard says. -/
def A.ungrd : A → A | .grd c a => bif c then a.ungrd else .any | a => a
/-- A guarded operation that may write: its guard's two ways. -/
def wrG (P : Program) (G : Glob) (σ : St) (e : Operand → A) (c : Bool) (op : Op) (k : A → St → Prop) : Prop :=
  (c = true → op1 P G σ (fun x => (e x).ungrd) op k) ∧ (c = false → k .any σ)
/-- A guarded operation. -/
def opG (P : Program) (G : Glob) (σ : St) (e : Operand → A) (c : Bool) (op : Op) (k : A → St → Prop) : Prop := match op with
  | .call cl => match cl.callee with
    | .value f => (∃ d, (c = true → (op.operands.toList.all fun x => (e x).cond) = true ∧ callV P G σ (e f).strip (cl.args.toList.map fun x => (e x).strip) fun r σ' => r = .d d ∧ σ' = σ) ∧ k (.grd c (.d d)) σ) ∨ wrG P G σ e c op k
    | .builtin .append => wrG P G σ e c op k
    | .builtin .delete => wrG P G σ e c op k
    | .builtin .clear => wrG P G σ e c op k
    | .builtin .copy => wrG P G σ e c op k
    | .invoke r name => (∃ d, (c = true → (op.operands.toList.all fun x => (e x).cond) = true ∧ callI P G σ (e r).strip name (cl.args.toList.map fun x => (e x).strip) fun r σ' => r = .d d ∧ σ' = σ) ∧ k (.grd c (.d d)) σ) ∨ wrG P G σ e c op k
    | _ => rdG P σ e op fun p a => (c = true → p) ∧ k (.grd c a) σ
  | .alloc _ => wrG P G σ e c op k
  | .box _ _ => wrG P G σ e c op k
  | .buildSlice _ _ _ => wrG P G σ e c op k
  | .makeSlice _ _ _ => wrG P G σ e c op k
  | .store _ _ _ => wrG P G σ e c op k
  | .makeMap _ _ => wrG P G σ e c op k
  | .mapUpdate _ _ _ _ => wrG P G σ e c op k
  | .insert _ _ _ _ => wrG P G σ e c op k
  | op => rdG P σ e op fun p a => (c = true → p) ∧ k (.grd c a) σ
/-- A region, in the text's order. -/
def awOps (P : Program) (G : Glob) (ops : Array Oper) : List Oper → (Fr → St → Prop) → Fr → St → Prop
  | [], K, fr, σ => K fr σ
  | o :: rest, K, fr, σ => match o.guard with
    | none => op1 P G σ (ev G fr) o.op fun x σ' => awOps P G ops rest K (put fr o.dst x) σ'
    | some (j, b) => match guardB ops fr j b with
      | some c => opG P G σ (ev G fr) c o.op fun x σ' => awOps P G ops rest K (put fr o.dst x) σ'
      | none => False

section
variable {P : Program} {ρ ρ' : Ren} {w w' : World} {σ : St} {G : Glob} {rn : Option Nat}

/-- The marks of ranges over functions among the deferred calls: each block lies as it was laid, by this activation. -/
def Marks (B : Nat) (w : World) : List Deferred → Prop
  | [] => True
  | d :: ds => (∃ r, d = { target := .collected r, args := #[] } ∧ B ≤ r ∧ w.heap[r]? = some (.deferred (some [])) ∧ ∀ d' ∈ ds, d'.target ≠ .collected r) ∧ Marks B w ds
theorem Marks.keep {B : Nat} : ∀ {ds : List Deferred}, Marks B w ds → (∀ (r : Nat) (ds : Option (List Deferred)), w.heap[r]? = some (Obj.deferred ds) → w'.heap[r]? = some (Obj.deferred ds)) → Marks B w' ds
  | [], _, _ => trivial
  | d :: ds, ⟨⟨r, h1, h2, h3, h4⟩, h⟩, hk => ⟨⟨r, h1, h2, hk r _ h3, h4⟩, Marks.keep h hk⟩
theorem Inv.deferred (hI : Inv G ρ σ w) (hx : Ext ρ w ρ' w') (r : Nat) (ds : Option (List Deferred)) (h : w.heap[r]? = some (.deferred ds)) : w'.heap[r]? = some (.deferred ds) := by
  rw [hx.block r (Array.getElem?_eq_some_iff.1 h).1 (fun hm => hI.own r hm ds h)]; exact h
/-- What is known of an activation beside its frame: B: where its marks begin; T: deferred calls that were there before; mks: may there be marks?; ks: slots that keep their values. -/
structure Df where
  B : Nat
  T : List Deferred
  mks : Bool
  ks : List (Nat × Value)
def Df.at (B : Nat) : Df := ⟨B, [], true, []⟩
/-- The part of it that does not speak of the frame. -/
def Dfs (b : Df) (w : World) (a : Act) : Prop := (∃ ms, a.defers = ms ++ b.T ∧ Marks b.B w ms ∧ (b.mks = false → ms = [])) ∧ ∀ p ∈ b.ks, a.tmps[p.1]? = some p.2
def okDst (b : Df) (dst : Option Tmp) : Prop := ∀ d, dst = some d → ∀ p ∈ b.ks, p.1 ≠ d
theorem Dfs.ext {b : Df} {a : Act} (h : Dfs b w a) (hI : Inv G ρ σ w) (hx : Ext ρ w ρ' w') : Dfs b w' a :=
  let ⟨⟨ms, h1, h2, h3⟩, h4⟩ := h
  ⟨⟨ms, h1, h2.keep (hI.deferred hx), h3⟩, h4⟩
def HoldsF (b : Df) (ρ : Ren) (w : World) (fr : Fr) (a : Act) : Prop := Dfs b w a ∧ RepL ρ w fr a.tmps.toList
theorem HoldsF.ext {b : Df} {fr : Fr} {a : Act} (h : HoldsF b ρ w fr a) (hI : Inv G ρ σ w) (hx : Ext ρ w ρ' w') : HoldsF b ρ' w' fr a := ⟨h.1.ext hI hx, h.2.ext hx⟩
theorem Dfs.put {b : Df} {a : Act} (h : Dfs b w a) (dst : Option Tmp) (v : Value) (hd : okDst b dst) : Dfs b w (a.put dst v) := by
  cases dst with
  | none => exact h
  | some d =>
    refine ⟨h.1, fun p hp => ?_⟩
    have hne := hd d rfl p hp
    simp only [Act.put]
    rw [Array.getElem?_setIfInBounds, if_neg (fun e => hne e.symm)]
    exact h.2 p hp
theorem HoldsF.put {b : Df} {fr : Fr} {a : Act} (h : HoldsF b ρ w fr a) (dst : Option Tmp) {x : A} {v : Value} (hd : okDst b dst) (hx : RepA ρ w x v) : HoldsF b ρ w (put fr dst x) (a.put dst v) := by
  cases dst with
  | none => exact h
  | some d =>
    refine ⟨h.1.put (some d) v hd, by simp [Ab.put, Act.put, h.2.1], fun i y u hy hu => ?_⟩
    simp only [Ab.put, Act.put, Array.toList_setIfInBounds] at hy hu
    rw [List.getElem?_set] at hy hu
    split at hy
    · rename_i e; subst e
      split at hy
      · rename_i hl
        rw [if_pos rfl, if_pos (by rw [← h.2.1]; exact hl)] at hu
        injection hy with hy; injection hu with hu; subst hy; subst hu; exact hx
      · cases hy
    · rename_i hne
      rw [if_neg hne] at hu
      exact h.2.2 i y u hy hu
theorem slot_rep {fr : Fr} {tmps : Array Value} (h : RepL ρ w fr tmps.toList) (t : Nat) : RepA ρ w (fr.getD t .any) (tmps.getD t undef) := by
  by_cases ht : t < fr.length
  · have ht' : t < tmps.size := by have := h.1; simp at this; omega
    have e2 : tmps.getD t undef = tmps[t] := by simp [Array.getD, ht']
    rw [e2]
    exact h.2 t _ _ (getD_some ht) (by simp [ht'])
  · have e : fr.getD t .any = .any := by simp [List.getD, List.getElem?_eq_none (show fr.length ≤ t by omega)]
    rw [e]; exact .any _
theorem HoldsF.slot {b : Df} {fr : Fr} {a : Act} (h : HoldsF b ρ w fr a) (t : Nat) : RepA ρ w (fr.getD t .any) (a.tmps.getD t undef) := slot_rep h.2 t
theorem ev_rep {b : Df} (hI : Inv G ρ σ w) {fr : Fr} {a : Act} (h : HoldsF b ρ w fr a) (x : Operand) : RepA ρ w (ev G fr x) (a.eval x) := by
  cases x with
  | tmp t => exact h.slot t
  | const v => exact rep_constA _ _ _
  | global g =>
    simp only [ev]
    cases hg : G.g g with
    | none => exact .any _
    | some x => exact hI.glob g x hg
  | func f => exact .fn (.func f) [] [] [] [] rfl rfl (fun i x v hx => by simp at hx) (fun i x v hx => by simp at hx)

/-- The conclusion of a step. -/
def Step (G : Glob) (ρ : Ren) (w : World) (a : Act) (dst : Option Tmp) (k : A → St → Prop) (a' : Act) (w' : World) : Prop :=
  ∃ x v ρ' σ', a' = a.put dst v ∧ Ext ρ w ρ' w' ∧ Inv G ρ' σ' w' ∧ RepA ρ' w' x v ∧ k x σ'

theorem not_defer_value {o : Oper} {ve : Operand → Value} {n : Next} (h : (execOp ve o).run P w = .ok n w') (hn : ∀ d, n ≠ .defer d) : ∀ c, o.op ≠ .defer c := fun c hc => by
  simp only [execOp, hc, Sem.run_bind] at h
  cases hr : (resolve ve c o.type).run P w with
  | halt x w' => rw [hr] at h; simp at h
  | ok d w'' => rw [hr] at h; simp at h; exact hn d h.1.symm
theorem wp_of_run {o : Oper} {a : Act} {K : Act → World → Prop} {Q : Exit → Act → World → Prop} {n : Next} (h : (execOp a.eval o).run P w = .ok n w') (hn : ∀ d, n ≠ .defer d) (hK : o.uponIn (RF rn) 0 P a K Q (.ok n w')) : o.wpIn (RF rn) 0 P a w K Q := by
  refine ⟨fun _ _ => trivial, ?_⟩
  rw [show (RF rn).round = rn from rfl, semAt_RF (not_defer_value h hn), h]; exact hK
theorem wp_of_value {o : Oper} {a : Act} {K : Act → World → Prop} {Q : Exit → Act → World → Prop} {v : Value} (h : (execOp a.eval o).run P w = .ok (.value v) w') (hK : K (a.put o.dst v) w') : o.wpIn (RF rn) 0 P a w K Q := by
  exact wp_of_run h (fun d hd => by cases hd) hK
theorem wp_of_skip {o : Oper} {a : Act} {K : Act → World → Prop} {Q : Exit → Act → World → Prop} (h : (execOp a.eval o).run P w = .ok .skip w') (hK : K (a.put o.dst undef) w') : o.wpIn (RF rn) 0 P a w K Q := by
  exact wp_of_run h (fun d hd => by cases hd) hK

theorem wp_of_panic {o : Oper} {a : Act} {x : Operand} {v : Value} {K : Act → World → Prop} {Q : Exit → Act → World → Prop} (ho : o.op = .panic x) (hv : a.eval x = v) (hr : (Instr.panic v).run P w = .halt (.panic v) w)
    (hq : Q (.panic [{ v, recovered := false }]) a w) : o.wpIn (RF rn) 0 P a w K Q := by
  refine ⟨fun _ _ => trivial, ?_⟩
  rw [show (RF rn).round = rn from rfl, semAt_RF (fun c hc => by rw [ho] at hc; cases hc)]
  have he : (execOp a.eval o).run P w = .halt (.panic v) w := by simp [execOp, ho, hv, hr]
  rw [he]; exact hq
/-- What must hold behind a panic. -/
def PQ (G : Glob) (ρ : Ren) (w : World) (a : Act) (Q : Exit → Act → World → Prop) : Prop := ∀ chain w', Pan G ρ w chain w' → Q (.panic chain) a w'
theorem ac_enters {f : FuncId} {args : List A} {vs : List Value} {k : A → St → Prop} (hI : Inv G ρ σ w) (hL : RepL ρ w args vs) (h : AC P G f args σ k) :
    (callFunc f vs.toArray).run P w = .ok (.enter f vs.toArray) w ∧ Calls P f vs.toArray w (Called P G ρ w k) := by
  obtain ⟨hcall, h⟩ := h
  refine ⟨?_, h ρ w vs hI hL⟩
  unfold callable at hcall
  split at hcall
  · rename_i fn hfn
    simp only [Bool.and_eq_true, bne_iff_ne, ne_eq] at hcall
    obtain ⟨hn, hb⟩ := hcall
    have hbn : ¬ fn.body = none := by intro hb'; rw [hb'] at hb; simp at hb
    simp [callFunc, hfn, hn, hbn]
  · cases hcall
theorem wp_of_enter {o : Oper} {a : Act} {f : FuncId} {vs : Array Value} {k : A → St → Prop} {K : Act → World → Prop} {Q : Exit → Act → World → Prop} (he : (execOp a.eval o).run P w = .ok (.enter f vs) w) (h : Calls P f vs w (Called P G ρ w k))
    (hP : PQ G ρ w a Q) (hK : ∀ a' w', Step G ρ w a o.dst k a' w' → K a' w') : o.wpIn (RF rn) 0 P a w K Q := by
  refine wp_of_run he (fun d hd => by cases hd) ⟨(fun h => by cases h), callsIn_RF (Calls.mono h ?_)⟩
  rintro e w' (⟨v, ρ', σ', r, rfl, a1, a2, a3, a4⟩ | ⟨chain, rfl, hp⟩)
  · exact hK _ _ ⟨r, v, ρ', σ', rfl, a1, a2, a3, a4⟩
  · exact hP _ _ hp
theorem repL_append {as bs : List A} {vs us : List Value} (h : RepL ρ w as vs) (k : RepL ρ w bs us) : RepL ρ w (as ++ bs) (vs ++ us) := by
  refine ⟨by rw [List.length_append, List.length_append, h.1, k.1], fun i x v hx hv => ?_⟩
  by_cases h1 : i < as.length
  · rw [List.getElem?_append_left h1] at hx
    rw [List.getElem?_append_left (by have := h.1; omega)] at hv
    exact h.2 i x v hx hv
  · rw [List.getElem?_append_right (by omega)] at hx
    rw [List.getElem?_append_right (by have := h.1; omega), ← h.1] at hv
    exact k.2 _ x v hx hv
theorem args_arr {c : Call} {ve : Operand → Value} : c.args.map ve = (c.args.toList.map ve).toArray := by apply Array.ext'; simp
theorem callV_wp {o : Oper} {c : Call} {f : Operand} {fA : A} {args : List A} {a : Act} {k : A → St → Prop} {K : Act → World → Prop} {Q : Exit → Act → World → Prop} (hI : Inv G ρ σ w) (ho : o.op = .call c) (hc : c.callee = .value f) (hf : RepA ρ w fA (a.eval f))
    (hargs : RepL ρ w args (c.args.toList.map a.eval)) (h : callV P G σ fA args k) (hP : PQ G ρ w a Q) (hK : ∀ a' w', Step G ρ w a o.dst k a' w' → K a' w') : o.wpIn (RF rn) 0 P a w K Q := by
  have he : execOp a.eval o = (do let d ← resolve a.eval c o.type; invoke d.target d.args) := by simp only [execOp, ho]
  unfold callV at h
  split at h
  · rename_i g first cap
    generalize hv : a.eval f = u at hf
    cases hf with
    | fn _ _ _ vs us l1 l2 r1 r2 =>
      obtain ⟨h1, h2⟩ := ac_enters hI (repL_append (repL_append ⟨l1, r1⟩ hargs) ⟨l2, r2⟩) h
      refine wp_of_enter (vs := (vs ++ c.args.toList.map a.eval ++ us).toArray) ?_ h2 hP hK
      rw [he]
      simpa [resolve, hc, Deferred.ofValue, hv, invoke, args_arr] using h1
  · rename_i l cap
    generalize hv : a.eval f = u at hf
    cases hf with
    | fn _ _ _ vs us l1 l2 r1 r2 =>
      obtain rfl : vs = [] := List.eq_nil_of_length_eq_zero l1.symm
      obtain ⟨fn, tmps, assign, body, h1, h2⟩ := h ρ w _ hI hargs
      refine wp_of_run (n := .round l fn tmps assign body) (w' := w) ?_ (fun d hd => by cases hd) ⟨(fun h => by cases h), RoundIn.mono h2 ?_⟩
      · rw [he]
        simpa [resolve, hc, Deferred.ofValue, hv, invoke, args_arr] using h1
      · rintro e w' ⟨v, ρ', σ', r, rfl, a1, a2, a3, a4⟩
        exact hK _ _ ⟨r, v, ρ', σ', rfl, a1, a2, a3, a4⟩
  · exact h.elim
theorem loadAt_addr' {t : TypeId} {v u : Value} (h : (Instr.loadAt t v).run P w = .ok u w) : ∃ a, v = .pointer (some a) ∧ (loadVar t a).run P w = .ok u w := by
  cases v with
  | pointer a =>
    cases a with
    | none => simp [Instr.loadAt, Instr.sureAddr] at h
    | some a => exact ⟨a, rfl, by simpa [Instr.loadAt, Instr.sureAddr] using h⟩
  | _ => simp [Instr.loadAt, Instr.sureAddr] at h
theorem run_wrapNil (ts : Array TypeId) (t : TypeId) (a : Addr) (x y : String) : (Builtin.ssaWrapNilChk_ ts t #[.pointer (some a), strVal x, strVal y]).run P w = .ok (.pointer (some a)) w := rfl
theorem run_method {t : TypeId} {name : String} {f : FuncId} {ld : Rc} (h : methT P t name = some (f, ld)) (n : Nat) (v u : Value)
    (hl : match ld with | .self => u = v | .load e => (Instr.loadAt e v).run P w = .ok u w | .fld s i => (Instr.fieldAt s v i).run P w = .ok u w) : (method (n + 1) t v name).run P w = .ok (f, u) w := by
  unfold methT at h
  split at h
  case h_2 => cases h
  rename_i i hi
  split at h
  case h_2 => cases h
  rename_i m hm
  split at h
  · rename_i hp'
    have hp2 : m.path = #[] := by simpa using hp'
    split at h
    · rename_i g e hf hu
      cases h
      subst hl
      simp [method, typeInfo, hi, hm, hp', hf, follow, receiverAt, run_underlying hu, Place.get]
    · rename_i g e hf hu
      cases h
      obtain ⟨a, rfl, hl2⟩ := loadAt_addr' hl
      simp [method, typeInfo, hi, hm, hp', hf, follow, receiverAt, run_underlying hu, Place.get, hp2, run_wrapNil, asAddr, hl2]
    · cases h
    · rename_i g u' hne hf hu
      cases h
      subst hl
      cases u' <;> first
        | (simp [method, typeInfo, hi, hm, hp', hf, follow, receiverAt, run_underlying hu, Place.get]; done)
        | exact (hne _ rfl).elim
    · cases h
  · rename_i s hp'
    split at h
    · rename_i g fs hd hf hu
      split at h
      · rename_i fl hfl
        split at h
        · rename_i fs' hu2
          cases h
          simp only [Instr.fieldAt, Sem.run_bind, run_underlying hu, Result.andThen_ok, hfl] at hl
          cases v with
          | pointer a =>
            cases a with
            | none => simp [Instr.sureAddr] at hl
            | some a =>
              simp only [Instr.sureAddr, Sem.run_pure, Result.andThen_ok] at hl
              cases hfp : (fieldPlace a fl).run P w with
              | halt x w' => rw [hfp] at hl; simp at hl
              | ok b w' =>
                rw [hfp] at hl
                simp only [Result.andThen_ok, Result.ok.injEq] at hl
                obtain ⟨rfl, rfl⟩ := hl
                simp [method, typeInfo, hi, hm, hp', hf, follow, hd, receiverAt, run_underlying hu, run_underlying hu2, hfl, Place.get, asAddr, hfp]
          | _ => simp [Instr.sureAddr] at hl
        · cases h
      · cases h
    · cases h
  · cases h
theorem callI_wp {o : Oper} {c : Call} {r : Operand} {name : String} {rA : A} {args : List A} {a : Act} {k : A → St → Prop} {K : Act → World → Prop} {Q : Exit → Act → World → Prop} (hI : Inv G ρ σ w) (ho : o.op = .call c) (hc : c.callee = .invoke r name) (hr : RepA ρ w rA (a.eval r))
    (hargs : RepL ρ w args (c.args.toList.map a.eval)) (h : callI P G σ rA name args k) (hP : PQ G ρ w a Q) (hK : ∀ a' w', Step G ρ w a o.dst k a' w' → K a' w') : o.wpIn (RF rn) 0 P a w K Q := by
  have he : execOp a.eval o = (do let d ← resolve a.eval c o.type; invoke d.target d.args) := by simp only [execOp, ho]
  unfold callI at h
  split at h
  case h_2 => exact h.elim
  rename_i t x
  generalize hv : a.eval r = u at hr
  cases hr with
  | ifc _ hx =>
    rename_i v
    have main : ∀ (f : FuncId) (y : A) (u : Value), RepA ρ w y u → (∀ n, (method (n + 1) t v name).run P w = .ok (f, u) w) → AC P G f (y :: args) σ k → o.wpIn (RF rn) 0 P a w K Q := fun f y u hy hm hac => by
      have hL : RepL ρ w (y :: args) (u :: c.args.toList.map a.eval) := repL_append (as := [y]) (vs := [u]) ⟨rfl, fun i x v h1 h2 => by
        match i with
        | 0 => simp at h1 h2; subst h1; subst h2; exact hy
        | i + 1 => simp at h1⟩ hargs
      obtain ⟨h1, h2⟩ := ac_enters hI hL hac
      refine wp_of_enter (vs := (u :: c.args.toList.map a.eval).toArray) ?_ h2 hP hK
      rw [he]
      have hd : P.types.size + Made.depth = (P.types.size + 99) + 1 := rfl
      have ht : List.take c.args.size (c.args.toList.map a.eval) = c.args.toList.map a.eval := List.take_of_length_le (by simp)
      simpa [resolve, hc, hv, invoke, callMethod, args_arr, hd, hm, ht] using h1
    split at h
    · rename_i f hm; exact main f x v hx (fun n => run_method hm n v v rfl) h
    · rename_i f e hm
      obtain ⟨p, y, ⟨hp, hac⟩, hs⟩ := rdLoad_sound (P := P) hI hx h
      obtain ⟨u, h1, h2⟩ := hs hp
      exact main f y u h2 (fun n => run_method hm n v u h1) hac
    · rename_i f s i hm
      obtain ⟨p, y, ⟨hp, hac⟩, hs⟩ := rdFieldAddr_sound (P := P) hI hx h
      obtain ⟨u, h1, h2⟩ := hs hp
      exact main f y u h2 (fun n => run_method hm n v u h1) hac
    · exact h.elim

/-- An operation that makes or writes memory and yields a value. -/
theorem wp_of_does {o : Oper} {a : Act} {s : Sem Value} {k : A → St → Prop} {K : Act → World → Prop} {Q : Exit → Act → World → Prop} (he : execOp a.eval o = (do pure (.value (← s)) : Sem Next))
    (h : Does P G ρ w s fun p x σ' => p ∧ k x σ') (hK : ∀ a' w', Step G ρ w a o.dst k a' w' → K a' w') : o.wpIn (RF rn) 0 P a w K Q := by
  obtain ⟨p, x, σ', ⟨hp, hk⟩, hs⟩ := h
  obtain ⟨v, ρ', w', h1, h2, h3, h4⟩ := hs hp
  exact wp_of_value (v := v) (w' := w') (by rw [he]; simp [h1]) (hK _ _ ⟨x, v, ρ', σ', rfl, h2, h3, h4, hk⟩)
theorem wp_of_reads {o : Oper} {a : Act} {ee : Operand → A} {k : A → St → Prop} {K : Act → World → Prop} {Q : Exit → Act → World → Prop} (hI : Inv G ρ σ w) (hev : ∀ x, RepA ρ w (ee x) (a.eval x))
    (h : rd P σ ee o.op fun p x => p ∧ k x σ) (hK : ∀ a' w', Step G ρ w a o.dst k a' w' → K a' w') : o.wpIn (RF rn) 0 P a w K Q := by
  obtain ⟨p, x, ⟨hp, hk⟩, hs⟩ := rd_sound hI hev h
  obtain ⟨v, h1, h2⟩ := hs hp
  exact wp_of_value h1 (hK _ _ ⟨x, v, ρ, σ, rfl, Ext.refl _ _, hI, h2, hk⟩)
theorem wp_of_store {o : Oper} {a : Act} {t : TypeId} {x y : A} {u v : Value} {k : A → St → Prop} {K : Act → World → Prop} {Q : Exit → Act → World → Prop} (hI : Inv G ρ σ w) (hx : RepA ρ w x u) (hy : RepA ρ w y v)
    (he : execOp a.eval o = (do Instr.storeAt t u v; pure .skip : Sem Next)) (h : wrStore P σ t x y fun p a σ' => p ∧ k a σ') (hK : ∀ a' w', Step G ρ w a o.dst k a' w' → K a' w') : o.wpIn (RF rn) 0 P a w K Q := by
  obtain ⟨p, z, σ', ⟨hp, hk⟩, hs⟩ := wrStore_sound (P := P) hI hx hy h
  obtain ⟨r, ρ', w', h1, h2, h3, h4⟩ := hs hp
  have hr : (Instr.storeAt t u v).run P w = .ok () w' ∧ r = undef := by
    simp only [Sem.run_bind] at h1
    cases hst : (Instr.storeAt t u v).run P w with
    | halt x w' => rw [hst] at h1; simp at h1
    | ok b w'' => rw [hst] at h1; simp at h1; exact ⟨by rw [h1.2], h1.1.symm⟩
  obtain ⟨hr, rfl⟩ := hr
  exact wp_of_skip (w' := w') (by rw [he]; simp [hr]) (hK _ _ ⟨z, undef, ρ', σ', rfl, h2, h3, h4, hk⟩)
theorem wp_of_call {o : Oper} {c : Call} {f : Operand} {a : Act} {ee : Operand → A} {k : A → St → Prop} {K : Act → World → Prop} {Q : Exit → Act → World → Prop} (hI : Inv G ρ σ w) (hev : ∀ x, RepA ρ w (ee x) (a.eval x)) (ho : o.op = .call c) (hc : c.callee = .value f)
    (h : callV P G σ (ee f) (c.args.toList.map ee) k) (hP : PQ G ρ w a Q) (hK : ∀ a' w', Step G ρ w a o.dst k a' w' → K a' w') : o.wpIn (RF rn) 0 P a w K Q := by
  exact callV_wp hI ho hc (hev f) (map_rep hev _) h hP hK
theorem wp_of_append {o : Oper} {c : Call} {a : Act} {ee : Operand → A} {k : A → St → Prop} {K : Act → World → Prop} {Q : Exit → Act → World → Prop} (hI : Inv G ρ σ w) (hev : ∀ x, RepA ρ w (ee x) (a.eval x)) (ho : o.op = .call c) (hc : c.callee = .builtin .append)
    {x y : A} {t tx : TypeId} (hargs : c.args.toList.map ee = [x, y]) (hts : c.argTypes.toList = [t, tx])
    (h : wrApp P σ t tx x y fun p a σ' => p ∧ k a σ') (hK : ∀ a' w', Step G ρ w a o.dst k a' w' → K a' w') : o.wpIn (RF rn) 0 P a w K Q := by
  obtain ⟨callee, ⟨args⟩, ⟨argTypes⟩⟩ := c
  obtain rfl : callee = .builtin .append := hc
  match args, hargs with
  | [o1, o2], hargs =>
    have e1 : [ee o1, ee o2] = [x, y] := hargs
    injection e1 with e1 e2; injection e2 with e2 e3; subst e1; subst e2
    have e4 : argTypes = [t, tx] := hts
    subst e4
    unfold wrApp at h
    split at h
    · rename_i ik n hx0
      have hr := hev o2
      rw [hx0] at hr
      have hu : a.eval o2 = .int ik n := by generalize a.eval o2 = u at hr; cases hr with | d hr => cases hr; rfl
      refine wp_of_does (s := Builtin.append_ #[t, tx] o.type #[a.eval o1, a.eval o2]) (by simp [execOp, ho, resolve, invoke, builtin]) ?_ hK
      rw [hu]
      exact wrGrow_sound (ty := o.type) hI (hev o1) h
    · exact wp_of_does (s := Builtin.append_ #[t, tx] o.type #[a.eval o1, a.eval o2]) (by simp [execOp, ho, resolve, invoke, builtin]) (wrAppend_sound (ty := o.type) hI (hev o1) (hev o2) h) hK

theorem wp_of_unit {o : Oper} {a : Act} {s : Sem Unit} {k : A → St → Prop} {K : Act → World → Prop} {Q : Exit → Act → World → Prop}
    (he : execOp a.eval o = (do s; pure .skip : Sem Next)) (h : Does P G ρ w (do s; pure undef) fun p a σ' => p ∧ k a σ') (hK : ∀ a' w', Step G ρ w a o.dst k a' w' → K a' w') : o.wpIn (RF rn) 0 P a w K Q := by
  obtain ⟨p, z, σ', ⟨hp, hk⟩, hs⟩ := h
  obtain ⟨r, ρ', w', h1, h2, h3, h4⟩ := hs hp
  have hr : s.run P w = .ok () w' ∧ r = undef := by
    simp only [Sem.run_bind] at h1
    cases hst : s.run P w with
    | halt x w' => rw [hst] at h1; simp at h1
    | ok b w'' => rw [hst] at h1; simp at h1; exact ⟨by rw [h1.2], h1.1.symm⟩
  obtain ⟨hr, rfl⟩ := hr
  exact wp_of_skip (w' := w') (by rw [he]; simp [hr]) (hK _ _ ⟨z, undef, ρ', σ', rfl, h2, h3, h4, hk⟩)
theorem wp_of_delete {o : Oper} {c : Call} {a : Act} {ee : Operand → A} {k : A → St → Prop} {K : Act → World → Prop} {Q : Exit → Act → World → Prop} (hI : Inv G ρ σ w) (hev : ∀ x, RepA ρ w (ee x) (a.eval x)) (ho : o.op = .call c) (hc : c.callee = .builtin .delete)
    {x y : A} {t : TypeId} {ts : List TypeId} (hargs : c.args.toList.map ee = [x, y]) (hts : c.argTypes.toList = t :: ts)
    (h : wrDelete P σ t x y fun p a σ' => p ∧ k a σ') (hK : ∀ a' w', Step G ρ w a o.dst k a' w' → K a' w') : o.wpIn (RF rn) 0 P a w K Q := by
  obtain ⟨callee, ⟨args⟩, ⟨argTypes⟩⟩ := c
  obtain rfl : callee = .builtin .delete := hc
  match args, hargs with
  | [o1, o2], hargs =>
    have e1 : [ee o1, ee o2] = [x, y] := hargs
    injection e1 with e1 e2; injection e2 with e2 e3; subst e1; subst e2
    have e4 : argTypes = t :: ts := hts
    subst e4
    exact wp_of_does (s := Builtin.delete_ (t :: ts).toArray o.type #[a.eval o1, a.eval o2]) (by simp [execOp, ho, resolve, invoke, builtin]) (wrDelete_sound (ty := o.type) hI (hev o1) (hev o2) rfl h) hK
theorem wp_of_clear {o : Oper} {c : Call} {a : Act} {ee : Operand → A} {k : A → St → Prop} {K : Act → World → Prop} {Q : Exit → Act → World → Prop} (hI : Inv G ρ σ w) (hev : ∀ x, RepA ρ w (ee x) (a.eval x)) (ho : o.op = .call c) (hc : c.callee = .builtin .clear)
    {x : A} {t : TypeId} (hargs : c.args.toList.map ee = [x]) (hts : c.argTypes.toList = [t])
    (h : wrClear P σ t x fun p a σ' => p ∧ k a σ') (hK : ∀ a' w', Step G ρ w a o.dst k a' w' → K a' w') : o.wpIn (RF rn) 0 P a w K Q := by
  obtain ⟨callee, ⟨args⟩, ⟨argTypes⟩⟩ := c
  obtain rfl : callee = .builtin .clear := hc
  match args, hargs with
  | [o1], hargs =>
    have e1 : [ee o1] = [x] := hargs
    injection e1 with e1 e2; subst e1
    have e4 : argTypes = [t] := hts
    subst e4
    exact wp_of_does (s := Builtin.clear_ #[t] o.type #[a.eval o1]) (by simp [execOp, ho, resolve, invoke, builtin]) (wrClear_sound (ty := o.type) hI (hev o1) h) hK
theorem wp_of_copy {o : Oper} {c : Call} {a : Act} {ee : Operand → A} {k : A → St → Prop} {K : Act → World → Prop} {Q : Exit → Act → World → Prop} (hI : Inv G ρ σ w) (hev : ∀ x, RepA ρ w (ee x) (a.eval x)) (ho : o.op = .call c) (hc : c.callee = .builtin .copy)
    {x y : A} {t tx : TypeId} (hargs : c.args.toList.map ee = [x, y]) (hts : c.argTypes.toList = [t, tx])
    (h : wrCopy P σ t tx x y fun p a σ' => p ∧ k a σ') (hK : ∀ a' w', Step G ρ w a o.dst k a' w' → K a' w') : o.wpIn (RF rn) 0 P a w K Q := by
  obtain ⟨callee, ⟨args⟩, ⟨argTypes⟩⟩ := c
  obtain rfl : callee = .builtin .copy := hc
  match args, hargs with
  | [o1, o2], hargs =>
    have e1 : [ee o1, ee o2] = [x, y] := hargs
    injection e1 with e1 e2; injection e2 with e2 e3; subst e1; subst e2
    have e4 : argTypes = [t, tx] := hts
    subst e4
    exact wp_of_does (s := Builtin.copy_ #[t, tx] o.type #[a.eval o1, a.eval o2]) (by simp [execOp, ho, resolve, invoke, builtin]) (wrCopy_sound (ty := o.type) hI (hev o1) (hev o2) h) hK
theorem exec_makeMap {ve : Operand → Value} {o : Oper} {t : TypeId} (h : o.op = .makeMap t none) : execOp ve o = (do pure (.value (← Instr.makeMap t none)) : Sem Next) := by simp only [execOp, h, Option.map_none]
theorem exec_mapUpdate {ve : Operand → Value} {o : Oper} {t : TypeId} {m x v : Operand} (h : o.op = .mapUpdate t m x v) : execOp ve o = (do Instr.mapUpdate t (ve m) (ve x) (ve v); pure .skip : Sem Next) := by simp only [execOp, h]
theorem exec_insert {ve : Operand → Value} {o : Oper} {t : TypeId} {m x v : Operand} (h : o.op = .insert t m x v) : execOp ve o = (do Instr.mapUpdate t (ve m) (ve x) (ve v); pure .skip : Sem Next) := by simp only [execOp, h]
theorem exec_alloc {ve : Operand → Value} {o : Oper} {t : TypeId} (h : o.op = .alloc t) : execOp ve o = (do pure (.value (← Instr.alloc t true (.tuple #[]))) : Sem Next) := by simp only [execOp, h]
theorem exec_box {ve : Operand → Value} {o : Oper} {t : TypeId} {x : Operand} (h : o.op = .box t x) : execOp ve o = (do pure (.value (← Instr.box t (ve x))) : Sem Next) := by simp only [execOp, h]
theorem exec_buildSlice {ve : Operand → Value} {o : Oper} {t : TypeId} {n : Nat} {ps : Array (Nat × Operand)} (h : o.op = .buildSlice t n ps) : execOp ve o = (do pure (.value (← Instr.buildSlice t n (ps.map fun (i, x) => (i, ve x)))) : Sem Next) := by simp only [execOp, h]
theorem exec_makeSlice {ve : Operand → Value} {o : Oper} {t : TypeId} {l c : Operand} (h : o.op = .makeSlice t l c) : execOp ve o = (do pure (.value (← Instr.makeSlice t (ve l) (ve c))) : Sem Next) := by simp only [execOp, h]
theorem exec_store {ve : Operand → Value} {o : Oper} {t : TypeId} {x y : Operand} (h : o.op = .store t x y) : execOp ve o = (do Instr.storeAt t (ve x) (ve y); pure .skip : Sem Next) := by simp only [execOp, h]

theorem op1_sound' {o : Oper} {ee : Operand → A} {a : Act} {k : A → St → Prop} {K : Act → World → Prop} {Q : Exit → Act → World → Prop} (hI : Inv G ρ σ w) (hev : ∀ x, RepA ρ w (ee x) (a.eval x)) (h : op1 P G σ ee o.op k)
    (hP : PQ G ρ w a Q) (hK : ∀ a' w', Step G ρ w a o.dst k a' w' → K a' w') : o.wpIn (RF rn) 0 P a w K Q := by
  have reads : rd P σ ee o.op (fun p x => p ∧ k x σ) → o.wpIn (RF rn) 0 P a w K Q := fun h => wp_of_reads hI hev h hK
  unfold op1 at h
  split at h
  · rename_i t ho; exact wp_of_does (exec_alloc ho) (wrAlloc_sound hI h) hK
  · rename_i t x ho; exact wp_of_does (exec_box ho) (wrBox_sound hI (hev x) h) hK
  · rename_i t n ps ho; exact wp_of_does (exec_buildSlice ho) (wrBuildSlice_sound hI (by simpa using parts_rep (σ := σ) hev ps.toList) h) hK
  · rename_i t l c ho; exact wp_of_does (exec_makeSlice ho) (wrMakeSlice_sound hI (hev l) (hev c) h) hK
  · rename_i t x y ho; exact wp_of_store hI (hev x) (hev y) (exec_store ho) h hK
  · rename_i t ho; exact wp_of_does (exec_makeMap ho) (wrMakeMap_sound hI h) hK
  · rename_i t m x v ho; exact wp_of_unit (exec_mapUpdate ho) (wrMapUpdate_sound hI (hev m) (hev x) (hev v) h) hK
  · rename_i t m x v ho; exact wp_of_unit (exec_insert ho) (wrMapUpdate_sound hI (hev m) (hev x) (hev v) h) hK
  · rename_i x ho
    obtain ⟨⟨t, y, hx⟩, h⟩ := h
    have hr := hev x
    rw [hx] at hr h
    generalize hv : a.eval x = v at hr
    exact wp_of_panic ho hv (by cases hr; rfl) (hP _ _ ⟨_, ρ, σ, _, rfl, Ext.refl _ _, hI, hr, h⟩)
  · rename_i b t x y ty ho
    split at h
    · rename_i q hq
      obtain ⟨r, h1, h2⟩ := wrNil_sound (P := P) x a.eval (fun v => rfl) hq hI (hev x) h
      exact wp_of_value (o := o) (v := .bool r) (by
        simp only [execOp, ho, Sem.run_bind] at h1 ⊢
        cases hg : (eqGuard b t x y (a.eval x) (a.eval y)).run P w with
        | halt z w' => rw [hg] at h1; simp at h1
        | ok z w' =>
          rw [hg] at h1
          simp only [Result.andThen_ok] at h1 ⊢
          rw [h1]; rfl) (hK _ _ ⟨_, _, ρ, σ, rfl, Ext.refl _ _, hI, .d (.bool r), h2⟩)
    · exact reads (by rw [ho]; exact h)
  · rename_i c ho
    split at h
    · rename_i f hc; exact wp_of_call hI hev ho hc h hP hK
    · rename_i r name hc; exact callI_wp hI ho hc (hev r) (map_rep hev _) h hP hK
    · rename_i b hb
      unfold wrBuiltin at h
      split at h
      · split at h
        · rename_i hargs hts; exact wp_of_append hI hev ho hb hargs hts h hK
        · exact h.elim
      · split at h
        · rename_i hargs hts; exact wp_of_delete hI hev ho hb hargs hts h hK
        · exact h.elim
      · split at h
        · rename_i hargs hts; exact wp_of_clear hI hev ho hb hargs hts h hK
        · exact h.elim
      · split at h
        · rename_i hargs hts; exact wp_of_copy hI hev ho hb hargs hts h hK
        · exact h.elim
      · refine reads ?_
        rw [ho]
        simp only [rd, hb]
        exact h
  · exact reads h
theorem op1_sound {b : Df} {o : Oper} {fr : Fr} {a : Act} {k : A → St → Prop} {K : Act → World → Prop} {Q : Exit → Act → World → Prop} (hI : Inv G ρ σ w) (hF : HoldsF b ρ w fr a) (h : op1 P G σ (ev G fr) o.op k)
    (hP : PQ G ρ w a Q) (hK : ∀ a' w', Step G ρ w a o.dst k a' w' → K a' w') : o.wpIn (RF rn) 0 P a w K Q := op1_sound' hI (ev_rep hI hF) h hP hK
theorem ungrd_rep {a : A} {v : Value} (h : RepA ρ w a v) : RepA ρ w a.ungrd v := by
  induction h with
  | grd c h1 h2 ih =>
    cases c with
    | true => exact ih rfl
    | false => exact .any _
  | d h => exact .d h
  | ea x off b o vs hm hb one cell rep => exact .ea x off b o vs hm hb one cell rep
  | ref off h => exact .ref off h
  | refDead off v h => exact .refDead off v h
  | rs h hb hc hs ho => exact .rs h hb hc hs ho
  | rsEmpty sz ow h => exact .rsEmpty sz ow h
  | rsDead sz off len ow v h => exact .rsDead sz off len ow v h
  | mapr h => exact .mapr h
  | mapDead v h => exact .mapDead v h
  | agg cs vs len one rep => exact .agg cs vs len one rep
  | tup cs vs len rep => exact .tup cs vs len rep
  | fn f cs ds vs us len len' rep rep' => exact .fn f cs ds vs us len len' rep rep'
  | ifc t h => exact .ifc t h
  | any v => exact .any v
end
end Go.Ab
