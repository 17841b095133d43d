/- The evaluation of code over abstract frames by simp: equations, and congruences that keep it out of what comes later. -/
import Derived.Test.YtmjlhbkgljcnoaaGreatDoorAbAw
namespace Go.Ab
open Go

def guardK (o : Option Bool) (k : Bool → Prop) : Prop := match o with
  | some c => k c
  | none => False
@[go_sem, go_sem ↓] theorem guardK_some (c : Bool) (k : Bool → Prop) : guardK (some c) k = k c := (rfl)
def optK {α : Type} (o : Option α) (k : α → Prop) : Prop := match o with
  | some x => k x
  | none => False
@[go_sem, go_sem ↓] theorem optK_some {α : Type} (x : α) (k : α → Prop) : optK (some x) k = k x := (rfl)
@[congr] theorem optK_congr {α : Type} {o o' : Option α} {k : α → Prop} (h : o = o') : optK o k = optK o' k := by rw [h]

section
variable {P : Program} {σ : St} {G : Glob} {fr : Fr} {e : Operand → A} {n0 : Nat} {tx : Md}

-- frames
@[go_sem, go_sem ↓] theorem getD_zero (x : A) (l : Fr) : List.getD (x :: l) 0 .any = x := (rfl)
@[go_sem, go_sem ↓] theorem getD_succ (x : A) (l : Fr) (n : Nat) : List.getD (x :: l) (n + 1) .any = List.getD l n .any := (rfl)
@[go_sem, go_sem ↓] theorem set_zero (x y : A) (l : Fr) : List.set (x :: l) 0 y = y :: l := (rfl)
@[go_sem, go_sem ↓] theorem set_succ (x y : A) (l : Fr) (n : Nat) : List.set (x :: l) (n + 1) y = x :: List.set l n y := (rfl)
@[go_sem, go_sem ↓] theorem put_some (d : Tmp) (x : A) : put fr (some d) x = fr.set d x := (rfl)
@[go_sem, go_sem ↓] theorem put_none (x : A) : put fr none x = fr := (rfl)
-- operands
@[go_sem, go_sem ↓] theorem ev_tmp (t : Tmp) : ev G fr (.tmp t) = fr.getD t .any := (rfl)
@[go_sem, go_sem ↓] theorem ev_int (k : IntKind) (n : Int) : ev G fr (.const (.int k n)) = .d (.int k n) := (rfl)
@[go_sem, go_sem ↓] theorem ev_bool (b : Bool) : ev G fr (.const (.bool b)) = .d (.bool b) := (rfl)
@[go_sem, go_sem ↓] theorem ev_str (l : List UInt8) : ev G fr (.const (.string ⟨l.toArray⟩)) = .d (.str l) := (rfl)
@[go_sem, go_sem ↓] theorem ev_nils : ev G fr (.const (.slice none 0 0)) = .d .nils := (rfl)
@[go_sem, go_sem ↓] theorem ev_nilp : ev G fr (.const (.pointer none)) = .d .nilp := (rfl)
@[go_sem, go_sem ↓] theorem ev_nilf : ev G fr (.const .nilFunc) = .d .nilf := (rfl)
@[go_sem, go_sem ↓] theorem ev_func (f : FuncId) : ev G fr (.func f) = .fn (.func f) [] [] := (rfl)
-- regions
@[go_sem] theorem awOps_nil (ops : Array Oper) (K : Fr → St → Prop) : awOps P G ops [] K fr σ = K fr σ := (rfl)
@[go_sem] theorem awOps_plain (ops : Array Oper) (K : Fr → St → Prop) (dst : Option Tmp) (op : Op) (ty : TypeId) (pos : String) (after : Array Edge) (rest : List Oper) :
    awOps P G ops (⟨dst, op, ty, pos, after, none⟩ :: rest) K fr σ = op1 P G σ (ev G fr) op fun x σ' => awOps P G ops rest K (put fr dst x) σ' := (rfl)
@[go_sem] theorem awOps_guard (ops : Array Oper) (K : Fr → St → Prop) (dst : Option Tmp) (op : Op) (ty : TypeId) (pos : String) (after : Array Edge) (j : Nat) (b : Bool) (rest : List Oper) :
    awOps P G ops (⟨dst, op, ty, pos, after, some (j, b)⟩ :: rest) K fr σ = guardK (guardB ops fr j b) fun c => opG P G σ (ev G fr) c op fun x σ' => awOps P G ops rest K (put fr dst x) σ' := by
  simp only [awOps]
  cases guardB ops fr j b <;> rfl
@[congr] theorem awOps_congr {ops : Array Oper} {l : List Oper} {K : Fr → St → Prop} {fr fr' : Fr} {σ σ' : St} (h : fr = fr') (h' : σ = σ') : awOps P G ops l K fr σ = awOps P G ops l K fr' σ' := by rw [h, h']
@[congr] theorem guardK_congr {o o' : Option Bool} {k : Bool → Prop} (h : o = o') : guardK o k = guardK o' k := by rw [h]
attribute [go_sem] A.strip A.cond
def dstAt : List Oper → Nat → Option Tmp
  | [], _ => none
  | o :: _, 0 => o.dst
  | _ :: l, n + 1 => dstAt l n
def guardV (a : A) (b : Bool) : Option Bool := match a with
  | .d (.bool x) => some (x == b)
  | .grd c (.d (.bool x)) => some (c && (x == b))
  | .grd false _ => some false
  | _ => none
def guardD (d : Option Tmp) (fr : Fr) (b : Bool) : Option Bool := match d with
  | some d => guardV (fr.getD d .any) b
  | none => none
theorem dstAt_eq : ∀ (l : List Oper) (j : Nat), (l[j]?).bind (·.dst) = dstAt l j
  | [], j => by simp [dstAt]
  | o :: l, 0 => by simp [dstAt]
  | o :: l, j + 1 => by simp [dstAt, dstAt_eq l j]
@[go_sem, go_sem ↓] theorem guardB_eq (l : List Oper) (j : Nat) (b : Bool) : guardB l.toArray fr j b = guardD (dstAt l j) fr b := by
  unfold guardB guardD
  rw [List.getElem?_toArray, dstAt_eq]
  cases dstAt l j <;> rfl
@[go_sem, go_sem ↓] theorem dstAt_zero (dst : Option Tmp) (op : Op) (ty : TypeId) (pos : String) (after : Array Edge) (g : Option (Nat × Bool)) (l : List Oper) : dstAt (⟨dst, op, ty, pos, after, g⟩ :: l) 0 = dst := (rfl)
@[go_sem, go_sem ↓] theorem dstAt_succ (o : Oper) (l : List Oper) (n : Nat) : dstAt (o :: l) (n + 1) = dstAt l n := (rfl)
@[go_sem, go_sem ↓] theorem guardD_some (d : Tmp) (b : Bool) : guardD (some d) fr b = guardV (fr.getD d .any) b := (rfl)
@[go_sem, go_sem ↓] theorem guardV_bool (x b : Bool) : guardV (.d (.bool x)) b = some (x == b) := (rfl)
@[go_sem, go_sem ↓] theorem guardV_grd (c x b : Bool) : guardV (.grd c (.d (.bool x))) b = some (c && (x == b)) := (rfl)
/-- A continuation that simp leaves alone. -/
class KS where
  k : A → St → Prop
def AC' (P : Program) (G : Glob) (f : FuncId) (args : List A) (σ : St) [K : KS] : Prop := AC P G f args σ K.k
theorem ac' {P : Program} {G : Glob} {f : FuncId} {args : List A} {σ : St} {k : A → St → Prop} (h : AC P G f args σ k) : @AC' P G f args σ ⟨k⟩ := h
/-- A call of yield, what stands behind it hidden. -/
def YC' (P : Program) (G : Glob) (l : Nat) (args : List A) (σ : St) [K : KS] : Prop := YC P G l args σ K.k
theorem yc' {P : Program} {G : Glob} {l : Nat} {args : List A} {σ : St} {k : A → St → Prop} (h : YC P G l args σ k) : @YC' P G l args σ ⟨k⟩ := h
/-- A method is entered. -/
def enterM (P : Program) (G : Glob) (σ : St) (q : FuncId × Rc) (a : A) (args : List A) (k : A → St → Prop) : Prop := match q with
  | (f, .self) => @AC' P G f (a :: args) σ ⟨k⟩
  | (f, .load e) => rdLoad P σ e (fun p x => p ∧ @AC' P G f (x :: args) σ ⟨k⟩) a
  | (f, .fld s i) => rdFieldAddr P σ s i (fun p x => p ∧ @AC' P G f (x :: args) σ ⟨k⟩) a
class KD where
  k : D → Prop
  s : Prop
def Ex' [K : KD] : Prop := (∃ d, K.k d) ∨ K.s
/-- A guarded call that answers data and leaves the store as it was. -/
theorem ex' {k : D → Prop} {s : Prop} (d : D) (h : k d) : @Ex' ⟨k, s⟩ := .inl ⟨d, h⟩
/-- A guarded call, its guard's two ways apart. -/
theorem exs {k : D → Prop} {s : Prop} (h : s) : @Ex' ⟨k, s⟩ := .inr h
-- the operations
@[go_sem, go_sem ↓] theorem op1_move (x : Operand) (k : A → St → Prop) : op1 P G σ e (.move x) k = k (e x) σ := by simp [op1, rd]
@[go_sem, go_sem ↓] theorem op1_assign (x : Operand) (k : A → St → Prop) : op1 P G σ e (.assign x) k = k (e x) σ := by simp [op1, rd]
@[go_sem, go_sem ↓] theorem op1_pick (c a b : Operand) (k : A → St → Prop) : op1 P G σ e (.pick c a b) k = rdPick (fun p a => p ∧ k a σ) (e c) (e a) (e b) := (rfl)
@[go_sem, go_sem ↓] theorem op1_load (t : TypeId) (a : Operand) (k : A → St → Prop) : op1 P G σ e (.load t a) k = rdLoad P σ t (fun p a => p ∧ k a σ) (e a) := (rfl)
@[go_sem, go_sem ↓] theorem op1_fieldAddr (t : TypeId) (a : Operand) (f : Nat) (k : A → St → Prop) : op1 P G σ e (.fieldAddr t a f) k = rdFieldAddr P σ t f (fun p a => p ∧ k a σ) (e a) := (rfl)
@[go_sem, go_sem ↓] theorem op1_indexAddr (t : TypeId) (a i : Operand) (k : A → St → Prop) : op1 P G σ e (.indexAddr t a i) k = rdIndexAddr P σ t (fun p a => p ∧ k a σ) (e a) (e i) := (rfl)
@[go_sem, go_sem ↓] theorem op1_index (t : TypeId) (a i : Operand) (k : A → St → Prop) : op1 P G σ e (.index t a i) k = rdIndex P t (fun p a => p ∧ k a σ) (e a) (e i) := (rfl)
theorem op1_binOp_of (o : BinOp) (t t' : TypeId) (a i : Operand) (k : A → St → Prop) (h : nilC o i = none) : op1 P G σ e (.binOp o t a i t') k = rdBin P o t (fun p a => p ∧ k a σ) (e a) (e i) := by simp only [op1, h]; rfl
@[go_sem, go_sem ↓] theorem op1_binOp_tmp (o : BinOp) (t t' : TypeId) (a : Operand) (x : Tmp) (k : A → St → Prop) : op1 P G σ e (.binOp o t a (.tmp x) t') k = rdBin P o t (fun p a => p ∧ k a σ) (e a) (e (.tmp x)) := op1_binOp_of _ _ _ _ _ _ (by cases o <;> rfl)
@[go_sem, go_sem ↓] theorem op1_binOp_int (o : BinOp) (t t' : TypeId) (a : Operand) (ik : IntKind) (n : Int) (k : A → St → Prop) : op1 P G σ e (.binOp o t a (.const (.int ik n)) t') k = rdBin P o t (fun p a => p ∧ k a σ) (e a) (e (.const (.int ik n))) := op1_binOp_of _ _ _ _ _ _ (by cases o <;> rfl)
@[go_sem, go_sem ↓] theorem op1_eql_nils (t t' : TypeId) (a : Operand) (k : A → St → Prop) : op1 P G σ e (.binOp .eql t a (.const (.slice none 0 0)) t') k = wrNil P σ (false, true) t k (e a) := (rfl)
@[congr] theorem wrNil_congr {q : Bool × Bool} {t : TypeId} {a a' : A} {k : A → St → Prop} (h : a = a') : wrNil P σ q t k a = wrNil P σ q t k a' := by rw [h]
/-- An empty slice may be nil or not. -/
def eitherK (p : Prop) (b : Bool) (k : A → St → Prop) (σ : St) : Prop := ∀ r : Bool, (r = true → p) → k (.d (.bool (r == b))) σ
@[congr] theorem eitherK_congr {p : Prop} {b : Bool} {k : A → St → Prop} {σ : St} : eitherK p b k σ = eitherK p b k σ := rfl
theorem wrNil_sl (b : Bool) (t sz : Nat) (xs : List D) (k : A → St → Prop) : wrNil P σ (false, b) t k (.d (.sl sz xs)) = (sliceT P t = true ∧ eitherK (xs = []) b k σ) := (rfl)
attribute [go_sem, go_sem ↓] wrNil_sl
@[go_sem, go_sem ↓] theorem op1_unOp (o : UnOp) (t : TypeId) (a : Operand) (k : A → St → Prop) : op1 P G σ e (.unOp o t a) k = rdUn o (fun p a => p ∧ k a σ) (e a) := (rfl)
@[go_sem, go_sem ↓] theorem op1_convert (s t : TypeId) (a : Operand) (k : A → St → Prop) : op1 P G σ e (.convert s t a) k = rdConvert P σ s t (fun p a => p ∧ k a σ) (e a) := (rfl)
@[go_sem, go_sem ↓] theorem op1_slice (t : TypeId) (a : Operand) (lo hi : Option Operand) (k : A → St → Prop) : op1 P G σ e (.slice t a lo hi none) k = rdSlice P σ t (fun p a => p ∧ k a σ) (e a) (lo.map e) (hi.map e) := (rfl)
@[go_sem, go_sem ↓] theorem op1_extract (a : Operand) (i : Nat) (k : A → St → Prop) : op1 P G σ e (.extract a i) k = rdExtract (fun p a => p ∧ k a σ) i (e a) := (rfl)
@[go_sem, go_sem ↓] theorem op1_makeFunc (f : Fn) (a b : Array Operand) (k : A → St → Prop) : op1 P G σ e (.makeFunc f a b) k = k (.fn f (a.toList.map e) (b.toList.map e)) σ := by simp [op1, rd]
@[go_sem, go_sem ↓] theorem op1_build (t : TypeId) (ps : Array (Nat × Operand)) (k : A → St → Prop) : op1 P G σ e (.build t ps) k = rdBuild P σ t (ps.toList.map fun p => (p.1, e p.2)) (fun p a => p ∧ k a σ) := (rfl)
@[go_sem, go_sem ↓] theorem op1_alloc (t : TypeId) (k : A → St → Prop) : op1 P G σ e (.alloc t) k = wrAlloc P σ t (fun p a σ' => p ∧ k a σ') := (rfl)
@[go_sem, go_sem ↓] theorem op1_box (t : TypeId) (a : Operand) (k : A → St → Prop) : op1 P G σ e (.box t a) k = wrBox σ (e a) (fun p a σ' => p ∧ k a σ') := (rfl)
@[go_sem, go_sem ↓] theorem op1_buildSlice (t : TypeId) (n : Nat) (ps : Array (Nat × Operand)) (k : A → St → Prop) : op1 P G σ e (.buildSlice t n ps) k = wrBuildSlice P σ t n (ps.toList.map fun p => (p.1, e p.2)) (fun p a σ' => p ∧ k a σ') := (rfl)
@[go_sem, go_sem ↓] theorem op1_makeSlice (t : TypeId) (a b : Operand) (k : A → St → Prop) : op1 P G σ e (.makeSlice t a b) k = wrMakeSlice P σ t (e a) (e b) (fun p a σ' => p ∧ k a σ') := (rfl)
@[go_sem, go_sem ↓] theorem op1_store (t : TypeId) (a b : Operand) (k : A → St → Prop) : op1 P G σ e (.store t a b) k = wrStore P σ t (e a) (e b) (fun p a σ' => p ∧ k a σ') := (rfl)
@[go_sem, go_sem ↓] theorem op1_call (f : Operand) (as : Array Operand) (ts : Array TypeId) (k : A → St → Prop) : op1 P G σ e (.call ⟨.value f, as, ts⟩) k = callV P G σ (e f) (as.toList.map e) k := (rfl)
@[go_sem, go_sem ↓] theorem op1_len (a : Operand) (t : TypeId) (k : A → St → Prop) : op1 P G σ e (.call ⟨.builtin .len, #[a], #[t]⟩) k = rdLen P σ t (fun p a => p ∧ k a σ) (e a) := (rfl)
@[go_sem, go_sem ↓] theorem op1_min (a b : Operand) (t u : TypeId) (k : A → St → Prop) : op1 P G σ e (.call ⟨.builtin .min, #[a, b], #[t, u]⟩) k = rdMinMax false (fun p a => p ∧ k a σ) (e a) (e b) := (rfl)
@[congr] theorem wrCopy_congr {t u : TypeId} {a a' b b' : A} {k : Prop → A → St → Prop} (h : a = a') (h' : b = b') : wrCopy P σ t u a b k = wrCopy P σ t u a' b' k := by rw [h, h']
@[go_sem, go_sem ↓] theorem op1_append (a b : Operand) (t u : TypeId) (k : A → St → Prop) : op1 P G σ e (.call ⟨.builtin .append, #[a, b], #[t, u]⟩) k = wrApp P σ t u (e a) (e b) (fun p a σ' => p ∧ k a σ') := (rfl)
@[go_sem, go_sem ↓] theorem opG_call (c : Bool) (f : Operand) (as : Array Operand) (ts : Array TypeId) (k : A → St → Prop) : opG P G σ e c (.call ⟨.value f, as, ts⟩) k =
    @Ex' ⟨fun d => (c = true → ((Op.call ⟨.value f, as, ts⟩).operands.toList.all fun x => (e x).cond) = true ∧ callV P G σ (e f).strip (as.toList.map fun x => (e x).strip) fun r σ' => r = .d d ∧ σ' = σ) ∧ k (.grd c (.d d)) σ, wrG P G σ e c (.call ⟨.value f, as, ts⟩) k⟩ := (rfl)
@[go_sem, go_sem ↓] theorem opG_buildSlice (c : Bool) (t : TypeId) (n : Nat) (ps : Array (Nat × Operand)) (k : A → St → Prop) : opG P G σ e c (.buildSlice t n ps) k = wrG P G σ e c (.buildSlice t n ps) k := (rfl)
@[go_sem, go_sem ↓] theorem wrG_true (op : Op) (k : A → St → Prop) : wrG P G σ e true op k = op1 P G σ (fun x => (e x).ungrd) op k := by simp [wrG]
@[go_sem, go_sem ↓] theorem wrG_false (op : Op) (k : A → St → Prop) : wrG P G σ e false op k = k .any σ := by simp [wrG]
attribute [go_sem] A.ungrd -- readings, under whatever continuation
@[go_sem, go_sem ↓] theorem rd_move (x : Operand) (k : Prop → A → Prop) : rd P σ e (.move x) k = k True (e x) := (rfl)
@[go_sem, go_sem ↓] theorem rd_load (t : TypeId) (a : Operand) (k : Prop → A → Prop) : rd P σ e (.load t a) k = rdLoad P σ t k (e a) := (rfl)
@[go_sem, go_sem ↓] theorem rd_fieldAddr (t : TypeId) (a : Operand) (f : Nat) (k : Prop → A → Prop) : rd P σ e (.fieldAddr t a f) k = rdFieldAddr P σ t f k (e a) := (rfl)
@[go_sem, go_sem ↓] theorem rd_indexAddr (t : TypeId) (a i : Operand) (k : Prop → A → Prop) : rd P σ e (.indexAddr t a i) k = rdIndexAddr P σ t k (e a) (e i) := (rfl)
@[go_sem, go_sem ↓] theorem rd_unOp (o : UnOp) (t : TypeId) (a : Operand) (k : Prop → A → Prop) : rd P σ e (.unOp o t a) k = rdUn o k (e a) := (rfl)
@[go_sem, go_sem ↓] theorem rd_len (a : Operand) (t : TypeId) (k : Prop → A → Prop) : rd P σ e (.call ⟨.builtin .len, #[a], #[t]⟩) k = rdLen P σ t k (e a) := (rfl)
@[go_sem, go_sem ↓] theorem rdMin_int (ik : IntKind) (a b : Int) (k : Prop → A → Prop) : rdMinMax false k (.d (.int ik a)) (.d (.int ik b)) = k True (.d (.int ik (min a b))) := by simp [rdMinMax]
@[congr] theorem rdMinMax_congr {g : Bool} {k : Prop → A → Prop} {a a' b b' : A} (h : a = a') (h' : b = b') : rdMinMax g k a b = rdMinMax g k a' b' := by rw [h, h']
@[go_sem, go_sem ↓] theorem opG_move (c : Bool) (x : Operand) (k : A → St → Prop) : opG P G σ e c (.move x) k = rdG P σ e (.move x) fun p z => (c = true → p) ∧ k (.grd c z) σ := (rfl)
@[go_sem, go_sem ↓] theorem rdG_move (x : Operand) (k : Prop → A → Prop) : rdG P σ e (.move x) k = rd P σ (fun x => (e x).strip) (.move x) fun p z => k (([x].all fun x => (e x).cond) = true ∧ p) z := (rfl)
@[go_sem, go_sem ↓] theorem opG_pick (c : Bool) (a b d : Operand) (k : A → St → Prop) : opG P G σ e c (.pick a b d) k = rdG P σ e (.pick a b d) fun p z => (c = true → p) ∧ k (.grd c z) σ := (rfl)
@[go_sem, go_sem ↓] theorem rdG_pick (a b d : Operand) (k : Prop → A → Prop) : rdG P σ e (.pick a b d) k = rdPick (fun p z => k ((e a).cond = true ∧ p) z) (e a).strip (e b) (e d) := (rfl)
@[go_sem, go_sem ↓] theorem opG_load (c : Bool) (t : TypeId) (a : Operand) (k : A → St → Prop) : opG P G σ e c (.load t a) k = rdG P σ e (.load t a) fun p z => (c = true → p) ∧ k (.grd c z) σ := (rfl)
@[go_sem, go_sem ↓] theorem rdG_load (t : TypeId) (a : Operand) (k : Prop → A → Prop) : rdG P σ e (.load t a) k = rd P σ (fun x => (e x).strip) (.load t a) fun p z => k (([a].all fun x => (e x).cond) = true ∧ p) z := (rfl)
@[go_sem, go_sem ↓] theorem opG_fieldAddr (c : Bool) (t : TypeId) (a : Operand) (f : Nat) (k : A → St → Prop) : opG P G σ e c (.fieldAddr t a f) k = rdG P σ e (.fieldAddr t a f) fun p z => (c = true → p) ∧ k (.grd c z) σ := (rfl)
@[go_sem, go_sem ↓] theorem rdG_fieldAddr (t : TypeId) (a : Operand) (f : Nat) (k : Prop → A → Prop) : rdG P σ e (.fieldAddr t a f) k = rd P σ (fun x => (e x).strip) (.fieldAddr t a f) fun p z => k (([a].all fun x => (e x).cond) = true ∧ p) z := (rfl)
@[go_sem, go_sem ↓] theorem opG_indexAddr (c : Bool) (t : TypeId) (a b : Operand) (k : A → St → Prop) : opG P G σ e c (.indexAddr t a b) k = rdG P σ e (.indexAddr t a b) fun p z => (c = true → p) ∧ k (.grd c z) σ := (rfl)
@[go_sem, go_sem ↓] theorem rdG_indexAddr (t : TypeId) (a b : Operand) (k : Prop → A → Prop) : rdG P σ e (.indexAddr t a b) k = rd P σ (fun x => (e x).strip) (.indexAddr t a b) fun p z => k (([a, b].all fun x => (e x).cond) = true ∧ p) z := (rfl)
@[go_sem, go_sem ↓] theorem opG_binOp (c : Bool) (o : BinOp) (t t' : TypeId) (a b : Operand) (k : A → St → Prop) : opG P G σ e c (.binOp o t a b t') k = rdG P σ e (.binOp o t a b t') fun p z => (c = true → p) ∧ k (.grd c z) σ := (rfl)
@[go_sem, go_sem ↓] theorem rdG_binOp (o : BinOp) (t t' : TypeId) (a b : Operand) (k : Prop → A → Prop) : rdG P σ e (.binOp o t a b t') k = rdCmp P o t (fun p z => k (([a, b].all fun x => (e x).cond) = true ∧ p) z) (e a).strip (e b).strip := (rfl)
@[go_sem, go_sem ↓] theorem rdCmp_sub (t : TypeId) (k : Prop → A → Prop) (a b : A) : rdCmp P .sub t k a b = rdBin P .sub t k a b := (rfl)
@[go_sem, go_sem ↓] theorem rdCmp_shl (t : TypeId) (k : Prop → A → Prop) (a b : A) : rdCmp P .shl t k a b = rdBin P .shl t k a b := (rfl)
@[go_sem, go_sem ↓] theorem rdCmp_shr (t : TypeId) (k : Prop → A → Prop) (a b : A) : rdCmp P .shr t k a b = rdBin P .shr t k a b := (rfl)
@[go_sem, go_sem ↓] theorem rdCmp_eql (t : TypeId) (k : Prop → A → Prop) (a b : D) : rdCmp P .eql t k (.d a) (.d b) = k ((cmpD P .eql t a b).isSome = true) (.d (.bool ((cmpD P .eql t a b).getD false))) := (rfl)
@[go_sem, go_sem ↓] theorem rdCmp_neq (t : TypeId) (k : Prop → A → Prop) (a b : D) : rdCmp P .neq t k (.d a) (.d b) = k ((cmpD P .neq t a b).isSome = true) (.d (.bool ((cmpD P .neq t a b).getD false))) := (rfl)
@[go_sem, go_sem ↓] theorem rdCmp_lss (t : TypeId) (k : Prop → A → Prop) (a b : D) : rdCmp P .lss t k (.d a) (.d b) = k ((cmpD P .lss t a b).isSome = true) (.d (.bool ((cmpD P .lss t a b).getD false))) := (rfl)
@[go_sem, go_sem ↓] theorem rdCmp_leq (t : TypeId) (k : Prop → A → Prop) (a b : D) : rdCmp P .leq t k (.d a) (.d b) = k ((cmpD P .leq t a b).isSome = true) (.d (.bool ((cmpD P .leq t a b).getD false))) := (rfl)
@[go_sem, go_sem ↓] theorem rdCmp_gtr (t : TypeId) (k : Prop → A → Prop) (a b : D) : rdCmp P .gtr t k (.d a) (.d b) = k ((cmpD P .gtr t a b).isSome = true) (.d (.bool ((cmpD P .gtr t a b).getD false))) := (rfl)
@[go_sem, go_sem ↓] theorem rdCmp_geq (t : TypeId) (k : Prop → A → Prop) (a b : D) : rdCmp P .geq t k (.d a) (.d b) = k ((cmpD P .geq t a b).isSome = true) (.d (.bool ((cmpD P .geq t a b).getD false))) := (rfl)
@[go_sem] theorem cmpD_eql (t : TypeId) (ik : IntKind) (a b : Int) : cmpD P .eql t (.int ik a) (.int ik b) = some (a == b) := by simp [cmpD]
@[go_sem] theorem cmpD_neq (t : TypeId) (ik : IntKind) (a b : Int) : cmpD P .neq t (.int ik a) (.int ik b) = some (a != b) := by simp [cmpD]
@[go_sem] theorem cmpD_lss (t : TypeId) (ik : IntKind) (a b : Int) : cmpD P .lss t (.int ik a) (.int ik b) = some (decide (a < b)) := by simp [cmpD]
@[go_sem] theorem cmpD_leq (t : TypeId) (ik : IntKind) (a b : Int) : cmpD P .leq t (.int ik a) (.int ik b) = some (decide (a ≤ b)) := by simp [cmpD]
@[go_sem] theorem cmpD_gtr (t : TypeId) (ik : IntKind) (a b : Int) : cmpD P .gtr t (.int ik a) (.int ik b) = some (decide (b < a)) := by simp [cmpD]
@[go_sem] theorem cmpD_geq (t : TypeId) (ik : IntKind) (a b : Int) : cmpD P .geq t (.int ik a) (.int ik b) = some (decide (b ≤ a)) := by simp [cmpD]
attribute [go_sem] Option.isSome_some Option.getD_some Option.map_some
@[congr] theorem rdCmp_congr {o : BinOp} {t : TypeId} {k : Prop → A → Prop} {a a' b b' : A} (h : a = a') (h' : b = b') : rdCmp P o t k a b = rdCmp P o t k a' b' := by rw [h, h']
@[go_sem, go_sem ↓] theorem opG_unOp (c : Bool) (o : UnOp) (t : TypeId) (a : Operand) (k : A → St → Prop) : opG P G σ e c (.unOp o t a) k = rdG P σ e (.unOp o t a) fun p z => (c = true → p) ∧ k (.grd c z) σ := (rfl)
@[go_sem, go_sem ↓] theorem rdG_unOp (o : UnOp) (t : TypeId) (a : Operand) (k : Prop → A → Prop) : rdG P σ e (.unOp o t a) k = rd P σ (fun x => (e x).strip) (.unOp o t a) fun p z => k (([a].all fun x => (e x).cond) = true ∧ p) z := (rfl)
@[go_sem, go_sem ↓] theorem opG_len (c : Bool) (a : Operand) (t : TypeId) (k : A → St → Prop) : opG P G σ e c (.call ⟨.builtin .len, #[a], #[t]⟩) k = rdG P σ e (.call ⟨.builtin .len, #[a], #[t]⟩) fun p z => (c = true → p) ∧ k (.grd c z) σ := (rfl)
@[go_sem, go_sem ↓] theorem rdG_len (a : Operand) (t : TypeId) (k : Prop → A → Prop) : rdG P σ e (.call ⟨.builtin .len, #[a], #[t]⟩) k = rd P σ (fun x => (e x).strip) (.call ⟨.builtin .len, #[a], #[t]⟩) fun p z => k (([a].all fun x => (e x).cond) = true ∧ p) z := (rfl)

-- each reading at its values
variable {k : Prop → A → Prop}
@[go_sem, go_sem ↓] theorem rdLoad_ea_cell {t : TypeId} (x : D) (off : Nat) (h : aggT P t = some false) : rdLoad P σ t k (.ea x off) = k (off < x.cells.length) (.d (x.cells.getD off default)) := by simp only [rdLoad, h]
@[go_sem, go_sem ↓] theorem rdLoad_ea_agg {t : TypeId} (x : D) (off : Nat) (h : aggT P t = some true) : rdLoad P σ t k (.ea x off) = k (off + P.cellsOf t ≤ x.cells.length) (.d (.agg ((x.cells.drop off).take (P.cellsOf t)))) := by simp only [rdLoad, h]
/-- What an object holds. -/
def objK (σ : St) (id : Nat) (k : List A → Prop) : Prop := match σ[id]? with
  | some (some (.cells cs)) => k cs
  | _ => False
theorem objK_of {id : Nat} {cs : List A} {k : List A → Prop} (h : σ[id]? = some (some (.cells cs))) : objK σ id k = k cs := by simp only [objK, h]
@[go_sem, go_sem ↓] theorem rdLoad_ref_cell {t : TypeId} (id off : Nat) (h : aggT P t = some false) : rdLoad P σ t k (.ref id off) = objK σ id fun cs => k (off < cs.length) (cs.getD off .any) := by
  simp only [rdLoad, objK, h]
  rcases σ[id]? with _ | _ | (_ | _ | _) <;> rfl
@[go_sem, go_sem ↓] theorem rdLoad_ref_agg {t : TypeId} (id off : Nat) (h : aggT P t = some true) : rdLoad P σ t k (.ref id off) = objK σ id fun cs => k (off + P.cellsOf t ≤ cs.length) (mkAgg ((cs.drop off).take (P.cellsOf t))) := by
  simp only [rdLoad, objK, h]
  rcases σ[id]? with _ | _ | (_ | _ | _) <;> rfl
@[go_sem, go_sem ↓] theorem rdFieldAddr_ea (t f : Nat) (x : D) (off : Nat) : rdFieldAddr P σ t f k (.ea x off) = optK (fld P t f) fun q => k True (.ea x (off + q.1)) := by simp only [rdFieldAddr]; rcases fld P t f with _ | ⟨_, _⟩ <;> rfl
@[go_sem, go_sem ↓] theorem rdFieldAddr_ref (t f id off : Nat) : rdFieldAddr P σ t f k (.ref id off) = optK (fld P t f) fun q => k (liveId σ id = true) (.ref id (off + q.1)) := by simp only [rdFieldAddr]; rcases fld P t f with _ | ⟨_, _⟩ <;> rfl
@[go_sem, go_sem ↓] theorem rdIndexAddr_sl (t sz : Nat) (xs : List D) (ik : IntKind) (n : Int) : rdIndexAddr P σ t k (.d (.sl sz xs)) (.d (.int ik n)) = optK (elemT P t) fun q => k (q.2 = sz ∧ 0 ≤ n ∧ n < xs.length) (.ea (xs.getD n.toNat default) 0) := by simp only [rdIndexAddr]; rcases elemT P t with _ | ⟨_, _⟩ <;> rfl
@[go_sem, go_sem ↓] theorem rdIndexAddr_rs (t id sz off len : Nat) (o : Option TypeId) (ik : IntKind) (n : Int) : rdIndexAddr P σ t k (.rs id sz off len o) (.d (.int ik n)) = optK (elemT P t) fun q => k (liveId σ id = true ∧ q.2 = sz ∧ 0 ≤ n ∧ n < len) (.ref id (off + n.toNat * sz)) := by simp only [rdIndexAddr]; rcases elemT P t with _ | ⟨_, _⟩ <;> rfl
@[go_sem, go_sem ↓] theorem rdIndexAddr_ea (t : TypeId) (x : D) (off : Nat) (ik : IntKind) (n : Int) : rdIndexAddr P σ t k (.ea x off) (.d (.int ik n)) = optK (arrT P t) fun q => k (0 ≤ n ∧ n < q.1) (.ea x (off + n.toNat * q.2.2)) := by simp only [rdIndexAddr]; rcases arrT P t with _ | ⟨_, _, _⟩ <;> rfl
@[go_sem, go_sem ↓] theorem rdIndexAddr_ref (t id off : Nat) (ik : IntKind) (n : Int) : rdIndexAddr P σ t k (.ref id off) (.d (.int ik n)) = optK (arrT P t) fun q => k (liveId σ id = true ∧ 0 ≤ n ∧ n < q.1) (.ref id (off + n.toNat * q.2.2)) := by simp only [rdIndexAddr]; rcases arrT P t with _ | ⟨_, _, _⟩ <;> rfl
@[go_sem, go_sem ↓] theorem rdIndex_str {t : TypeId} (s : List UInt8) (ik : IntKind) (n : Int) : rdIndex P t k (.d (.str s)) (.d (.int ik n)) = k (isStrT P t = true ∧ 0 ≤ n ∧ n < s.length) (.d (.int .u8 (s.getD n.toNat 0).toNat)) := (rfl)
@[go_sem, go_sem ↓] theorem rdIndex_agg (t : TypeId) (cs : List D) (ik : IntKind) (n : Int) : rdIndex P t k (.d (.agg cs)) (.d (.int ik n)) = optK (arrT P t) fun q => rdPart P q.2.1 (n.toNat * q.2.2) (fun p a => k (0 ≤ n ∧ n < q.1 ∧ p) a) (.d (.agg cs)) := by simp only [rdIndex]; rcases arrT P t with _ | ⟨_, _, _⟩ <;> rfl
@[go_sem, go_sem ↓] theorem rdPart_d_cell {t : TypeId} (o : Nat) (cs : List D) (h : aggT P t = some false) : rdPart P t o k (.d (.agg cs)) = k (o < cs.length) (.d (cs.getD o default)) := by simp only [rdPart, h]
section
variable (ik : IntKind) (a b : Int) (t : TypeId)
@[go_sem, go_sem ↓] theorem rdBin_add : rdBin P .add t k (.d (.int ik a)) (.d (.int ik b)) = k True (.d (.int ik (ik.wrap (a + b)))) := by simp [rdBin, rdArith]
@[go_sem, go_sem ↓] theorem rdBin_sub : rdBin P .sub t k (.d (.int ik a)) (.d (.int ik b)) = k True (.d (.int ik (ik.wrap (a - b)))) := by simp [rdBin, rdArith]
@[go_sem, go_sem ↓] theorem rdBin_mul : rdBin P .mul t k (.d (.int ik a)) (.d (.int ik b)) = k True (.d (.int ik (ik.wrap (a * b)))) := by simp [rdBin, rdArith]
@[go_sem, go_sem ↓] theorem rdBin_quo : rdBin P .quo t k (.d (.int ik a)) (.d (.int ik b)) = k (b ≠ 0) (.d (.int ik (ik.wrap (a.tdiv b)))) := by simp [rdBin, rdArith]
@[go_sem, go_sem ↓] theorem rdBin_rem : rdBin P .rem t k (.d (.int ik a)) (.d (.int ik b)) = k (b ≠ 0) (.d (.int ik (a.tmod b))) := by simp [rdBin, rdArith]
@[go_sem, go_sem ↓] theorem rdBin_eql : rdBin P .eql t k (.d (.int ik a)) (.d (.int ik b)) = k True (.d (.bool (a == b))) := by simp [rdBin, rdArith]
@[go_sem, go_sem ↓] theorem rdBin_neq : rdBin P .neq t k (.d (.int ik a)) (.d (.int ik b)) = k True (.d (.bool (a != b))) := by simp [rdBin, rdArith]
@[go_sem, go_sem ↓] theorem rdBin_lss : rdBin P .lss t k (.d (.int ik a)) (.d (.int ik b)) = k True (.d (.bool (decide (a < b)))) := by simp [rdBin, rdArith]
@[go_sem, go_sem ↓] theorem rdBin_leq : rdBin P .leq t k (.d (.int ik a)) (.d (.int ik b)) = k True (.d (.bool (decide (a ≤ b)))) := by simp [rdBin, rdArith]
@[go_sem, go_sem ↓] theorem rdBin_gtr : rdBin P .gtr t k (.d (.int ik a)) (.d (.int ik b)) = k True (.d (.bool (decide (b < a)))) := by simp [rdBin, rdArith]
@[go_sem, go_sem ↓] theorem rdBin_geq : rdBin P .geq t k (.d (.int ik a)) (.d (.int ik b)) = k True (.d (.bool (decide (b ≤ a)))) := by simp [rdBin, rdArith]
@[go_sem, go_sem ↓] theorem rdBin_bne (x y : Bool) : rdBin P .neq t k (.d (.bool x)) (.d (.bool y)) = k (isBoolT P t = true) (.d (.bool (!(x == y)))) := (rfl)
end
@[go_sem, go_sem ↓] theorem rdUn_not (b : Bool) : rdUn .not k (.d (.bool b)) = k True (.d (.bool (!b))) := (rfl)
@[go_sem, go_sem ↓] theorem rdUn_neg (ik : IntKind) (a : Int) : rdUn .neg k (.d (.int ik a)) = k True (.d (.int ik (ik.wrap (0 - a)))) := (rfl)

@[go_sem, go_sem ↓] theorem rdConvert_int {s : TypeId} (t : TypeId) (ik : IntKind) (a : Int) (h : aggT P s = some false) : rdConvert P σ s t k (.d (.int ik a)) = optK (intT P t) fun jk => k True (.d (.int jk (jk.wrap a))) := by
  unfold aggT at h
  unfold rdConvert
  cases hu : P.underlying s with
  | none => rw [hu] at h; cases h
  | some u => simp only []; rcases intT P t with _ | _ <;> rfl
@[go_sem, go_sem ↓] theorem rdLen_sl (t sz : Nat) (xs : List D) : rdLen P σ t k (.d (.sl sz xs)) = k ((elemT P t).isSome = true) (.d (.int .i64 xs.length)) := (rfl)
@[go_sem, go_sem ↓] theorem rdLen_nils (t : TypeId) : rdLen P σ t k (.d .nils) = k ((elemT P t).isSome = true) (.d (.int .i64 0)) := (rfl)
@[go_sem, go_sem ↓] theorem rdLen_rs (t id sz off n : Nat) (o : Option TypeId) : rdLen P σ t k (.rs id sz off n o) = k (liveId σ id = true ∧ (elemT P t).isSome = true) (.d (.int .i64 n)) := (rfl)
theorem rdPick_t (k : Prop → A → Prop) (a b : A) : rdPick k (.d (.bool true)) a b = k (a.cond = true) a.strip := by
  unfold rdPick
  split
  · rename_i x p q h0 h1 h2
    injection h0 with h0; injection h0 with h0; subst h0
    simp [h1]
  · rfl
  · rename_i _ _ heq _; cases heq
  · simp_all
theorem rdPick_f (k : Prop → A → Prop) (a b : A) : rdPick k (.d (.bool false)) a b = k (b.cond = true) b.strip := by
  unfold rdPick
  split
  · rename_i x p q h0 h1 h2
    injection h0 with h0; injection h0 with h0; subst h0
    simp [h2]
  · rename_i _ _ heq _; cases heq
  · rfl
  · simp_all
attribute [go_sem high, go_sem ↓ high] rdPick_t rdPick_f
@[go_sem, go_sem ↓] theorem rdPick_grd1 (x p q c : Bool) : rdPick k (.d (.bool x)) (.grd c (.d (.bool p))) (.d (.bool q)) = k (x = true → c = true) (.d (.bool (bif x then p else q))) := by
  simp only [rdPick, A.strip, A.cond, implies_true, and_true, Bool.and_true]
@[go_sem, go_sem ↓] theorem rdPick_grd2 (x p q c : Bool) : rdPick k (.d (.bool x)) (.d (.bool p)) (.grd c (.d (.bool q))) = k (x = false → c = true) (.d (.bool (bif x then p else q))) := by
  simp only [rdPick, A.strip, A.cond, implies_true, true_and, Bool.and_true]
attribute [go_sem] boundV Option.map_some Option.map_none
def b2K (a b : Option Int) (k : Int → Int → Prop) : Prop := match a, b with
  | some x, some y => k x y
  | _, _ => False
@[go_sem, go_sem ↓] theorem b2K_some (x y : Int) (k : Int → Int → Prop) : b2K (some x) (some y) k = k x y := (rfl)
@[congr] theorem b2K_congr {a a' b b' : Option Int} {k : Int → Int → Prop} (h : a = a') (h' : b = b') : b2K a b k = b2K a' b' k := by rw [h, h']
@[go_sem, go_sem ↓] theorem rdSlice_sl (t sz : Nat) (xs : List D) (lo hi : Option A) : rdSlice P σ t k (.d (.sl sz xs)) lo hi = b2K (boundV lo 0) (boundV hi xs.length) fun l h => optK (elemT P t) fun q => k (q.2 = sz ∧ 0 ≤ l ∧ l ≤ h ∧ h ≤ xs.length) (.d (.sl sz ((xs.take h.toNat).drop l.toNat))) := by
  simp only [rdSlice, b2K]
  rcases boundV lo 0 with _ | _ <;> rcases boundV hi xs.length with _ | _ <;> rcases elemT P t with _ | ⟨_, _⟩ <;> rfl
@[go_sem, go_sem ↓] theorem rdExtract_tup (i : Nat) (as : List A) : rdExtract k i (.tup as) = k (i < as.length) (as.getD i .any) := (rfl)
@[go_sem high, go_sem ↓ high] theorem condA_true (t e : Prop) : condA (.d (.bool true)) t e = t := by simp [condA]
@[go_sem high, go_sem ↓ high] theorem condA_false (t e : Prop) : condA (.d (.bool false)) t e = e := by simp [condA]
@[go_sem, go_sem ↓] theorem condA_bool (x : Bool) (t e : Prop) : condA (.d (.bool x)) t e = ((x = true → t) ∧ (x = false → e)) := (rfl)
@[congr] theorem condA_congr {a a' : A} {t e : Prop} (h : a = a') : condA a t e = condA a' t e := by rw [h]
-- the continuations are left alone
@[congr] theorem rdLoad_congr {t : TypeId} {k : Prop → A → Prop} {a a' : A} (h : a = a') : rdLoad P σ t k a = rdLoad P σ t k a' := by rw [h]
@[congr] theorem rdFieldAddr_congr {t f : Nat} {k : Prop → A → Prop} {a a' : A} (h : a = a') : rdFieldAddr P σ t f k a = rdFieldAddr P σ t f k a' := by rw [h]
@[congr] theorem rdField_congr {t f : Nat} {k : Prop → A → Prop} {a a' : A} (h : a = a') : rdField P t f k a = rdField P t f k a' := by rw [h]
@[congr] theorem rdIndexAddr_congr {t : TypeId} {k : Prop → A → Prop} {a a' b b' : A} (h : a = a') (h' : b = b') : rdIndexAddr P σ t k a b = rdIndexAddr P σ t k a' b' := by rw [h, h']
@[congr] theorem rdIndex_congr {t : TypeId} {k : Prop → A → Prop} {a a' b b' : A} (h : a = a') (h' : b = b') : rdIndex P t k a b = rdIndex P t k a' b' := by rw [h, h']
@[congr] theorem rdBin_congr {o : BinOp} {t : TypeId} {k : Prop → A → Prop} {a a' b b' : A} (h : a = a') (h' : b = b') : rdBin P o t k a b = rdBin P o t k a' b' := by rw [h, h']
@[congr] theorem rdStr_congr {o : BinOp} {k : Prop → A → Prop} {a a' b b' : List UInt8} (h : a = a') (h' : b = b') : rdStr o k a b = rdStr o k a' b' := by rw [h, h']
@[congr] theorem rdUn_congr {o : UnOp} {k : Prop → A → Prop} {a a' : A} (h : a = a') : rdUn o k a = rdUn o k a' := by rw [h]
@[congr] theorem rdConvert_congr {s t : TypeId} {k : Prop → A → Prop} {a a' : A} (h : a = a') : rdConvert P σ s t k a = rdConvert P σ s t k a' := by rw [h]
@[congr] theorem rdLen_congr {t : TypeId} {k : Prop → A → Prop} {a a' : A} (h : a = a') : rdLen P σ t k a = rdLen P σ t k a' := by rw [h]
@[congr] theorem rdPick_congr {k : Prop → A → Prop} {a a' b b' c c' : A} (h : a = a') (h' : b = b') (h'' : c = c') : rdPick k a b c = rdPick k a' b' c' := by rw [h, h', h'']
@[congr] theorem rdSlice_congr {t : TypeId} {k : Prop → A → Prop} {a a' : A} {b b' c c' : Option A} (h : a = a') (h' : b = b') (h'' : c = c') : rdSlice P σ t k a b c = rdSlice P σ t k a' b' c' := by rw [h, h', h'']
@[congr] theorem rdExtract_congr {i : Nat} {k : Prop → A → Prop} {a a' : A} (h : a = a') : rdExtract k i a = rdExtract k i a' := by rw [h]
@[congr] theorem rdAssert_congr {t : TypeId} {ok : Bool} {k : Prop → A → Prop} {a a' : A} (h : a = a') : rdAssert P t ok k a = rdAssert P t ok k a' := by rw [h]
@[congr] theorem rdBuild_congr {t : TypeId} {k : Prop → A → Prop} {a a' : List (Nat × A)} (h : a = a') : rdBuild P σ t a k = rdBuild P σ t a' k := by rw [h]
@[congr] theorem objK_congr {id id' : Nat} {σ' : St} {k : List A → Prop} (h : σ = σ') (h' : id = id') : objK σ id k = objK σ' id' k := by rw [h, h']
@[congr] theorem callV_congr {a a' : A} {l l' : List A} {k : A → St → Prop} (h : a = a') (h' : l = l') : callV P G σ a l k = callV P G σ a' l' k := by rw [h, h']
@[go_sem, go_sem ↓] theorem callV_fn (g : FuncId) (first cap args : List A) (k : A → St → Prop) : callV P G σ (.fn (.func g) first cap) args k = @AC' P G g (first ++ args ++ cap) σ ⟨k⟩ := (rfl)
@[go_sem, go_sem ↓] theorem callV_yield (l : Nat) (cap args : List A) (k : A → St → Prop) : callV P G σ (.fn (.yield l) [] cap) args k = @YC' P G l args σ ⟨k⟩ := (rfl)
@[congr] theorem callI_congr {a a' : A} {name : String} {l l' : List A} {k : A → St → Prop} (h : a = a') (h' : l = l') : callI P G σ a name l k = callI P G σ a' name l' k := by rw [h, h']
@[congr] theorem enterM_congr {q : FuncId × Rc} {a a' : A} {l l' : List A} {k : A → St → Prop} (h : a = a') (h' : l = l') : enterM P G σ q a l k = enterM P G σ q a' l' k := by rw [h, h']
@[congr] theorem wrApp_congr {t u : TypeId} {a a' b b' : A} {k : Prop → A → St → Prop} (h : a = a') (h' : b = b') : wrApp P σ t u a b k = wrApp P σ t u a' b' k := by rw [h, h']
@[congr] theorem wrGrow_congr {t u : TypeId} {a a' : A} {n n' : Int} {k : Prop → A → St → Prop} (h : a = a') (h' : n = n') : wrGrow P σ t u a n k = wrGrow P σ t u a' n' k := by rw [h, h']
@[congr] theorem wrAppend_congr {t u : TypeId} {a a' b b' : A} {k : Prop → A → St → Prop} (h : a = a') (h' : b = b') : wrAppend P σ t u a b k = wrAppend P σ t u a' b' k := by rw [h, h']
@[congr] theorem wrBox_congr {a a' : A} {k : Prop → A → St → Prop} (h : a = a') : wrBox σ a k = wrBox σ a' k := by rw [h]
@[congr] theorem wrStore_congr {t : TypeId} {a a' b b' : A} {k : Prop → A → St → Prop} (h : a = a') (h' : b = b') : wrStore P σ t a b k = wrStore P σ t a' b' k := by rw [h, h']
@[congr] theorem wrBuildSlice_congr {t n : Nat} {a a' : List (Nat × A)} {k : Prop → A → St → Prop} (h : a = a') : wrBuildSlice P σ t n a k = wrBuildSlice P σ t n a' k := by rw [h]
@[congr] theorem wrMakeSlice_congr {t : TypeId} {a a' b b' : A} {k : Prop → A → St → Prop} (h : a = a') (h' : b = b') : wrMakeSlice P σ t a b k = wrMakeSlice P σ t a' b' k := by rw [h, h']
@[go_sem, go_sem ↓] theorem wrBox_eq (a : A) (k : Prop → A → St → Prop) : wrBox σ a k = k (okA σ a = true) (.ref σ.length 0) (σ ++ [some (.cells a.cells)]) := (rfl)
@[go_sem, go_sem ↓] theorem wrAlloc_eq (t : TypeId) (k : Prop → A → St → Prop) : wrAlloc P σ t k = optK (zeroA P t) fun zs => k (zs.all (oneA []) = true) (.ref σ.length 0) (σ ++ [some (.cells zs)]) := by simp only [wrAlloc]; rcases zeroA P t with _ | _ <;> rfl
@[go_sem, go_sem ↓] theorem wrStore_ref (t id off : Nat) (x : A) (k : Prop → A → St → Prop) : wrStore P σ t (.ref id off) x k = objK σ id fun cs => k (okA σ x = true ∧ x.cells.length = P.cellsOf t ∧ (P.info? t).isSome = true ∧ off + x.cells.length ≤ cs.length) .any
        (σ.set id (some (.cells (cs.take off ++ x.cells ++ cs.drop (off + x.cells.length))))) := by
  simp only [wrStore, objK]
  rcases σ[id]? with _ | _ | (_ | _ | _) <;> rfl
@[go_sem, go_sem ↓] theorem wrBuildSlice_eq (t n : Nat) (ps : List (Nat × A)) (k : Prop → A → St → Prop) : wrBuildSlice P σ t n ps k = optK (mkT P t) fun q =>
    k (inOrder σ q.2.1 0 ps = true ∧ ps.length = n ∧ n * q.2.1 ≤ 16777216 ∧ n ≤ 16777216) (.rs σ.length q.2.1 0 n (some q.1)) (σ ++ [some (.cells (ps.flatMap fun p => p.2.cells))]) := by simp only [wrBuildSlice]; rcases mkT P t with _ | ⟨_, _, _, _⟩ <;> rfl
@[go_sem, go_sem ↓] theorem wrMakeSlice_eq (t : TypeId) (ik jk : IntKind) (n m : Int) (k : Prop → A → St → Prop) : wrMakeSlice P σ t (.d (.int ik n)) (.d (.int jk m)) k = optK (mkT P t) fun q =>
    k (0 ≤ n ∧ n ≤ m ∧ (q.2.2.1 : Int) * m ≤ 281474976710656 ∧ m ≤ 9223372036854775807) (.rs σ.length q.2.1 0 n.toNat (some q.1)) (σ ++ [some (.cells (List.replicate n.toNat q.2.2.2).flatten)]) := by simp only [wrMakeSlice]; rcases mkT P t with _ | ⟨_, _, _, _⟩ <;> rfl
-- code
variable {Q : Pst}
@[congr] theorem aw_congr {c : Code} {Q : Pst} {fr fr' : Fr} {σ σ' : St} (h : fr = fr') (h' : σ = σ') : aw P G n0 tx c Q fr σ = aw P G n0 tx c Q fr' σ' := by rw [h, h']
def seqK (P : Program) (G : Glob) (n0 : Nat) (tx : Md) (b : Code) (Q : Pst) : Pst
  | .normal, fr, σ => aw P G n0 tx b Q fr σ
  | .exit i, fr, σ => Q (.exit i) fr σ
  | .ret, fr, σ => Q .ret fr σ
def blockK (id : Nat) (Q : Pst) : Pst
  | .normal, fr, σ => Q .normal fr σ
  | .exit i, fr, σ => if i = id then Q .normal fr σ else Q (.exit i) fr σ
  | .ret, fr, σ => Q .ret fr σ
def loopK (G : Glob) (n0 : Nat) (I : Nat → Fr → St → Prop) (m : Nat) (Q : Pst) : Pst
  | .normal, fr, σ => Wk G n0 (fun f s => ∃ m', m' < m ∧ I m' f s) fr σ
  | .exit i, fr, σ => Q (.exit i) fr σ
  | .ret, fr, σ => Q .ret fr σ
@[go_sem] theorem aw_skip : aw P G n0 tx .skip Q fr σ = Q .normal fr σ := (rfl)
@[go_sem ↓] theorem headId_seq (a b : Code) : headId (.seq a b) = headId a := (rfl)
@[go_sem ↓] theorem headId_block (i : Nat) (a : Code) : headId (.block i a) = headId a := (rfl)
@[go_sem ↓] theorem headId_loop (a : Code) : headId (.loop a) = headId a := (rfl)
@[go_sem ↓] theorem headId_region (i : Nat) (l : Array Oper) (b : Bool) : headId (.region i l b) = some i := (rfl)
@[go_sem ↓] theorem headId_cond (c : Operand) (a b : Code) : headId (.cond c a b) = none := (rfl)
@[go_sem ↓] theorem headId_ret : headId .ret = none := (rfl)
def cutL (l : List Nat) : Option Nat → Bool
  | some id => l.contains id
  | none => false
@[go_sem ↓] theorem cutB_nil (c : Code) : cutB [] c = false := (rfl)
@[go_sem ↓] theorem cutB_cons (x : Nat) (r : List Nat) (c : Code) : cutB (x :: r) c = cutL (x :: r) (headId c) := by
  unfold cutB cutL
  cases headId c with
  | none => rfl
  | some id => simp only [List.contains_cons]
@[go_sem] theorem cutL_some (l : List Nat) (id : Nat) : cutL l (some id) = l.contains id := (rfl)
@[go_sem] theorem cutL_none (l : List Nat) : cutL l none = false := (rfl)
@[go_sem] theorem aw_seq (a b : Code) (h : cutB tx.cuts b = false) : aw P G n0 tx (.seq a b) Q fr σ = aw P G n0 tx a (seqK P G n0 tx b Q) fr σ := by
  simp only [aw, h, cond_false]
  congr 1
  funext e f s
  cases e <;> rfl
def cutQ (G : Glob) (n0 : Nat) (I : Fr → St → Prop) (Q : Pst) : Pst
  | .normal, fr, σ => Wk G n0 I fr σ
  | .exit i, fr, σ => Q (.exit i) fr σ
  | .ret, fr, σ => Q .ret fr σ
@[go_sem, go_sem ↓] theorem cutQ_normal (I : Fr → St → Prop) : cutQ G n0 I Q .normal fr σ = Wk G n0 I fr σ := (rfl)
@[go_sem, go_sem ↓] theorem cutQ_exit (I : Fr → St → Prop) (i : Nat) : cutQ G n0 I Q (.exit i) fr σ = Q (.exit i) fr σ := (rfl)
@[go_sem, go_sem ↓] theorem cutQ_ret (I : Fr → St → Prop) : cutQ G n0 I Q .ret fr σ = Q .ret fr σ := (rfl)
@[congr] theorem cutQ_congr {I : Fr → St → Prop} {x : Ex} {fr fr' : Fr} {σ σ' : St} (h : fr = fr') (h' : σ = σ') : cutQ G n0 I Q x fr σ = cutQ G n0 I Q x fr' σ' := by rw [h, h']
/-- The proof is cut between two parts of the code. -/
theorem aw_cut {a b : Code} (I : Fr → St → Prop) (ha : aw P G n0 tx a (cutQ G n0 I Q) fr σ) (hb : ∀ fr σ, I fr σ → aw P G n0 tx b Q fr σ) (h : cutB tx.cuts b = true := by kernel_rfl) : aw P G n0 tx (.seq a b) Q fr σ := by
  simp only [aw, h, cond_true]
  refine ⟨I, Eq.mp ?_ ha, hb⟩
  congr 1
  funext e f s
  cases e <;> rfl
@[go_sem] theorem aw_block (id : Nat) (c : Code) : aw P G n0 tx (.block id c) Q fr σ = aw P G n0 tx c (blockK id Q) fr σ := by
  simp only [aw]
  congr 1
  funext e f s
  cases e <;> rfl
@[go_sem] theorem aw_region (id : Nat) (l : List Oper) : aw P G n0 tx (.region id l.toArray false) Q fr σ = awOps P G l.toArray l (Q .normal) fr σ := by simp only [aw]
@[go_sem] theorem aw_draw (id : Nat) (l : List Oper) (cs : List Nat) (b : Bool) : aw P G n0 ⟨true, cs, b⟩ (.region id l.toArray true) Q fr σ = awOps P G l.toArray l (Q .normal) fr σ := by simp only [aw, cond_true]
/-- A drawn region by a plan. -/
theorem aw_plan {id : Nat} {l : List Oper} (p : Plan) (h : (decide (p.depth ≤ l.length) && p.check (infsOf l.toArray) false 0) = true) (hp : awPlan P G l.toArray (Q .normal) p fr σ) {cs : List Nat} {b : Bool} : aw P G n0 ⟨false, cs, b⟩ (.region id l.toArray true) Q fr σ := by
  simp only [Bool.and_eq_true, decide_eq_true_eq] at h
  simp only [aw, cond_false]
  exact ⟨p, by simpa using h.1, by simpa using h.2, hp⟩
@[go_sem] theorem awPlan_done (ops : Array Oper) (K : Fr → St → Prop) : awPlan P G ops K .done fr σ = K fr σ := (rfl)
@[go_sem] theorem awPlan_stop (ops : Array Oper) (K : Fr → St → Prop) : awPlan P G ops K .stop fr σ = True := (rfl)
/-- One operation of a plan. -/
def stepK (P : Program) (G : Glob) (ops : Array Oper) (o : Oper) (p : Plan) (K : Fr → St → Prop) (fr : Fr) (σ : St) : Prop := awOps P G ops [o] (awPlan P G ops K p) fr σ
theorem stepK_eq (ops : Array Oper) (o : Oper) (p : Plan) (K : Fr → St → Prop) : stepK P G ops o p K fr σ = stepA P G ops o (awPlan P G ops K p) fr σ := by
  unfold stepK; rw [awOps_cons]; rfl
/-- The operation of a number. -/
def nthK (P : Program) (G : Glob) (ops : Array Oper) (l : List Oper) (i : Nat) (p : Plan) (K : Fr → St → Prop) (fr : Fr) (σ : St) : Prop := match l[i]? with
  | some o => stepK P G ops o p K fr σ
  | none => False
@[go_sem] theorem nthK_zero (ops : Array Oper) (o : Oper) (l : List Oper) (p : Plan) (K : Fr → St → Prop) : nthK P G ops (o :: l) 0 p K fr σ = awOps P G ops [o] (awPlan P G ops K p) fr σ := (rfl)
@[go_sem] theorem nthK_succ (ops : Array Oper) (o : Oper) (l : List Oper) (i : Nat) (p : Plan) (K : Fr → St → Prop) : nthK P G ops (o :: l) (i + 1) p K fr σ = nthK P G ops l i p K fr σ := (rfl)
@[go_sem] theorem awPlan_take (l : List Oper) (K : Fr → St → Prop) (i : Nat) (p : Plan) : awPlan P G l.toArray K (.take i p) fr σ = nthK P G l.toArray l i p K fr σ := by
  simp only [awPlan, nthK, List.getElem?_toArray]
  cases l[i]? with
  | none => rfl
  | some o => exact (stepK_eq _ _ _ _).symm
/-- A pure call of a plan. -/
class KP where
  k : A → Prop
def ExP [K : KP] : Prop := ∃ x, K.k x
theorem exP {k : A → Prop} (x : A) (h : k x) : @ExP ⟨k⟩ := ⟨x, h⟩
class KQ where
  k : D → Prop
def ExQ [K : KQ] : Prop := ∃ x, K.k x
theorem exQ {k : D → Prop} (x : D) (h : k x) : @ExQ ⟨k⟩ := ⟨x, h⟩
def pureK (P : Program) (G : Glob) (ops : Array Oper) (o : Oper) (p : Plan) (K : Fr → St → Prop) (fr : Fr) (σ : St) : Prop := stepP P G ops o (fun x => awPlan P G ops K p (put fr o.dst x) σ) fr
def nthP (P : Program) (G : Glob) (ops : Array Oper) (l : List Oper) (i : Nat) (p : Plan) (K : Fr → St → Prop) (fr : Fr) (σ : St) : Prop := match l[i]? with
  | some o => pureK P G ops o p K fr σ
  | none => False
@[go_sem] theorem nthP_zero (ops : Array Oper) (o : Oper) (l : List Oper) (p : Plan) (K : Fr → St → Prop) : nthP P G ops (o :: l) 0 p K fr σ = pureK P G ops o p K fr σ := (rfl)
@[go_sem] theorem nthP_succ (ops : Array Oper) (o : Oper) (l : List Oper) (i : Nat) (p : Plan) (K : Fr → St → Prop) : nthP P G ops (o :: l) (i + 1) p K fr σ = nthP P G ops l i p K fr σ := (rfl)
@[go_sem] theorem awPlan_pure (l : List Oper) (K : Fr → St → Prop) (i : Nat) (p : Plan) : awPlan P G l.toArray K (.pure i p) fr σ = nthP P G l.toArray l i p K fr σ := by
  simp only [awPlan, nthP, List.getElem?_toArray]
  cases l[i]? with
  | none => rfl
  | some o => rfl
@[go_sem] theorem pureK_plain (ops : Array Oper) (p : Plan) (K : Fr → St → Prop) (dst : Option Tmp) (f : Operand) (as : Array Operand) (ts : Array TypeId) (ty : TypeId) (pos : String) (after : Array Edge) :
    pureK P G ops ⟨dst, .call ⟨.value f, as, ts⟩, ty, pos, after, none⟩ p K fr σ = @ExP ⟨fun x => (∀ σ', callV P G σ' (ev G fr f) (as.toList.map (ev G fr)) fun r s => r = x ∧ s = σ') ∧ awPlan P G ops K p (put fr dst x) σ⟩ := (rfl)
@[go_sem] theorem pureK_guard (ops : Array Oper) (p : Plan) (K : Fr → St → Prop) (dst : Option Tmp) (f : Operand) (as : Array Operand) (ts : Array TypeId) (ty : TypeId) (pos : String) (after : Array Edge) (j : Nat) (b : Bool) :
    pureK P G ops ⟨dst, .call ⟨.value f, as, ts⟩, ty, pos, after, some (j, b)⟩ p K fr σ = guardK (guardB ops fr j b) fun c => @ExQ ⟨fun d => (c = true → ((Op.call ⟨.value f, as, ts⟩).operands.toList.all fun x => (ev G fr x).cond) = true ∧ ∀ σ', callV P G σ' (ev G fr f).strip (as.toList.map fun x => (ev G fr x).strip) fun r s => r = .d d ∧ s = σ') ∧ awPlan P G ops K p (put fr dst (.grd c (.d d))) σ⟩ := by
  simp only [pureK, stepP, guardK]
  cases guardB ops fr j b <;> rfl
@[congr] theorem nthP_congr {ops : Array Oper} {l : List Oper} {i : Nat} {p : Plan} {K : Fr → St → Prop} {fr fr' : Fr} {σ σ' : St} (h : fr = fr') (h' : σ = σ') : nthP P G ops l i p K fr σ = nthP P G ops l i p K fr' σ' := by rw [h, h']
@[congr] theorem pureK_congr {ops : Array Oper} {o : Oper} {p : Plan} {K : Fr → St → Prop} {fr fr' : Fr} {σ σ' : St} (h : fr = fr') (h' : σ = σ') : pureK P G ops o p K fr σ = pureK P G ops o p K fr' σ' := by rw [h, h']
@[go_sem] theorem awPlan_alt (l : List Oper) (K : Fr → St → Prop) (i : Nat) (p q : Plan) : awPlan P G l.toArray K (.alt i p q) fr σ = (nthK P G l.toArray l i p K fr σ ∧ awPlan P G l.toArray K q fr σ) := by
  simp only [awPlan, nthK, List.getElem?_toArray]
  cases l[i]? with
  | none => rfl
  | some o => simp only [stepK_eq]
@[congr] theorem nthK_congr {ops : Array Oper} {l : List Oper} {i : Nat} {p : Plan} {K : Fr → St → Prop} {fr fr' : Fr} {σ σ' : St} (h : fr = fr') (h' : σ = σ') : nthK P G ops l i p K fr σ = nthK P G ops l i p K fr' σ' := by rw [h, h']
@[congr] theorem awPlan_congr {ops : Array Oper} {p : Plan} {K : Fr → St → Prop} {fr fr' : Fr} {σ σ' : St} (h : fr = fr') (h' : σ = σ') : awPlan P G ops K p fr σ = awPlan P G ops K p fr' σ' := by rw [h, h']
@[go_sem] theorem aw_cond (c : Operand) (a b : Code) : aw P G n0 tx (.cond c a b) Q fr σ = condA (ev G fr c) (aw P G n0 tx a Q fr σ) (aw P G n0 tx b Q fr σ) := by simp only [aw]
@[go_sem] theorem aw_exit (id : Nat) : aw P G n0 tx (.exit id) Q fr σ = Q (.exit id) fr σ := (rfl)
@[go_sem] theorem aw_ret : aw P G n0 tx .ret Q fr σ = Q .ret fr σ := (rfl)
/-- Behind the assignment to the loop's left sides. -/
def roundK (P : Program) (G : Glob) (n : Nat) (tx : Md) (body : Code) (id l : Nat) (r : Loop) (fr0 : List A) (k : A → St → Prop) : Pst
  | .normal, fr2, st2 => st2[id]? = some (some (.lp l r fr0)) ∧ aw P G n tx body (endR G n id l r fr0 k) fr2 (st2.set id (some (.lp l { r with state := .busy } fr0)))
  | _, _, _ => False
@[go_sem] theorem roundK_normal (n : Nat) (body : Code) (id l : Nat) (r : Loop) (fr0 : List A) (k : A → St → Prop) : roundK P G n tx body id l r fr0 k .normal fr σ =
  (σ[id]? = some (some (.lp l r fr0)) ∧ aw P G n tx body (endR G n id l r fr0 k) fr (σ.set id (some (.lp l { r with state := .busy } fr0)))) := (rfl)
@[congr] theorem roundK_congr {n : Nat} {body : Code} {id l : Nat} {r : Loop} {fr0 : List A} {k : A → St → Prop} {x : Ex} {fr fr' : Fr} {σ σ' : St} (h : fr = fr') (h' : σ = σ') : roundK P G n tx body id l r fr0 k x fr σ = roundK P G n tx body id l r fr0 k x fr' σ' := by rw [h, h']
@[congr] theorem endR_congr {n id l : Nat} {r : Loop} {fr0 : List A} {k : A → St → Prop} {x : Ex} {fr fr' : Fr} {σ σ' : St} (h : fr = fr') (h' : σ = σ') : endR G n id l r fr0 k x fr σ = endR G n id l r fr0 k x fr' σ' := by rw [h, h']
/-- A RANGE OVER A FUNCTION. -/
theorem aw_range {g : Operand} {ps : Array Tmp} {assign body : Code} {t : Bool} {cs : List Nat} (hp : ∀ a s, ¬ G.pan a s) (hw : Wk G n0 (fun fr σ => bdL σ.length fr = true ∧ ∃ f first cap, ev G fr g = .fn (.func f) first cap ∧
      ∀ (l : Nat) (r : Loop), (∀ args st k, st[σ.length]? = some (some (.lp l r fr)) ∧ args.length = ps.size ∧ aw P G st.length ⟨t, cs, true⟩ assign (roundK P G st.length ⟨t, cs, true⟩ body σ.length l r fr k) (setPs fr ps.toList args) st → YC P G l args st k) →
        AC P G f (first ++ .fn (.yield l) [] [] :: cap) (σ ++ [some (.lp l r fr)]) fun _ st => endF G n0 σ.length l r fr Q st) fr σ) : aw P G n0 ⟨t, cs, false⟩ (.rangeFunc g ps assign body) Q fr σ := by
  simp only [aw, cond_false]
  obtain ⟨fr', σ', h1, h2, f, first, cap, h3, h4⟩ := hw
  refine ⟨hp, fr', σ', h1, h2, f, first, cap, h3, fun l r hY => h4 l r fun args st k ⟨a1, a2, a3⟩ => hY args st k ⟨a1, a2, ?_⟩⟩
  refine Eq.mp ?_ a3
  congr 1
  funext e f s
  cases e <;> rfl
theorem aw_loop (I : Nat → Fr → St → Prop) (m0 : Nat) (c : Code) (h0 : Wk G n0 (I m0) fr σ) (h : ∀ m fr σ, I m fr σ → aw P G n0 tx c (loopK G n0 I m Q) fr σ) : aw P G n0 tx (.loop c) Q fr σ := by
  simp only [aw]
  refine ⟨I, m0, h0, fun m fr σ hI => ?_⟩
  have := h m fr σ hI
  revert this
  have e : loopK G n0 I m Q = (fun e fr' σ' => match e with | .normal => Wk G n0 (fun f s => ∃ m', m' < m ∧ I m' f s) fr' σ' | .exit i => Q (.exit i) fr' σ' | .ret => Q .ret fr' σ') := by
    funext e f s
    cases e <;> rfl
  rw [e]
  exact id
@[go_sem, go_sem ↓] theorem seqK_normal (b : Code) : seqK P G n0 tx b Q .normal fr σ = aw P G n0 tx b Q fr σ := (rfl)
@[go_sem, go_sem ↓] theorem seqK_exit (b : Code) (i : Nat) : seqK P G n0 tx b Q (.exit i) fr σ = Q (.exit i) fr σ := (rfl)
@[go_sem, go_sem ↓] theorem seqK_ret (b : Code) : seqK P G n0 tx b Q .ret fr σ = Q .ret fr σ := (rfl)
@[go_sem, go_sem ↓] theorem blockK_normal (id : Nat) : blockK id Q .normal fr σ = Q .normal fr σ := (rfl)
@[go_sem, go_sem ↓] theorem blockK_exit (id i : Nat) : blockK id Q (.exit i) fr σ = if i = id then Q .normal fr σ else Q (.exit i) fr σ := (rfl)
@[go_sem, go_sem ↓] theorem blockK_ret (id : Nat) : blockK id Q .ret fr σ = Q .ret fr σ := (rfl)
@[go_sem, go_sem ↓] theorem loopK_normal (I : Nat → Fr → St → Prop) (m : Nat) : loopK G n0 I m Q .normal fr σ = Wk G n0 (fun f s => ∃ m', m' < m ∧ I m' f s) fr σ := (rfl)
@[go_sem, go_sem ↓] theorem loopK_exit (I : Nat → Fr → St → Prop) (m i : Nat) : loopK G n0 I m Q (.exit i) fr σ = Q (.exit i) fr σ := (rfl)
@[go_sem, go_sem ↓] theorem loopK_ret (I : Nat → Fr → St → Prop) (m : Nat) : loopK G n0 I m Q .ret fr σ = Q .ret fr σ := (rfl)
@[congr] theorem seqK_congr {b : Code} {Q : Pst} {x : Ex} {fr fr' : Fr} {σ σ' : St} (h : fr = fr') (h' : σ = σ') : seqK P G n0 tx b Q x fr σ = seqK P G n0 tx b Q x fr' σ' := by rw [h, h']
@[congr] theorem blockK_congr {b : Nat} {Q : Pst} {x : Ex} {fr fr' : Fr} {σ σ' : St} (h : fr = fr') (h' : σ = σ') : blockK b Q x fr σ = blockK b Q x fr' σ' := by rw [h, h']
@[congr] theorem loopK_congr {I : Nat → Fr → St → Prop} {m : Nat} {Q : Pst} {x : Ex} {fr fr' : Fr} {σ σ' : St} (h : fr = fr') (h' : σ = σ') : loopK G n0 I m Q x fr σ = loopK G n0 I m Q x fr' σ' := by rw [h, h']

attribute [go_sem] true_and and_true implies_true imp_self and_self beq_true beq_false Bool.and_true Bool.true_and List.all_cons List.all_nil cond_true cond_false reduceIte Nat.reduceEqDiff Nat.reduceAdd Nat.zero_add Nat.add_zero List.map_cons List.map_nil List.nil_append List.cons_append List.append_nil List.length_cons List.length_nil D.cells List.drop_succ_cons List.drop_zero List.take_succ_cons List.take_zero Int.toNat_natCast ne_eq reduceCtorEq not_false_eq_true resK packA Ends RetOK Bool.not_not Bool.not_true Bool.not_false Bool.or_true Bool.true_or Bool.or_false Bool.false_or Bool.and_false Bool.false_and Nat.reduceSub Nat.reduceLT Nat.reduceLeDiff Nat.lt_add_one Nat.le_refl oneA okA A.cells D.one toDs mkAgg Op.operands Call.operands
@[go_sem] theorem getD_d_zero (x : D) (l : List D) : List.getD (x :: l) 0 default = x := (rfl)
@[go_sem] theorem getD_d_succ (x : D) (l : List D) (n : Nat) : List.getD (x :: l) (n + 1) default = List.getD l n default := (rfl)
@[go_sem] theorem cond_and (x y : Bool) : (bif x then y else false) = (x && y) := by cases x <;> rfl
@[go_sem] theorem cond_or (x y : Bool) : (bif x then true else y) = (x || y) := by cases x <;> rfl
@[go_sem] theorem not_of_false (x : Bool) : (x = false → (!x) = true) = True := by cases x <;> simp

attribute [go_sem] maskN List.contains_cons List.contains_nil Nat.reduceBEq bdL A.bd Nat.reduceAdd
@[congr] theorem rdPart_congr {t o o' : Nat} {k : Prop → A → Prop} {a a' : A} (h : o = o') (h' : a = a') : rdPart P t o k a = rdPart P t o' k a' := by rw [h, h']
/-- The cells of data laid one after another. -/
def flat (xs : List D) : List A := xs.flatMap fun x => x.cells.map .d
@[go_sem] theorem flat_nil : flat [] = [] := rfl
@[go_sem] theorem flat_cons (x : D) (xs : List D) : flat (x :: xs) = x.cells.map .d ++ flat xs := rfl
/-- What is appended, and to what. -/
def srcK (P : Program) (σ : St) (s : Nat) (t : TypeId) (x : A) (k : Prop → Nat → List A → Prop) : Prop := match srcA P σ s t x with
  | some (p, m, news) => k p m news
  | none => False
@[congr] theorem srcK_congr {s t : Nat} {x x' : A} {k : Prop → Nat → List A → Prop} (h : x = x') : srcK P σ s t x k = srcK P σ s t x' k := by rw [h]
@[go_sem, go_sem ↓] theorem srcK_sl (s t sz : Nat) (xs : List D) (k : Prop → Nat → List A → Prop) : srcK P σ s t (.d (.sl sz xs)) k = k (sz = s ∧ (elemT P t).isSome = true) xs.length (flat xs) := (rfl)
@[go_sem, go_sem ↓] theorem srcK_rs (s t id sz off len : Nat) (o : Option TypeId) (k : Prop → Nat → List A → Prop) : srcK P σ s t (.rs id sz off len o) k = objK σ id fun cs => k (sz = s ∧ (elemT P t).isSome = true ∧ off + len * s ≤ cs.length) len ((cs.drop off).take (len * s)) := by
  simp only [srcK, srcA, objK]
  rcases σ[id]? with _ | _ | (_ | _ | _) <;> rfl
@[go_sem, go_sem ↓] theorem wrApp_sl (t u sz : Nat) (xs : List D) (a : A) (k : Prop → A → St → Prop) : wrApp P σ t u a (.d (.sl sz xs)) k = wrAppend P σ t u a (.d (.sl sz xs)) k := (rfl)
@[go_sem, go_sem ↓] theorem wrApp_rs (t u id sz off len : Nat) (ow : Option TypeId) (a : A) (k : Prop → A → St → Prop) : wrApp P σ t u a (.rs id sz off len ow) k = wrAppend P σ t u a (.rs id sz off len ow) k := (rfl)
@[go_sem, go_sem ↓] theorem wrApp_int (t u : Nat) (ik : IntKind) (n : Int) (a : A) (k : Prop → A → St → Prop) : wrApp P σ t u a (.d (.int ik n)) k = wrGrow P σ t u a n k := (rfl)
@[go_sem, go_sem ↓] theorem wrGrow_nils (t u : Nat) (n : Int) (k : Prop → A → St → Prop) : wrGrow P σ t u (.d .nils) n k = optK (mkT P t) fun q => k (isIntK P u = true ∧ 0 < n ∧ n.toNat ≤ maxLen ∧ n.toNat * q.2.2.1 ≤ 140737488355328) (.rs σ.length q.2.1 0 n.toNat (some q.1)) (σ ++ [some (.cells [])]) := by
  simp only [wrGrow, optK]
  rcases mkT P t with _ | ⟨e, s, y, z⟩ <;> rfl
@[go_sem, go_sem ↓] theorem op1_cap (a : Operand) (t : TypeId) (k : A → St → Prop) : op1 P G σ e (.call ⟨.builtin .cap, #[a], #[t]⟩) k = rdCap P t (fun p a => p ∧ k a σ) (e a) := (rfl)
@[go_sem, go_sem ↓] theorem rdCap_nils (t : TypeId) (k : Prop → A → Prop) : rdCap P t k (.d .nils) = k ((elemT P t).isSome = true) (.d (.int .i64 0)) := (rfl)
@[go_sem, go_sem ↓] theorem wrAppend_rs (t u id sz off len : Nat) (ow : Option TypeId) (x : A) (k : Prop → A → St → Prop) : wrAppend P σ t u (.rs id sz off len ow) x k = optK (mkT P t) fun q => srcK P σ q.2.1 u x fun p m news => objK σ id fun cs =>
    k (p ∧ sz = q.2.1 ∧ off = 0 ∧ ow = some q.1 ∧ cs.length = len * q.2.1 ∧ len + m ≤ maxLen ∧ (len + m) * q.2.2.1 ≤ 140737488355328) (.rs σ.length q.2.1 0 (len + m) (some q.1)) (σ.set id none ++ [some (.cells (cs ++ news))]) := by
  simp only [wrAppend, srcK, optK, objK]
  rcases mkT P t with _ | ⟨e, s, y, z⟩
  · rfl
  · simp only
    rcases srcA P σ s u x with _ | ⟨_, _, _⟩
    · rfl
    · simp only
      rcases σ[id]? with _ | _ | (_ | _ | _) <;> rfl

-- stores: the objects of the call's own stand behind those that were there
@[go_sem, go_sem ↓] theorem objK_app {σ l : St} (j : Nat) (k : List A → Prop) : objK (σ ++ l) (σ.length + j) k = objK l j k := by
  simp only [objK]
  rw [List.getElem?_append_right (by omega), Nat.add_sub_cancel_left]
@[go_sem, go_sem ↓] theorem objK_app0 {σ l : St} (k : List A → Prop) : objK (σ ++ l) σ.length k = objK l 0 k := by
  exact objK_app (σ := σ) (l := l) 0 k
@[go_sem, go_sem ↓] theorem objK_zero (cs : List A) (l : St) (k : List A → Prop) : objK (some (.cells cs) :: l) 0 k = k cs := (rfl)
@[go_sem, go_sem ↓] theorem objK_succ (o : Option Ob) (l : St) (n : Nat) (k : List A → Prop) : objK (o :: l) (n + 1) k = objK l n k := (rfl)
@[go_sem] theorem live_app {σ l : St} (j : Nat) : liveId (σ ++ l) (σ.length + j) = liveId l j := by
  simp only [liveId]
  rw [List.getElem?_append_right (by omega), Nat.add_sub_cancel_left]
@[go_sem] theorem live_app0 {σ l : St} : liveId (σ ++ l) σ.length = liveId l 0 := by
  exact live_app (σ := σ) (l := l) 0
@[go_sem] theorem live_zero (o : Ob) (l : St) : liveId (some o :: l) 0 = true := (rfl)
@[go_sem] theorem live_succ (o : Option Ob) (l : St) (n : Nat) : liveId (o :: l) (n + 1) = liveId l n := (rfl)
@[go_sem] theorem set_app {σ l : St} (j : Nat) (x : Option Ob) : List.set (σ ++ l) (σ.length + j) x = σ ++ List.set l j x := by
  rw [List.set_append_right _ _ (by omega), Nat.add_sub_cancel_left]
@[go_sem] theorem set_app0 {σ l : St} (x : Option Ob) : List.set (σ ++ l) σ.length x = σ ++ List.set l 0 x := by
  exact set_app (σ := σ) (l := l) 0 x
@[go_sem] theorem sset_zero (x y : Option Ob) (l : St) : List.set (x :: l) 0 y = y :: l := (rfl)
@[go_sem] theorem sset_succ (x y : Option Ob) (l : St) (n : Nat) : List.set (x :: l) (n + 1) y = x :: List.set l n y := (rfl)
attribute [go_sem] List.append_assoc List.length_append
end
end Go.Ab
