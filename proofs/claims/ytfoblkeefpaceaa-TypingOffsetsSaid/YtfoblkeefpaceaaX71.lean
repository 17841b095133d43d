import Derived.Test.YtfoblkeefpaceaaFacts
import Derived.Test.YtfoblkeefpaceaaAbDefS
import Derived.Test.YtfoblkeefpaceaaAbPure
import Derived.Test.YtfoblkeefpaceaaAbDeep
import Derived.Test.YtfoblkeefpaceaaAbMore
import Derived.Test.YtfoblkeefpaceaaAbNil
import Derived.Test.YtfoblkeefpaceaaAbMapS

section PartM1
/- Trees, symbols, reports: what they are as data; what the checks of package typing come to, as lists of reports. -/
set_option linter.unusedSimpArgs false
set_option linter.unusedVariables false
namespace Go.Proofs.Ytfoblkeefpaceaa
open Go Go.Ab

theorem wrap64_id (x : Int) (h0 : -9223372036854775808 ≤ x) (h1 : x ≤ 9223372036854775807) : IntKind.i64.wrap x = x := by
  rw [IntKind.wrap_i64]; omega
theorem wrapS (j : Nat) (h : j < 9223372036854775807) : IntKind.i64.wrap ((j : Int) + 1) = ((j + 1 : Nat) : Int) := by
  rw [wrap64_id _ (by omega) (by omega)]; rfl
abbrev Str := List UInt8
abbrev iD (n : Int) : D := .int .i64 n
abbrev di (n : Int) : A := .d (.int .i64 n)
abbrev dn (n : Nat) : A := .d (.int .i64 n)
abbrev db (b : Bool) : A := .d (.bool b)
def isD (l : List Int) : D := .sl 1 (l.map iD)
/-- A machine's integer. -/
def I64 (x : Int) : Prop := -9223372036854775808 ≤ x ∧ x ≤ 9223372036854775807
theorem getD_mapD {α : Type} {f : α → D} {l : List α} {j : Nat} {d : α} (h : j < l.length) : List.getD (l.map f) j default = f (l.getD j d) := by
  rw [List.getD_eq_getElem?_getD, List.getElem?_map, List.getD_eq_getElem?_getD, List.getElem?_eq_getElem h]; rfl
theorem drop_getD {α : Type} {l : List α} {j : Nat} (d : α) (h : j < l.length) : l.drop j = l.getD j d :: l.drop (j + 1) := by
  rw [List.drop_eq_getElem_cons h, List.getD_eq_getElem?_getD, List.getElem?_eq_getElem h]; rfl
theorem getD_mem {α : Type} {l : List α} {j : Nat} (d : α) (h : j < l.length) : l.getD j d ∈ l := by
  rw [List.getD_eq_getElem?_getD, List.getElem?_eq_getElem h]; exact List.getElem_mem h
theorem take_getD {α : Type} {l : List α} {j : Nat} (d : α) (h : j < l.length) : l.take (j + 1) = l.take j ++ [l.getD j d] := by
  rw [List.take_add_one, List.getElem?_eq_getElem h, List.getD_eq_getElem?_getD, List.getElem?_eq_getElem h]; rfl

/-- Trees. -/
inductive Nd where
  | mk (kind : Int) (name other : Str) (n len init : Int) (ghost : Bool) (kids : List Nd) (pos : Int)
namespace Nd
def kind : Nd → Int | .mk k _ _ _ _ _ _ _ _ => k
def name : Nd → Str | .mk _ s _ _ _ _ _ _ _ => s
def other : Nd → Str | .mk _ _ s _ _ _ _ _ _ => s
def n : Nd → Int | .mk _ _ _ n _ _ _ _ _ => n
def len : Nd → Int | .mk _ _ _ _ l _ _ _ _ => l
def init : Nd → Int | .mk _ _ _ _ _ i _ _ _ => i
def ghost : Nd → Bool | .mk _ _ _ _ _ _ g _ _ => g
def kids : Nd → List Nd | .mk _ _ _ _ _ _ _ k _ => k
def pos : Nd → Int | .mk _ _ _ _ _ _ _ _ p => p
mutual
def d : Nd → D
  | .mk k s o n l i g ks p => .agg [iD k, .str s, .str o, iD n, iD l, iD i, .bool g, .sl 9 (ds ks), iD p]
def ds : List Nd → List D
  | [] => []
  | e :: r => e.d :: ds r
end
theorem ds_map : ∀ (l : List Nd), ds l = l.map d
  | [] => by simp [ds]
  | e :: r => by simp [ds, ds_map r]
/-- The fields of a tree, one by one. -/
def cs (e : Nd) : List D := [iD e.kind, .str e.name, .str e.other, iD e.n, iD e.len, iD e.init, .bool e.ghost, .sl 9 (e.kids.map d), iD e.pos]
theorem d_eq (e : Nd) : e.d = .agg [iD e.kind, .str e.name, .str e.other, iD e.n, iD e.len, iD e.init, .bool e.ghost, .sl 9 (e.kids.map d), iD e.pos] := by
  cases e; simp only [d, kind, name, other, n, len, init, ghost, kids, pos, ds_map]
theorem kid_lt {e k : Nd} (h : k ∈ e.kids) : SizeOf.sizeOf k < SizeOf.sizeOf e := by
  cases e with
  | mk k s o n l i g ks p =>
    have := List.sizeOf_lt_of_mem h
    simp only [mk.sizeOf_spec, kids] at this ⊢
    omega
/-- The tree that stands for a missing kid. -/
def none : Nd := .mk 63 [] [] 0 0 0 false [] 0
def kid (e : Nd) (i : Nat) : Nd := e.kids.getD i none
mutual
/-- Sizes fit a machine. -/
def nodes : Nd → Nat
  | .mk _ _ _ _ _ _ _ k _ => 1 + nodesL k
def nodesL : List Nd → Nat
  | [] => 0
  | e :: r => e.nodes + nodesL r
end
theorem nodesL_sum : ∀ (l : List Nd), nodesL l = (l.map nodes).sum
  | [] => rfl
  | e :: r => by simp [nodesL, nodesL_sum r]
theorem nodes_eq (e : Nd) : e.nodes = 1 + (e.kids.map nodes).sum := by
  cases e; simp only [nodes, kids, nodesL_sum]
end Nd
/-- Declared variables. -/
structure Vr where
  name : Str
  w : Int
  len : Int
  init : Int
  ghost : Bool
  mod : Int
  pos : Int
def Vr.cs (v : Vr) : List D := [.str v.name, iD v.w, iD v.len, iD v.init, .bool v.ghost, iD v.mod, iD v.pos]
def vrD (v : Vr) : D := .agg [.str v.name, iD v.w, iD v.len, iD v.init, .bool v.ghost, iD v.mod, iD v.pos]
def vrsD (l : List Vr) : D := .sl 7 (l.map vrD)
structure Lk where
  name : Str
  mod : Int
  inv : Nd
  pos : Int
def lkD (l : Lk) : D := .agg ([.str l.name, iD l.mod] ++ l.inv.cs ++ [iD l.pos])
structure Pr where
  name : Str
  mod : Int
  params : List Vr
  locals : List Vr
  locked : Str
  body : Nd
  calls : List Int
  pos : Int
def prD (p : Pr) : D := .agg ([.str p.name, iD p.mod, vrsD p.params, vrsD p.locals, .str p.locked] ++ p.body.cs ++ [isD p.calls, iD p.pos])
structure Mo where
  name : Str
  owner : Str
  rely : Nd
  guar : Nd
  frame : List Nd
  pos : Int
def moD (m : Mo) : D := .agg ([.str m.name, .str m.owner] ++ m.rely.cs ++ m.guar.cs ++ [.sl 9 (m.frame.map Nd.d), iD m.pos])
structure Th where
  name : Str
  proc : Int
  args : List Int
  asleep : Bool
  pos : Int
def thD (t : Th) : D := .agg [.str t.name, iD t.proc, isD t.args, .bool t.asleep, iD t.pos]
structure Sy where
  mods : List Mo
  vars : List Vr
  locks : List Lk
  procs : List Pr
  threads : List Th
def Sy.cs (s : Sy) : List D := [.sl 22 (s.mods.map moD), vrsD s.vars, .sl 12 (s.locks.map lkD), .sl 16 (s.procs.map prD), .sl 5 (s.threads.map thD)]
def syD (s : Sy) : D := .agg s.cs
/-- A report. -/
structure Dg where
  err : Int
  pos : Int
deriving DecidableEq
def dgD (d : Dg) : D := .agg [iD d.err, iD d.pos]
def dgsD (l : List Dg) : D := .sl 2 (l.map dgD)

-- Names.
def findV (l : List Vr) (s : Str) : Option Nat := l.findIdx? fun v => v.name == s
def sharedM (S : Sy) (m : Int) (s : Str) : Option Nat := S.vars.findIdx? fun v => v.mod == m && v.name == s
def modM (S : Sy) (s : Str) : Option Nat := S.mods.findIdx? fun m => m.name == s
def procInM (S : Sy) (m : Int) (s : Str) : Option Nat := S.procs.findIdx? fun p => p.mod == m && p.name == s
/-- A path, cut at its first point. -/
def splitM (s : Str) : Option (Str × Str) := match s.findIdx? (· == 46) with
  | some i => some (s.take i, s.drop (i + 1))
  | none => none
def dottedM (S : Sy) (s : Str) : Option (Nat × Str) := match splitM s with
  | some (h, r) => match modM S h with
    | some m => some (m, r)
    | none => none
  | none => none
def prAt (S : Sy) (p : Int) : Option Pr := if 0 ≤ p then S.procs[p.toNat]? else none
def inMods (S : Sy) (m : Int) : Bool := decide (0 ≤ m ∧ m < S.mods.length)
/-- Is there such a place: a module, and a procedure of it or none? -/
def placeM (S : Sy) (m p : Int) : Bool := inMods S m && decide (-1 ≤ p ∧ p < S.procs.length) && (match prAt S p with
  | some q => q.mod == m
  | none => true)
inductive Tg where
  | bad
  | no
  | at_ (kind : Int) (i : Nat)
def sharedT (S : Sy) (m : Int) (s : Str) : Tg := match sharedM S m s with
  | some i => .at_ 1 i
  | none => match dottedM S s with
    | some (o, r) => match sharedM S o r with
      | some i => .at_ 1 i
      | none => .no
    | none => .no
def lookM (S : Sy) (m p : Int) (s : Str) : Tg := if placeM S m p then (match prAt S p with
    | some q => match findV q.params s with
      | some i => .at_ 2 i
      | none => match findV q.locals s with
        | some i => .at_ 3 i
        | none => sharedT S m s
    | none => sharedT S m s)
  else .bad
def procOfM (S : Sy) (m : Int) (s : Str) : Option Nat := match (if 0 ≤ m then procInM S m s else none) with
  | some i => some i
  | none => match dottedM S s with
    | some (o, r) => procInM S o r
    | none => none
def vr0 : Vr := ⟨[], 0, 0, 0, false, 0, 0⟩
/-- A declared variable's kind and declaration. -/
def declM (S : Sy) (m p : Int) (s : Str) : Option (Int × Vr) := match lookM S m p s with
  | .at_ k i => some (k, if k = 2 then (match prAt S p with | some q => q.params.getD i vr0 | none => vr0)
      else if k = 3 then (match prAt S p with | some q => q.locals.getD i vr0 | none => vr0) else S.vars.getD i vr0)
  | _ => none
abbrev Bnd := List (Str × Int)
/-- What a path denotes. -/
inductive Mn where
  | none
  | bound (n : Int)
  | var (kind : Int) (v : Vr)
/-- The context of an expression: the declared variables; are old values permitted? -/
structure Cx where
  L : Str → Option (Int × Vr)
  old : Bool
def den (L : Str → Option (Int × Vr)) (B : Bnd) (s : Str) : Mn := match B.reverse.find? (fun b => b.1 == s) with
  | some b => .bound b.2
  | none => match L s with
    | some (k, v) => .var k v
    | none => .none

-- Widths.
def fitsM (n w : Int) : Bool := decide (0 ≤ n ∧ n < 2 ^ w.toNat)
def bitsM (n : Int) : Int := if n ≤ 1 then 1 else Nat.log2 n.toNat + 1
def topM (n : Int) : Int := if n < 1 then 0 else n - 1
/-- Classes of operators: 0 other, 1 logical, 2 comparisons, 3 arithmetic. -/
def opM (s : Str) : Int :=
  if s == [61, 61, 62] || s == [124, 124] || s == [38, 38] then 1
  else if s == [61, 61] || s == [33, 61] || s == [60] || s == [60, 61] then 2
  else if s == [124] || s == [94] || s == [38] || s == [43] || s == [45] || s == [42] then 3 else 0
def orM (a b : Int) : Int := if a ≠ 0 then a else b
def Mn.own : Mn → Int
  | .var _ v => v.w
  | _ => 0
def Mn.least : Mn → Int
  | .bound b => bitsM (topM b)
  | _ => 1
section
variable (dn : Str → Mn)
mutual
def ownM : Nd → Int
  | .mk k s _ _ _ _ _ ks _ =>
    let l := ownL ks
    if k = 2 then (dn s).own
    else if k = 3 ∨ k = 4 then l.getD 0 0
    else if k = 5 then (if opM s = 3 then orM (l.getD 0 0) (l.getD 1 0) else if opM s = 0 then 0 else 1)
    else if k = 6 then orM (l.getD 1 0) (l.getD 2 0)
    else if k = 7 ∨ k = 8 then 1 else 0
def ownL : List Nd → List Int
  | [] => []
  | e :: r => ownM e :: ownL r
end
mutual
def leastM : Nd → Int
  | .mk k s _ n _ _ _ ks _ =>
    let l := leastL ks
    if k = 1 then bitsM n
    else if k = 2 then (dn s).least
    else if k = 3 ∨ k = 4 then l.getD 0 1
    else if k = 5 then (if opM s = 3 then max (l.getD 0 1) (l.getD 1 1) else 1)
    else if k = 6 then max (l.getD 1 1) (l.getD 2 1)
    else 1
def leastL : List Nd → List Int
  | [] => []
  | e :: r => leastM e :: leastL r
end
theorem ownL_map : ∀ l : List Nd, ownL dn l = l.map (ownM dn)
  | [] => by simp [ownL]
  | e :: r => by simp [ownL, ownL_map r]
theorem leastL_map : ∀ l : List Nd, leastL dn l = l.map (leastM dn)
  | [] => by simp [leastL]
  | e :: r => by simp [leastL, leastL_map r]
def widthM (e : Nd) (want : Int) : Int := if want ≠ 0 then want else if ownM dn e ≠ 0 then ownM dn e else min (leastM dn e) 8
end
theorem own_none (dn : Str → Mn) : ownM dn Nd.none = 0 := by simp [Nd.none, ownM]
theorem least_none (dn : Str → Mn) : leastM dn Nd.none = 1 := by simp [Nd.none, leastM]
theorem getD_map_none {α : Type} (f : Nd → α) (l : List Nd) (i : Nat) : (l.map f).getD i (f Nd.none) = f (l.getD i Nd.none) := by
  rw [List.getD_eq_getElem?_getD, List.getElem?_map, List.getD_eq_getElem?_getD]; cases l[i]? <;> rfl
theorem own_eq (dn : Str → Mn) (e : Nd) : ownM dn e =
    (if e.kind = 2 then (dn e.name).own
    else if e.kind = 3 ∨ e.kind = 4 then ownM dn (e.kid 0)
    else if e.kind = 5 then (if opM e.name = 3 then orM (ownM dn (e.kid 0)) (ownM dn (e.kid 1)) else if opM e.name = 0 then 0 else 1)
    else if e.kind = 6 then orM (ownM dn (e.kid 1)) (ownM dn (e.kid 2))
    else if e.kind = 7 ∨ e.kind = 8 then 1 else 0) := by
  have h : ∀ i, (ownL dn e.kids).getD i 0 = ownM dn (e.kid i) := fun i => by
    rw [ownL_map, ← own_none dn, getD_map_none]; rfl
  cases e; simp only [Nd.kids, Nd.kind, Nd.name, Nd.n] at h ⊢; simp only [ownM, h]; rfl
theorem least_eq (dn : Str → Mn) (e : Nd) : leastM dn e =
    (if e.kind = 1 then bitsM e.n
    else if e.kind = 2 then (dn e.name).least
    else if e.kind = 3 ∨ e.kind = 4 then leastM dn (e.kid 0)
    else if e.kind = 5 then (if opM e.name = 3 then max (leastM dn (e.kid 0)) (leastM dn (e.kid 1)) else 1)
    else if e.kind = 6 then max (leastM dn (e.kid 1)) (leastM dn (e.kid 2))
    else 1) := by
  have h : ∀ i, (leastL dn e.kids).getD i 1 = leastM dn (e.kid i) := fun i => by
    rw [leastL_map, ← least_none dn, getD_map_none]; rfl
  cases e; simp only [Nd.kids, Nd.kind, Nd.name, Nd.n] at h ⊢; simp only [leastM, h]; rfl

-- Reports.
def rep (wrong : Bool) (err pos : Int) : List Dg := if wrong then [⟨err, pos⟩] else []
/-- Is an old value out of place? -/
def oldBad (old : Bool) (dn : Str → Mn) (t : Nd) : Bool := !old || t.kind != 2 || (match dn t.name with | .bound _ => true | .var k _ => k == 2 || k == 3 | .none => false)
/-- A reference's own reports. -/
def refOwn (m : Mn) (indexed : Bool) (w pos : Int) : List Dg := match m with
  | .bound n => if indexed then [⟨51, pos⟩] else rep (!fitsM (topM n) w) 50 pos
  | .none => [⟨40, pos⟩]
  | .var _ v => if indexed != decide (0 < v.len) then [⟨51, pos⟩] else rep (v.w != w) 50 pos
/-- Is a constant index outside? -/
def outM (dn : Str → Mn) (m : Mn) (i : Nd) : Bool := match m with
  | .var _ v => decide (0 < v.len) && (if i.kind = 2 then (match dn i.name with | .bound n => decide (v.len < n) | _ => false) else i.kind == 1 && (decide (i.n < 0) || decide (v.len ≤ i.n)))
  | _ => false
section
variable (C : Cx)
mutual
def exprM : Nd → Bnd → Int → List Dg
  | .mk k s _ n _ _ _ ks p => fun B w =>
    let es := exprL ks
    let z : Bnd → Int → List Dg := fun _ _ => [⟨44, 0⟩]
    let dn := den C.L B
    let e0 := ks.getD 0 Nd.none
    let e1 := ks.getD 1 Nd.none
    if k = 1 then rep (!fitsM n w) 50 p
    else if k = 2 then refOwn (dn s) (!ks.isEmpty) w p ++ (if ks.isEmpty then [] else if outM dn (dn s) e0 then [⟨51, e0.pos⟩] else es.getD 0 z B (widthM dn e0 0))
    else if k = 3 then rep (oldBad C.old dn e0) 44 p ++ es.getD 0 z B w
    else if k = 4 then es.getD 0 z B w
    else if k = 5 then (
      if opM s = 1 then rep (w != 1) 50 p ++ (es.getD 0 z B 1 ++ es.getD 1 z B 1)
      else if opM s = 2 then
        let v := if orM (ownM dn e0) (ownM dn e1) ≠ 0 then orM (ownM dn e0) (ownM dn e1) else min (max (leastM dn e0) (leastM dn e1)) 8
        rep (w != 1) 50 p ++ (es.getD 0 z B v ++ es.getD 1 z B v)
      else if opM s = 3 then es.getD 0 z B w ++ es.getD 1 z B w
      else [⟨44, p⟩])
    else if k = 6 then es.getD 0 z B 1 ++ (es.getD 1 z B w ++ es.getD 2 z B w)
    else if k = 7 ∨ k = 8 then (if w ≠ 1 then [⟨50, p⟩] else rep (decide (n < 0) || decide (8 < n)) 2 p) ++ es.getD 0 z (B ++ [(s, n)]) 1
    else [⟨44, p⟩]
def exprL : List Nd → List (Bnd → Int → List Dg)
  | [] => []
  | e :: r => exprM e :: exprL r
end
theorem exprL_map : ∀ l : List Nd, exprL C l = l.map (exprM C)
  | [] => by simp [exprL]
  | e :: r => by simp [exprL, exprL_map r]
theorem expr_none (B : Bnd) (w : Int) : exprM C Nd.none B w = [⟨44, 0⟩] := by simp [Nd.none, exprM]
/-- The width of a comparison's operands. -/
def innerM (dn : Str → Mn) (a b : Nd) : Int := if orM (ownM dn a) (ownM dn b) ≠ 0 then orM (ownM dn a) (ownM dn b) else min (max (leastM dn a) (leastM dn b)) 8
/-- A binary expression's reports, by what its kids' are. -/
def binM (E : Nd → Int → List Dg) (dn : Str → Mn) (e : Nd) (w : Int) : List Dg :=
  if opM e.name = 1 then rep (w != 1) 50 e.pos ++ (E (e.kid 0) 1 ++ E (e.kid 1) 1)
  else if opM e.name = 2 then rep (w != 1) 50 e.pos ++ (E (e.kid 0) (innerM dn (e.kid 0) (e.kid 1)) ++ E (e.kid 1) (innerM dn (e.kid 0) (e.kid 1)))
  else if opM e.name = 3 then E (e.kid 0) w ++ E (e.kid 1) w
  else [⟨44, e.pos⟩]
/-- The reports about an index. -/
def indexM (E : Nd → Int → List Dg) (dn : Str → Mn) (m : Mn) (i : Nd) : List Dg := if outM dn m i then [⟨51, i.pos⟩] else E i (widthM dn i 0)
def refM (E : Nd → Int → List Dg) (dn : Str → Mn) (e : Nd) (w : Int) : List Dg :=
  refOwn (dn e.name) (!e.kids.isEmpty) w e.pos ++ (if e.kids.isEmpty then [] else indexM E dn (dn e.name) (e.kid 0))
theorem expr_eq (e : Nd) (B : Bnd) (w : Int) : exprM C e B w =
    (if e.kind = 1 then rep (!fitsM e.n w) 50 e.pos
    else if e.kind = 2 then refM (fun k v => exprM C k B v) (den C.L B) e w
    else if e.kind = 3 then rep (oldBad C.old (den C.L B) (e.kid 0)) 44 e.pos ++ exprM C (e.kid 0) B w
    else if e.kind = 4 then exprM C (e.kid 0) B w
    else if e.kind = 5 then binM (fun k v => exprM C k B v) (den C.L B) e w
    else if e.kind = 6 then exprM C (e.kid 0) B 1 ++ (exprM C (e.kid 1) B w ++ exprM C (e.kid 2) B w)
    else if e.kind = 7 ∨ e.kind = 8 then (if w ≠ 1 then [⟨50, e.pos⟩] else rep (decide (e.n < 0) || decide (8 < e.n)) 2 e.pos) ++ exprM C (e.kid 0) (B ++ [(e.name, e.n)]) 1
    else [⟨44, e.pos⟩]) := by
  have h : ∀ i, (exprL C e.kids).getD i (fun _ _ => [⟨44, 0⟩]) = exprM C (e.kid i) := fun i => by
    have : (fun _ _ => [⟨44, 0⟩]) = exprM C Nd.none := by funext B w; rw [expr_none]
    rw [exprL_map, this, getD_map_none]; rfl
  cases e
  simp only [Nd.kids, Nd.kind, Nd.name, Nd.n, Nd.pos, refM, binM, indexM, innerM] at h ⊢
  simp only [exprM, h, Nd.kid, Nd.kids]
  rfl
end
-- Statements.
/-- What the statements of a procedure see. -/
structure Sx where
  C : Cx
  lock : Str → Bool
  thread : Str → Bool
  proc : Str → Option (List Int)
section
variable (X : Sx)
def eM (e : Nd) (w : Int) : List Dg := exprM X.C e [] w
def ownS (e : Nd) : Int := ownM (den X.C.L []) e
def freeM (e : Nd) (want : Int) : List Dg := eM X e (widthM (den X.C.L []) e want)
/-- An assignment. -/
def oneM (t e : Nd) : List Dg := if t.kind ≠ 2 then ⟨44, t.pos⟩ :: freeM X e 0 else eM X t (ownS X t) ++ freeM X e (ownS X t)
def assignsM : List Nd → List Dg
  | [] => []
  | [t] => oneM X t Nd.none
  | t :: e :: r => oneM X t e ++ assignsM r
def truthM (e : Nd) : List Dg := if e.kind ≠ 63 then eM X e 1 else []
def privM (m : Mn) : Bool := match m with | .var k _ => k == 2 || k == 3 | _ => false
def casM (n : Nd) : List Dg :=
  let t := n.kid 0
  let w := if t.kind = 2 then ownS X t else 0
  (if t.kind ≠ 2 ∨ privM (den X.C.L [] t.name) = true then [⟨44, t.pos⟩] else eM X t w) ++
  (freeM X (n.kid 1) w ++ (freeM X (n.kid 2) w ++
  ((if (n.kid 3).kind ≠ 2 then [⟨44, (n.kid 3).pos⟩] else eM X (n.kid 3) 1) ++ assignsM X (n.kids.drop 4))))
def argsM : List Int → List Nd → List Dg
  | _, [] => []
  | [], e :: r => freeM X e 0 ++ argsM [] r
  | w :: ws, e :: r => freeM X e w ++ argsM ws r
def callM (n : Nd) : List Dg := match X.proc n.name with
  | none => ⟨40, n.pos⟩ :: argsM X [] n.kids
  | some ws => rep (n.kids.length != ws.length) 43 n.pos ++ argsM X ws n.kids
mutual
def stM : Nd → List Dg
  | .mk k s o n l i g ks p =>
    let e : Nd := .mk k s o n l i g ks p
    let ss := stL ks
    if k = 34 then ss.flatten
    else if k = 20 ∨ k = 29 then eM X (e.kid 0) 1
    else if k = 21 then assignsM X ks
    else if k = 22 then truthM X (e.kid 0) ++ assignsM X (ks.drop 1)
    else if k = 23 then casM X e
    else if k = 31 then eM X (e.kid 0) 1 ++ (ss.getD 1 [] ++ ss.getD 2 [])
    else if k = 32 then eM X (e.kid 0) 1 ++ ((if (e.kid 1).kind ≠ 63 then freeM X (e.kid 1) 0 else []) ++ ss.getD 2 [])
    else if k = 33 then callM X e
    else if k = 24 ∨ k = 25 then rep (!X.lock s) 40 p
    else if k = 27 ∨ k = 28 then rep (!X.thread s) 40 p
    else if k = 26 ∨ k = 30 ∨ k = 35 ∨ k = 63 then []
    else [⟨44, p⟩]
def stL : List Nd → List (List Dg)
  | [] => []
  | e :: r => stM e :: stL r
end
theorem stL_map : ∀ l : List Nd, stL X l = l.map (stM X)
  | [] => by simp [stL]
  | e :: r => by simp [stL, stL_map r]
theorem st_none : stM X Nd.none = [] := by simp [Nd.none, stM]
theorem st_eq (e : Nd) : stM X e =
    (if e.kind = 34 then e.kids.flatMap (stM X)
    else if e.kind = 20 ∨ e.kind = 29 then eM X (e.kid 0) 1
    else if e.kind = 21 then assignsM X e.kids
    else if e.kind = 22 then truthM X (e.kid 0) ++ assignsM X (e.kids.drop 1)
    else if e.kind = 23 then casM X e
    else if e.kind = 31 then eM X (e.kid 0) 1 ++ (stM X (e.kid 1) ++ stM X (e.kid 2))
    else if e.kind = 32 then eM X (e.kid 0) 1 ++ ((if (e.kid 1).kind ≠ 63 then freeM X (e.kid 1) 0 else []) ++ stM X (e.kid 2))
    else if e.kind = 33 then callM X e
    else if e.kind = 24 ∨ e.kind = 25 then rep (!X.lock e.name) 40 e.pos
    else if e.kind = 27 ∨ e.kind = 28 then rep (!X.thread e.name) 40 e.pos
    else if e.kind = 26 ∨ e.kind = 30 ∨ e.kind = 35 ∨ e.kind = 63 then []
    else [⟨44, e.pos⟩]) := by
  have h : ∀ i, (stL X e.kids).getD i [] = stM X (e.kid i) := fun i => by
    rw [stL_map, ← st_none X, getD_map_none]; rfl
  have h2 : (stL X e.kids).flatten = e.kids.flatMap (stM X) := by rw [stL_map]; rfl
  cases e
  simp only [Nd.kids, Nd.kind, Nd.name, Nd.n, Nd.pos] at h h2 ⊢
  simp only [stM, h, h2]
  rfl
end
-- The whole.
def sizedM (l : List Vr) : Bool := l.all fun v => decide (1 ≤ v.w ∧ v.w ≤ 8 ∧ 0 ≤ v.len ∧ v.len ≤ 8)
def usableM (S : Sy) : Bool := S.vars.all (fun v => inMods S v.mod) && S.locks.all (fun l => inMods S l.mod) && S.procs.all (fun p => inMods S p.mod && sizedM p.params && sizedM p.locals) && sizedM S.vars
def cxM (S : Sy) (m p : Int) (old : Bool) : Cx := ⟨declM S m p, old⟩
/-- The widths of a procedure's parameters. -/
def prmM (S : Sy) (m : Int) (s : Str) : Option (List Int) := match procOfM S m s with
  | some i => some (((S.procs[i]?.map Pr.params).getD []).map Vr.w)
  | none => none
def sxM (S : Sy) (m p : Int) (old : Bool) : Sx := ⟨cxM S m p old, fun s => S.locks.any fun l => l.mod == m && l.name == s, fun s => S.threads.any fun t => t.name == s, prmM S m⟩
def goodM (S : Sy) (m p want : Int) : Bool := usableM S && placeM S m p && decide (0 ≤ want ∧ want ≤ 8)
def wM (S : Sy) (m p : Int) (e : Nd) (want : Int) : Int := widthM (den (declM S m p) []) e want
def dM (S : Sy) (m p : Int) (e : Nd) (want : Int) : List Dg := exprM (cxM S m p (decide (p < 0))) e [] (wM S m p e want)
/-- What Width returns. -/
def widthR (S : Sy) (m p : Int) (e : Nd) (want : Int) : Int × List Dg := if goodM S m p want then (wM S m p e want, (dM S m p e want).take 20) else (0, [⟨1, e.pos⟩])
def frameM (S : Sy) (m : Int) (n : Nd) : List Dg := match lookM S m (-1) n.name with
  | .at_ _ _ => rep (decide (0 < n.kids.length)) 51 n.pos
  | _ => [⟨40, n.pos⟩]
def contractM (S : Sy) (i : Nat) (m : Mo) : List Dg := truthM (sxM S i (-1) true) m.rely ++ (truthM (sxM S i (-1) true) m.guar ++ m.frame.flatMap (frameM S i))
def lockM (S : Sy) (l : Lk) : List Dg := truthM (sxM S l.mod (-1) false) l.inv
def procM (S : Sy) (i : Nat) (p : Pr) : List Dg := stM (sxM S p.mod i false) p.body
def wholeM (S : Sy) : List Dg := (S.mods.zipIdx.flatMap fun x => contractM S x.2 x.1) ++ (S.locks.flatMap (lockM S) ++ S.procs.zipIdx.flatMap fun x => procM S x.2 x.1)
/-- What Check returns. -/
def checkR (S : Sy) : List Dg := if usableM S then (wholeM S).take 20 else [⟨1, 0⟩]
end Go.Proofs.Ytfoblkeefpaceaa
end PartM1
