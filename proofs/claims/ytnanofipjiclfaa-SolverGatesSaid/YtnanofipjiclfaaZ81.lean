import Derived.Test.YtnanofipjiclfaaFacts
import Derived.Test.YtnanofipjiclfaaAbDefS
import Derived.Test.YtnanofipjiclfaaAbPure
import Derived.Test.YtnanofipjiclfaaAbDeep
import Derived.Test.YtnanofipjiclfaaAbMore
import Derived.Test.YtnanofipjiclfaaAbNil
import Derived.Test.YtnanofipjiclfaaAbMapS

section PartP1
/- The solver as a plain model. -/
set_option linter.unusedVariables false
namespace Go.Proofs.Ytnanofipjiclfaa

/-- A clause with the number of its different literals that are not false, and of those that are true. -/
structure Cl where
  lits : List Int
  opn : Int
  held : Int
instance : Inhabited Cl := ⟨⟨[], 0, 0⟩⟩
structure Sv where
  vars : Nat
  steps : List (List Int × List Nat)
  used : Nat
  added : List Cl
  learned : List Cl
  occ : List (List Nat)
  last : List Nat
  stamp : Nat
  truth : List Bool
  trail : List Int
  reasons : List Int
  levels : List Nat
  starts : List Nat
  marked : List Bool
  queue : List Nat
  left : Nat
  first : Nat
  values : List Bool
  core : List Int
  refuted : Bool
  satisfied : Bool
  solves : Nat
abbrev cmax : Nat := 40000
abbrev pmax : Nat := 20000
def code (l : Int) : Nat := if l < 0 then (1 - 2 * l).toNat else (2 * l).toNat
def vr (l : Int) : Nat := l.natAbs
def newS (n : Nat) : Sv := ⟨n, [], 0, [], [], List.replicate (2 * n + 2) [], List.replicate (2 * n + 2) 0, 0, List.replicate (2 * n + 2) false, [], List.replicate (n + 1) 0, List.replicate (n + 1) 0, [], List.replicate (n + 1) false, [], 0, 0, [], [], false, false, 0⟩
namespace Sv
def tr (S : Sv) (l : Int) : Bool := S.truth.getD (code l) false
/-- One literal of a clause that enters. -/
def enter1 (id : Nat) (p : Sv × Cl) (l : Int) : Sv × Cl :=
  if p.1.last.getD (code l) 0 = p.1.stamp then p
  else ({ p.1 with last := p.1.last.set (code l) p.1.stamp, occ := p.1.occ.set (code l) (p.1.occ.getD (code l) [] ++ [id]) },
    ⟨p.2.lits, if p.1.tr (-l) then p.2.opn else p.2.opn + 1, if p.1.tr l then p.2.held + 1 else p.2.held⟩)
def enter (S : Sv) (lits : List Int) (id : Nat) : Sv × Cl := lits.foldl (enter1 id) ({ S with stamp := S.stamp + 1 }, ⟨lits, 0, 0⟩)
def valid (S : Sv) (l : Int) : Bool := l != 0 && decide (l ≤ S.vars) && decide (-(S.vars : Int) ≤ l)
def add (S : Sv) (c : List Int) : Sv :=
  let p := S.enter c S.added.length
  { p.1 with added := p.1.added ++ [p.2] }
def cl (S : Sv) (id : Nat) : Cl := if cmax ≤ id then S.learned.getD (id - cmax) default else S.added.getD id default
def put (S : Sv) (id : Nat) (c : Cl) : Sv := { S with learned := if cmax ≤ id then S.learned.set (id - cmax) c else S.learned, added := if cmax ≤ id then S.added else S.added.set id c }
def diff1 (p : Sv × List Int) (l : Int) : Sv × List Int :=
  if p.1.last.getD (code l) 0 = p.1.stamp then p else ({ p.1 with last := p.1.last.set (code l) p.1.stamp }, p.2 ++ [l])
/-- The literals without repetitions. -/
def different (S : Sv) (lits : List Int) : Sv × List Int := lits.foldl diff1 ({ S with stamp := S.stamp + 1 }, [])
-- the heap
def swap (q : List Nat) (i j : Nat) : List Nat := (q.set i (q.getD j 0)).set j (q.getD i 0)
def up (q : List Nat) (j : Nat) : List Nat :=
  if h : (j - 1) / 2 = j then q
  else if q.getD j 0 < q.getD ((j - 1) / 2) 0 then up (swap q ((j - 1) / 2) j) ((j - 1) / 2) else q
termination_by j
decreasing_by omega
def hpush (q : List Nat) (x : Nat) : List Nat := up (q ++ [x]) q.length
def least (q : List Nat) (i n : Nat) : Nat := if 2 * i + 2 < n ∧ q.getD (2 * i + 2) 0 < q.getD (2 * i + 1) 0 then 2 * i + 2 else 2 * i + 1
def down (q : List Nat) (i n : Nat) : List Nat :=
  if h : n ≤ 2 * i + 1 then q
  else if q.getD (least q i n) 0 < q.getD i 0 then down (swap q i (least q i n)) (least q i n) n else q
termination_by n - i
decreasing_by unfold least; split <;> omega
def hpop (q : List Nat) : List Nat := down (swap q 0 (q.length - 1)) 0 (q.length - 1)
def examine (S : Sv) (id : Nat) : Sv := if (S.cl id).held = 0 ∧ (S.cl id).opn ≤ 1 then { S with queue := hpush S.queue id } else S
def hold (S : Sv) (id : Nat) (d : Int) : Sv := S.put id { S.cl id with held := (S.cl id).held + d }
def openD (S : Sv) (id : Nat) (d : Int) : Sv := S.put id { S.cl id with opn := (S.cl id).opn + d }
/-- A literal becomes true, its clauses not yet seen to. -/
def mark1 (S : Sv) (l reason : Int) : Sv :=
  { S with left := S.left - 1, truth := S.truth.set (code l) true, reasons := S.reasons.set (vr l) reason, levels := S.levels.set (vr l) S.starts.length, trail := S.trail ++ [l] }
def assign (S : Sv) (l reason : Int) : Sv × Bool :=
  if S.left = 0 then (S, false)
  else
    let S1 := S.mark1 l reason
    let S2 := (S1.occ.getD (code l) []).foldl (fun S id => S.hold id 1) S1
    ((S2.occ.getD (code (-l)) []).foldl (fun S id => (S.openD id (-1)).examine id) S2, true)
def drop1 (S : Sv) (l : Int) : Sv :=
  let S1 := { S with trail := S.trail.dropLast, truth := S.truth.set (code l) false, first := min S.first (vr l) }
  let S2 := (S1.occ.getD (code l) []).foldl (fun S id => S.hold id (-1)) S1
  (S2.occ.getD (code (-l)) []).foldl (fun S id => S.openD id 1) S2
def retract (S : Sv) (n : Nat) : Sv := ((S.trail.drop n).reverse).foldl drop1 S
def begin' (S : Sv) : Sv :=
  (List.range S.learned.length).foldl (fun S k => S.examine (cmax + k)) ((List.range S.added.length).foldl (fun S i => S.examine i) S)
def level (S : Sv) (l : Int) : Nat := S.levels.getD (vr l) 0
def markL (m : List Bool) (lits : List Int) (except : Int) : List Bool := lits.foldl (fun m l => if l = except then m else m.set (vr l) true) m
/-- One literal of the trail, seen by explain: marks, decisions and hints (both backwards). -/
def expl1 (S : Sv) (p : List Bool × List Int × List Nat) (l : Int) : List Bool × List Int × List Nat :=
  if p.1.getD (vr l) false then
    if S.reasons.getD (vr l) 0 < 0 then (p.1.set (vr l) false, p.2.1 ++ [l], p.2.2)
    else (markL (p.1.set (vr l) false) (S.cl (S.reasons.getD (vr l) 0).toNat).lits l, p.2.1, p.2.2 ++ [(S.reasons.getD (vr l) 0).toNat])
  else p
def explain (S : Sv) (id : Nat) (except : Int) : List Bool × List Int × List Nat :=
  S.trail.reverse.foldl S.expl1 (markL S.marked (S.cl id).lits except, [], [id])
def same (a b : List Int) : Bool := a.length == b.length && a.isPerm b
/-- Is the clause that of the last step? -/
def again (S : Sv) (neg : List Int) : Bool := match S.steps.getLast? with | some s => same s.1 neg | none => false
def learn (S : Sv) (lits : List Int) (hints : List Nat) : Sv × Bool :=
  let neg := lits.map (- ·)
  if S.again neg then (S, true)
  else if pmax ≤ S.steps.length then (S, false)
  else
    let p := ({ S with steps := S.steps ++ [(neg, hints)] } : Sv).enter neg (cmax + S.steps.length)
    ({ p.1 with learned := p.1.learned ++ [p.2] }, true)
def backLevel (S : Sv) (ds : List Int) : Nat := if 1 < ds.length then S.level (ds.getD (ds.length - 2) 0) else 0
def backjump (S : Sv) (ds : List Int) : Sv × Nat :=
  let back := S.backLevel ds
  let S1 := S.retract (S.starts.getD back 0)
  (({ S1 with starts := S1.starts.take back, queue := [] } : Sv).examine (cmax + S1.learned.length - 1), back)
def refute (S : Sv) (core : List Int) : Sv := { S with core := core, refuted := true }
def keep (S : Sv) : Sv := { S with values := (List.range S.vars).map (fun v => S.truth.getD (2 * (v + 1)) false), satisfied := true }
def decide' (S : Sv) (l : Int) : Sv × Bool := ({ S with starts := S.starts ++ [S.trail.length] } : Sv).assign l (-1)
/-- The steps of propagate: the state, the falsified clause or -1, false if the fuel ended. -/
def prop : Nat → Sv → Option (Sv × Int × Bool)
  | 0, _ => none
  | n + 1, S => match S.queue with
    | [] => some (S, -1, true)
    | _ :: _ =>
      let id := (hpop S.queue).getLastD 0
      let S1 := { S with queue := (hpop S.queue).dropLast }
      if 0 < (S1.cl id).held then prop n S1
      else if (S1.cl id).opn = 0 then some (S1, id, true)
      else match (S1.cl id).lits.find? (fun l => !S1.tr (-l)) with
        | none => none
        | some l => match S1.assign l id with
          | (S2, true) => prop n S2
          | (S2, false) => some (S2, -1, false)
/-- The first assumption from next on that is not true: its place; how many from next on are true. -/
def nextA (S : Sv) (asm : List Int) (next : Nat) : Nat := next + ((asm.drop next).takeWhile fun l => S.tr l && !S.tr (-l)).length
def firstV (S : Sv) : Nat := S.first + ((List.range' S.first (S.vars + 1 - S.first)).takeWhile fun v => S.truth.getD (2 * v) false || S.truth.getD (2 * v + 1) false).length
def contradict (S : Sv) (l : Int) : Sv × Int :=
  if S.reasons.getD (vr l) 0 < 0 then (S.refute [-l, l], 2)
  else
    let p := S.explain (S.reasons.getD (vr l) 0).toNat (-l)
    match ({ S with marked := p.1 } : Sv).learn (p.2.1.reverse ++ [l]) p.2.2.reverse with
    | (S1, false) => (S1, 0)
    | (S1, true) => (S1.refute (p.2.1.reverse ++ [l]), 2)
/-- The steps of search: 0 = Undone, 1 = Yes, 2 = No. -/
def srch (asm : List Int) : Nat → Sv → Nat → Nat → Option (Sv × Int)
  | 0, _, _, _ => none
  | n + 1, S, assumed, next => match S.prop (n + 1) with
    | none => none
    | some (S1, _, false) => some (S1, 0)
    | some (S1, conflict, true) =>
      if 0 ≤ conflict then
        let p := S1.explain conflict.toNat 0
        let ds := p.2.1.reverse
        match ({ S1 with marked := p.1 } : Sv).learn ds p.2.2.reverse with
        | (S2, false) => some (S2, 0)
        | (S2, true) =>
          if ds.length = 0 ∨ S2.level (ds.getD (ds.length - 1) 0) ≤ assumed then some (S2.refute ds, 2)
          else
            let q := S2.backjump ds
            if q.2 < assumed then srch asm n q.1 q.2 0 else srch asm n q.1 assumed next
      else
        let nx := S1.nextA asm next
        if nx < asm.length then
          if S1.tr (-(asm.getD nx 0)) then some (S1.contradict (asm.getD nx 0))
          else match S1.decide' (asm.getD nx 0) with
            | (S2, false) => some (S2, 0)
            | (S2, true) => srch asm n S2 (assumed + 1) nx
        else
          let S2 := { S1 with first := S1.firstV }
          if S2.vars < S2.first then some (S2.keep, 1)
          else match S2.decide' (-(S2.first : Int)) with
            | (S3, false) => some (S3, 0)
            | (S3, true) => srch asm n S3 assumed nx
end Sv
end Go.Proofs.Ytnanofipjiclfaa
end PartP1

section PartT1
/- The solver's object in a store of one's own: what lies where. -/
set_option linter.unusedSimpArgs false
set_option linter.unusedVariables false
namespace Go.Proofs.Ytnanofipjiclfaa
open Go Go.Ab

theorem wrap64_id (x : Int) (h0 : -9223372036854775808 ≤ x) (h1 : x ≤ 9223372036854775807) : IntKind.i64.wrap x = x := by
  rw [IntKind.wrap_i64]; omega
theorem wrapS (j : Nat) (h : j < 9223372036854775807) : IntKind.i64.wrap ((j : Int) + 1) = ((j + 1 : Nat) : Int) := by
  rw [wrap64_id _ (by omega) (by omega)]; rfl
abbrev iD (n : Int) : D := .int .i64 n
abbrev di (n : Int) : A := .d (.int .i64 n)
abbrev dn (n : Nat) : A := .d (.int .i64 n)
abbrev db (b : Bool) : A := .d (.bool b)
def isD (l : List Int) : D := .sl 1 (l.map iD)
def nsD (l : List Nat) : D := .sl 1 (l.map fun n : Nat => iD n)
def bsD (l : List Bool) : D := .sl 1 (l.map .bool)
theorem getD_mapD {α : Type} {f : α → D} {l : List α} {j : Nat} {d : α} (h : j < l.length) : List.getD (l.map f) j default = f (l.getD j d) := by
  rw [List.getD_eq_getElem?_getD, List.getElem?_map, List.getD_eq_getElem?_getD, List.getElem?_eq_getElem h]; rfl
theorem getD_mapA {α : Type} {f : α → A} {l : List α} {j : Nat} {d : α} (h : j < l.length) : List.getD (l.map f) j .any = f (l.getD j d) := by
  rw [List.getD_eq_getElem?_getD, List.getElem?_map, List.getD_eq_getElem?_getD, List.getElem?_eq_getElem h]; rfl
theorem getD_mem {α : Type} {l : List α} {j : Nat} (d : α) (h : j < l.length) : l.getD j d ∈ l := by
  rw [List.getD_eq_getElem?_getD, List.getElem?_eq_getElem h]; exact List.getElem_mem h
theorem lt_of_some {α : Type} {l : List α} {i : Nat} {x : α} (h : l[i]? = some x) : i < l.length := (List.getElem?_eq_some_iff.1 h).1
theorem set_same {σ : St} {i : Nat} {x y : Option Ob} (h : σ[i]? = some x) : (σ.set i y)[i]? = some y := by
  rw [List.getElem?_set, if_pos rfl, if_pos (lt_of_some h)]
theorem set_other {σ : St} {i j : Nat} {y : Option Ob} (h : i ≠ j) : (σ.set i y)[j]? = σ[j]? := by
  rw [List.getElem?_set, if_neg h]
/-- Cells. -/
def natsA (l : List Nat) : List A := l.map fun n : Nat => A.d (iD n)
def intsA (l : List Int) : List A := l.map fun n => A.d (iD n)
def boolsA (l : List Bool) : List A := l.map fun b => A.d (.bool b)
def clA (c : Cl) : List A := [.d (isD c.lits), .d (iD c.opn), .d (iD c.held)]
def clsA (l : List Cl) : List A := l.flatMap clA
def stepA' (s : List Int × List Nat) : List A := [.d (isD s.1), .d (nsD s.2)]
def stepsA (l : List (List Int × List Nat)) : List A := l.flatMap stepA'
/-- The solver's objects: the struct, and what its slices lie in. -/
inductive Sl where
  | st | occ | last | truth | trail | reasons | levels | starts | marked | queue | added | learned | steps
  | inn (c : Nat)
deriving DecidableEq
def has (S : Sv) : Sl → Prop
  | .inn c => c < S.occ.length
  | _ => True
def valA (S : Sv) : A := if S.satisfied then .d (bsD S.values) else .d .nils
def coreA (S : Sv) : A := if S.refuted then .d (isD S.core) else .d .nils
def innA (I : Sl → Nat) (S : Sv) (c : Nat) : A := .rs (I (.inn c)) 1 0 (S.occ.getD c []).length (some 3)
def ct (I : Sl → Nat) (S : Sv) : Sl → List A
  | .st => [.rs (I .steps) 2 0 S.steps.length (some 41), dn S.used, dn S.vars, .rs (I .added) 3 0 S.added.length (some 79), .rs (I .learned) 3 0 S.learned.length (some 79), .rs (I .occ) 1 0 S.occ.length (some 28),
      .rs (I .last) 1 0 S.last.length (some 3), dn S.stamp, .rs (I .truth) 1 0 S.truth.length (some 4), .rs (I .trail) 1 0 S.trail.length (some 3), .rs (I .reasons) 1 0 S.reasons.length (some 3),
      .rs (I .levels) 1 0 S.levels.length (some 3), .rs (I .starts) 1 0 S.starts.length (some 3), .rs (I .marked) 1 0 S.marked.length (some 4), .rs (I .queue) 1 0 S.queue.length (some 3), dn S.left, dn S.first,
      valA S, coreA S, db S.refuted, db S.satisfied]
  | .occ => (List.range S.occ.length).map (innA I S)
  | .last => natsA S.last
  | .truth => boolsA S.truth
  | .trail => intsA S.trail
  | .reasons => intsA S.reasons
  | .levels => natsA S.levels
  | .starts => natsA S.starts
  | .marked => boolsA S.marked
  | .queue => natsA S.queue
  | .added => clsA S.added
  | .learned => clsA S.learned
  | .steps => stepsA S.steps
  | .inn c => natsA (S.occ.getD c [])
structure Sol (I : Sl → Nat) (S : Sv) (σ : St) : Prop where
  get : ∀ s, has S s → σ[I s]? = some (some (.cells (ct I S s)))
  inj : ∀ s t, has S s → has S t → I s = I t → s = t
/-- A step of the solver's: X says which of its objects may lie anew. -/
structure Stp (X : Sl → Prop) (I : Sl → Nat) (S : Sv) (σ : St) (I' : Sl → Nat) (σ' : St) : Prop where
  len : σ.length ≤ σ'.length
  st : I' .st = I .st
  ids : ∀ s, I' s = I s ∨ σ.length ≤ I' s ∧ X s
  keep : ∀ id, id < σ.length → (∀ s, has S s → id ≠ I s) → σ'[id]? = σ[id]?
theorem Stp.refl (X : Sl → Prop) (I : Sl → Nat) (S : Sv) (σ : St) : Stp X I S σ I σ := ⟨Nat.le_refl _, rfl, fun _ => .inl rfl, fun _ _ _ => rfl⟩
theorem Stp.trans {X : Sl → Prop} {I I' I'' : Sl → Nat} {S S' : Sv} {σ σ' σ'' : St} (hS : ∀ s, has S s ↔ has S' s) (h : Stp X I S σ I' σ') (k : Stp X I' S' σ' I'' σ'') : Stp X I S σ I'' σ'' := by
  refine ⟨Nat.le_trans h.len k.len, k.st.trans h.st, fun s => ?_, fun id hid hn => ?_⟩
  · rcases k.ids s with e | e
    · rw [e]; exact h.ids s
    · exact .inr ⟨Nat.le_trans h.len e.1, e.2⟩
  · rw [k.keep id (Nat.lt_of_lt_of_le hid h.len) fun s hs e => ?_, h.keep id hid hn]
    rcases h.ids s with e' | e'
    · exact hn s ((hS s).2 hs) (by rw [e, e'])
    · omega
theorem Stp.mono {X Y : Sl → Prop} {I I' : Sl → Nat} {S : Sv} {σ σ' : St} (hx : ∀ s, X s → Y s) (h : Stp X I S σ I' σ') : Stp Y I S σ I' σ' :=
  ⟨h.len, h.st, fun s => (h.ids s).imp id fun e => ⟨e.1, hx s e.2⟩, h.keep⟩
section
variable {I I' : Sl → Nat} {S S' : Sv} {σ : St}
theorem Sol.lt (h : Sol I S σ) (s : Sl) (hs : has S s := by trivial) : I s < σ.length := lt_of_some (h.get s hs)
theorem Sol.ob (h : Sol I S σ) (s : Sl) (hs : has S s := by trivial) {k : List A → Prop} : objK σ (I s) k = k (ct I S s) := objK_of (h.get s hs)
theorem Sol.live (h : Sol I S σ) (s : Sl) (hs : has S s := by trivial) : liveId σ (I s) = true := live_of (h.get s hs)
theorem Sol.ne (h : Sol I S σ) {s t : Sl} (hst : s ≠ t) (hs : has S s := by trivial) (ht : has S t := by trivial) : I s ≠ I t := fun e => hst (h.inj s t hs ht e)
/-- New objects behind what is there. -/
theorem Sol.app (h : Sol I S σ) (l : St) : Sol I S (σ ++ l) := ⟨fun s hs => by rw [List.getElem?_append_left (h.lt s hs)]; exact h.get s hs, h.inj⟩
/-- An object that is not the solver's turns. -/
theorem Sol.set (h : Sol I S σ) {i : Nat} (hi : ∀ s, has S s → I s ≠ i) (x : Option Ob) : Sol I S (σ.set i x) := ⟨fun s hs => by rw [set_other (fun e => hi s hs e.symm)]; exact h.get s hs, h.inj⟩
/-- One of the solver's objects turns in place. -/
theorem Sol.put (h : Sol I S σ) (s : Sl) (hs : has S s) (hh : ∀ t, has S' t ↔ has S t) {cs : List A} (hc : cs = ct I S' s) (ho : ∀ t, t ≠ s → ct I S' t = ct I S t) : Sol I S' (σ.set (I s) (some (.cells cs))) := by
  refine ⟨fun t ht => ?_, fun a b ha hb => h.inj a b ((hh a).1 ha) ((hh b).1 hb)⟩
  by_cases e : t = s
  · subst e; rw [set_same (h.get t hs), hc]
  · rw [set_other (fun e' => e (h.inj s t hs ((hh t).1 ht) e').symm), ho t e]; exact h.get t ((hh t).1 ht)
def upI (I : Sl → Nat) (s : Sl) (n : Nat) : Sl → Nat := fun t => if t = s then n else I t
theorem upI_same (I : Sl → Nat) (s : Sl) (n : Nat) : upI I s n s = n := by simp [upI]
theorem upI_other (I : Sl → Nat) {s t : Sl} (n : Nat) (h : t ≠ s) : upI I s n t = I t := by simp [upI, h]
/-- A slice that a field holds lies anew, behind what is there. -/
theorem Sol.grow (h : Sol I S σ) (s : Sl) (hs : has S s) (hst : s ≠ .st) (n : Nat) (hn : n = σ.length) (hh : ∀ t, has S' t ↔ has S t) {new cells : List A} (hnew : new = ct (upI I s n) S' s) (hc : cells = ct (upI I s n) S' .st) (ho : ∀ t, t ≠ s → t ≠ .st → ct (upI I s n) S' t = ct I S t) :
    Sol (upI I s n) S' (((σ.set (I s) none) ++ [some (Ob.cells new)]).set (I .st) (some (Ob.cells cells))) := by
  have hl := fun t (ht : has S t) => h.lt t ht
  have hst0 : I .st < σ.length := h.lt .st
  refine ⟨fun t ht => ?_, fun a b ha hb => ?_⟩
  · by_cases e : t = s
    · subst e
      rw [upI_same, set_other (by omega), List.getElem?_append_right (by rw [List.length_set]; omega), List.length_set, hn, Nat.sub_self, hnew, hn]; rfl
    · rw [upI_other _ _ e]
      by_cases e' : t = .st
      · subst e'
        rw [List.getElem?_set, if_pos rfl, if_pos (by simp; omega), hc]
      · have htt := (hh t).1 ht
        rw [set_other (h.ne (s := .st) (t := t) (Ne.symm e') trivial htt), List.getElem?_append_left (by rw [List.length_set]; exact hl t htt), set_other (h.ne (Ne.symm e) hs htt), ho t e e']
        exact h.get t htt
  · have ha' := (hh a).1 ha
    have hb' := (hh b).1 hb
    have la := hl a ha'
    have lb := hl b hb'
    unfold upI
    split <;> split <;> rename_i e1 e2
    · exact fun _ => e1.trans e2.symm
    · intro e; omega
    · intro e; omega
    · exact h.inj a b ha' hb'
theorem stp_grow (h : Sol I S σ) (X : Sl → Prop) (s : Sl) (hs : has S s) (hst : s ≠ .st) (hX : X s) (n : Nat) (hn : n = σ.length) {new cells : List A} :
    Stp X I S σ (upI I s n) (((σ.set (I s) none) ++ [some (Ob.cells new)]).set (I .st) (some (Ob.cells cells))) := by
  refine ⟨by simp, upI_other _ _ (Ne.symm hst), fun t => ?_, fun id hid hne => ?_⟩
  · by_cases e : t = s
    · subst e; rw [upI_same]; exact .inr ⟨by omega, hX⟩
    · rw [upI_other _ _ e]; exact .inl rfl
  · rw [set_other (Ne.symm (hne .st trivial)), List.getElem?_append_left (by rw [List.length_set]; exact hid), set_other (Ne.symm (hne s hs))]
theorem stp_put (X : Sl → Prop) (s : Sl) (hs : has S s) {x : Option Ob} : Stp X I S σ I (σ.set (I s) x) :=
  ⟨by simp, rfl, fun _ => .inl rfl, fun id _ hne => set_other (Ne.symm (hne s hs))⟩
end
-- cells
theorem natsA_len (l : List Nat) : (natsA l).length = l.length := by simp [natsA]
theorem intsA_len (l : List Int) : (intsA l).length = l.length := by simp [intsA]
theorem boolsA_len (l : List Bool) : (boolsA l).length = l.length := by simp [boolsA]
theorem clsA_len (l : List Cl) : (clsA l).length = l.length * 3 := by
  induction l with
  | nil => rfl
  | cons c l ih => simp only [clsA, List.flatMap_cons, List.length_append, List.length_cons] at ih ⊢; rw [ih]; simp [clA]; omega
theorem stepsA_len (l : List (List Int × List Nat)) : (stepsA l).length = l.length * 2 := by
  induction l with
  | nil => rfl
  | cons c l ih => simp only [stepsA, List.flatMap_cons, List.length_append, List.length_cons] at ih ⊢; rw [ih]; simp [stepA']; omega
theorem natsA_get {l : List Nat} {j : Nat} (h : j < l.length) : List.getD (natsA l) j .any = dn (l.getD j 0) := getD_mapA h
theorem intsA_get {l : List Int} {j : Nat} (h : j < l.length) : List.getD (intsA l) j .any = di (l.getD j 0) := getD_mapA h
theorem boolsA_get {l : List Bool} {j : Nat} (h : j < l.length) : List.getD (boolsA l) j .any = db (l.getD j false) := getD_mapA h
theorem splice_map {α : Type} (f : α → A) {l : List α} {j : Nat} (x : α) (h : j < l.length) : (l.map f).take j ++ f x :: (l.map f).drop (j + 1) = (l.set j x).map f := by
  rw [← List.map_take, ← List.map_drop, List.set_eq_take_append_cons_drop, if_pos h]
  simp
theorem natsA_set {l : List Nat} {j : Nat} (x : Nat) (h : j < l.length) : (natsA l).take j ++ A.d (.int .i64 (x : Int)) :: (natsA l).drop (j + 1) = natsA (l.set j x) := splice_map (fun n : Nat => A.d (iD n)) x h
theorem intsA_set {l : List Int} {j : Nat} (x : Int) (h : j < l.length) : (intsA l).take j ++ A.d (.int .i64 x) :: (intsA l).drop (j + 1) = intsA (l.set j x) := splice_map (fun n => A.d (iD n)) x h
theorem boolsA_set {l : List Bool} {j : Nat} (x : Bool) (h : j < l.length) : (boolsA l).take j ++ A.d (.bool x) :: (boolsA l).drop (j + 1) = boolsA (l.set j x) := splice_map (fun n => A.d (.bool n)) x h
theorem natsA_snoc (l : List Nat) (x : Nat) : natsA (l ++ [x]) = natsA l ++ [A.d (.int .i64 (x : Int))] := by simp [natsA]
theorem intsA_snoc (l : List Int) (x : Int) : intsA (l ++ [x]) = intsA l ++ [A.d (.int .i64 x)] := by simp [intsA]
/-- One cell of a clause. -/
theorem clsA_split {l : List Cl} {j : Nat} (h : j < l.length) : clsA l = clsA (l.take j) ++ (clA (l.getD j default) ++ clsA (l.drop (j + 1))) := by
  have : l = l.take j ++ (l.getD j default :: l.drop (j + 1)) := by
    rw [List.getD_eq_getElem?_getD, List.getElem?_eq_getElem h, Option.getD_some, ← List.drop_eq_getElem_cons h, List.take_append_drop]
  conv => lhs; rw [this]
  simp [clsA]
theorem clsA_get {l : List Cl} {j k : Nat} (h : j < l.length) (hk : k < 3) : List.getD (clsA l) (j * 3 + k) .any = List.getD (clA (l.getD j default)) k .any := by
  have hl : (clsA (l.take j)).length = j * 3 := by rw [clsA_len, List.length_take, Nat.min_eq_left (Nat.le_of_lt h)]
  rw [clsA_split h, List.getD_eq_getElem?_getD, List.getElem?_append_right (by omega), hl, Nat.add_sub_cancel_left, List.getElem?_append_left (by simpa [clA] using hk), ← List.getD_eq_getElem?_getD]
theorem clsA_lits {l : List Cl} {j : Nat} (h : j < l.length) : List.getD (clsA l) (j * 3) .any = .d (isD (l.getD j default).lits) := clsA_get (k := 0) h (by omega)
theorem clsA_opn {l : List Cl} {j : Nat} (h : j < l.length) : List.getD (clsA l) (j * 3 + 1) .any = di (l.getD j default).opn := clsA_get h (by omega)
theorem clsA_held {l : List Cl} {j : Nat} (h : j < l.length) : List.getD (clsA l) (j * 3 + 2) .any = di (l.getD j default).held := clsA_get h (by omega)
theorem clsA_put {l : List Cl} {j : Nat} (h : j < l.length) (c : Cl) : clsA (l.set j c) = clsA (l.take j) ++ (clA c ++ clsA (l.drop (j + 1))) := by
  rw [List.set_eq_take_append_cons_drop, if_pos h]
  simp [clsA]
theorem clsA_setO {l : List Cl} {j : Nat} (x : Int) (h : j < l.length) : (clsA l).take (j * 3 + 1) ++ A.d (.int .i64 x) :: (clsA l).drop (j * 3 + 1 + 1) = clsA (l.set j { l.getD j default with opn := x }) := by
  have hl : (clsA (l.take j)).length = j * 3 := by rw [clsA_len, List.length_take, Nat.min_eq_left (Nat.le_of_lt h)]
  have t1 : (clsA (l.take j)).take (j * 3 + 1) = clsA (l.take j) := List.take_of_length_le (by omega)
  have t2 : (clsA (l.take j)).drop (j * 3 + 1 + 1) = [] := List.drop_of_length_le (by omega)
  rw [clsA_put h, clsA_split h, List.take_append, List.drop_append, t1, t2, hl, show j * 3 + 1 - j * 3 = 1 by omega, show j * 3 + 1 + 1 - j * 3 = 2 by omega]
  simp [clA]
theorem clsA_setH {l : List Cl} {j : Nat} (x : Int) (h : j < l.length) : (clsA l).take (j * 3 + 2) ++ A.d (.int .i64 x) :: (clsA l).drop (j * 3 + 2 + 1) = clsA (l.set j { l.getD j default with held := x }) := by
  have hl : (clsA (l.take j)).length = j * 3 := by rw [clsA_len, List.length_take, Nat.min_eq_left (Nat.le_of_lt h)]
  have t1 : (clsA (l.take j)).take (j * 3 + 2) = clsA (l.take j) := List.take_of_length_le (by omega)
  have t2 : (clsA (l.take j)).drop (j * 3 + 2 + 1) = [] := List.drop_of_length_le (by omega)
  rw [clsA_put h, clsA_split h, List.take_append, List.drop_append, t1, t2, hl, show j * 3 + 2 - j * 3 = 2 by omega, show j * 3 + 2 + 1 - j * 3 = 3 by omega]
  simp [clA]
-- where a clause lies
def clS (id : Nat) : Sl := if cmax ≤ id then .learned else .added
def clI (id : Nat) : Nat := if cmax ≤ id then id - cmax else id
def clL (S : Sv) (id : Nat) : List Cl := if cmax ≤ id then S.learned else S.added
/-- Is there a clause with this number? -/
def okId (S : Sv) (id : Nat) : Prop := clI id < (clL S id).length
theorem ct_cl (I : Sl → Nat) (S : Sv) (id : Nat) : ct I S (clS id) = clsA (clL S id) := by
  unfold clS clL; split <;> rfl
theorem has_cl (S : Sv) (id : Nat) : has S (clS id) := by unfold clS; split <;> trivial
theorem cl_eq (S : Sv) (id : Nat) : S.cl id = (clL S id).getD (clI id) default := by unfold Sv.cl clL clI; split <;> rfl
end Go.Proofs.Ytnanofipjiclfaa
end PartT1

section PartT2
/- Literals, clauses by their numbers. -/
set_option linter.unusedSimpArgs false
set_option linter.unusedVariables false
set_option maxRecDepth 100000
namespace Go.Proofs.Ytnanofipjiclfaa
open Go Go.Ab

/-- A literal of n variables. -/
def LitV (n : Nat) (l : Int) : Prop := l ≠ 0 ∧ -(n : Int) ≤ l ∧ l ≤ n
theorem LitV.neg {n : Nat} {l : Int} (h : LitV n l) : LitV n (-l) := by unfold LitV at *; omega
theorem LitV.codeLt {n : Nat} {l : Int} (h : LitV n l) : code l < 2 * n + 2 := by unfold LitV at h; unfold code; split <;> omega
theorem LitV.vrLt {n : Nat} {l : Int} (h : LitV n l) : vr l < n + 1 := by unfold LitV at h; unfold vr; omega
structure Sh (S : Sv) : Prop where
  vars : S.vars ≤ 8000
  occ : S.occ.length = 2 * S.vars + 2
  last : S.last.length = 2 * S.vars + 2
  truth : S.truth.length = 2 * S.vars + 2
  reasons : S.reasons.length = S.vars + 1
  levels : S.levels.length = S.vars + 1
  marked : S.marked.length = S.vars + 1
theorem code_ac (l : Int) (hl : LitV 100000 l) (σ : St) (G : Glob) (R : A → St → Prop) (h : R (dn (code l)) σ) : AC Try.prog G 42 [di l] σ R := by
  refine ac_enter mixed Try.func42 rfl Try.ntmps42 (by simp only [go_sem]) fun hbd => ?_
  simp only [List.length_cons, List.length_nil, Nat.reduceAdd, Nat.reduceSub, List.replicate_succ, List.replicate_zero, List.cons_append, List.nil_append]
  unfold LitV at hl
  by_cases hn : l < 0
  · have d : decide (l < 0) = true := decide_eq_true hn
    have w1 : IntKind.i64.wrap (2 * l) = 2 * l := wrap64_id _ (by omega) (by omega)
    have w2 : IntKind.i64.wrap (1 - 2 * l) = ((code l : Nat) : Int) := by
      rw [wrap64_id _ (by omega) (by omega)]; unfold code; rw [if_pos hn]; omega
    simp only [go_sem, d, w1, w2, Try.results42]
    exact ret_d0 h
  · have d : decide (l < 0) = false := decide_eq_false hn
    have w1 : IntKind.i64.wrap (2 * l) = ((code l : Nat) : Int) := by
      rw [wrap64_id _ (by omega) (by omega)]; unfold code; rw [if_neg hn]; omega
    simp only [go_sem, d, w1, Try.results42]
    exact ret_d0 h
theorem vr_ac (l : Int) (hl : LitV 100000 l) (σ : St) (G : Glob) (R : A → St → Prop) (h : R (dn (vr l)) σ) : AC Try.prog G 43 [di l] σ R := by
  refine ac_enter mixed Try.func43 rfl Try.ntmps43 (by simp only [go_sem]) fun hbd => ?_
  simp only [List.length_cons, List.length_nil, Nat.reduceAdd, Nat.reduceSub, List.replicate_succ, List.replicate_zero, List.cons_append, List.nil_append]
  unfold LitV at hl
  have w1 : IntKind.i64.wrap (0 - l) = -l := by rw [wrap64_id _ (by omega) (by omega)]; omega
  have w2 : max l (-l) = ((vr l : Nat) : Int) := by unfold vr; omega
  simp only [go_sem, w1, w2, Try.results43]
  exact ret_d0 h
theorem LitV.big {n : Nat} {l : Int} (h : LitV n l) (hn : n ≤ 8000) : LitV 100000 l := by unfold LitV at *; omega
variable {I : Sl → Nat} {S : Sv} {σ : St}
theorem at_ac (hS : Sol I S σ) (id : Nat) (hid : id < 1000000) (ho : okId S id) (G : Glob) (R : A → St → Prop) (h : R (.ref (I (clS id)) (clI id * 3)) σ) : AC Try.prog G 44 [.ref (I .st) 0, dn id] σ R := by
  refine ac_enter mixed Try.func44 rfl Try.ntmps44 (by simp only [go_sem]) fun hbd => ?_
  simp only [List.length_cons, List.length_nil, Nat.reduceAdd, Nat.reduceSub, List.replicate_succ, List.replicate_zero, List.cons_append, List.nil_append]
  unfold okId clL clI at ho
  unfold clS clI at h
  by_cases hc : cmax ≤ id
  · rw [if_pos hc] at ho h
    rw [if_pos hc] at ho h
    have hc' : 40000 ≤ id := hc
    have d : decide ((40000 : Int) ≤ (id : Int)) = true := by simp; omega
    have w1 : IntKind.i64.wrap ((id : Int) - 40000) = ((id - cmax : Nat) : Int) := by rw [wrap64_id _ (by omega) (by omega)]; simp only [cmax]; omega
    simp only [go_sem, d, w1, hS.live .st, hS.ob .st, hS.live .learned, ct, Try.results44]
    exact ⟨by omega, ret_bd0 h⟩
  · rw [if_neg hc] at ho h
    rw [if_neg hc] at ho h
    have hc' : ¬ 40000 ≤ id := hc
    have d : decide ((40000 : Int) ≤ (id : Int)) = false := by simp; omega
    simp only [go_sem, d, hS.live .st, hS.ob .st, hS.live .added, ct, Try.results44]
    exact ⟨by omega, ret_bd0 h⟩
theorem level_ac (hS : Sol I S σ) (hs : Sh S) (l : Int) (hl : LitV S.vars l) (G : Glob) (R : A → St → Prop) (h : R (dn (S.level l)) σ) : AC Try.prog G 49 [.ref (I .st) 0, di l] σ R := by
  have hv := hs.vars
  have h1 : vr l < S.levels.length := by rw [hs.levels]; exact hl.vrLt
  refine ac_enter' mixed Try.func49 rfl Try.ntmps49 (by simp only [go_sem]) fun hbd => ?_
  simp only [List.length_cons, List.length_nil, Nat.reduceAdd, Nat.reduceSub, List.replicate_succ, List.replicate_zero, List.cons_append, List.nil_append]
  simp only [go_sem, Try.results49]
  refine aw_plan (.take 0 <| .take 4 <| .pure 5 <| .tk 3 1 <| .tk 3 6 <| .done) (by kernel_rfl) ?_
  simp only [go_sem, Try.results49]
  refine exP (dn (vr l)) ⟨fun σ' => ?_, ?_⟩
  · simp only [go_sem, Try.results49]
    exact ac' (vr_ac l (hl.big hv) _ _ _ ⟨rfl, rfl⟩)
  simp only [go_sem, hS.live .st, hS.ob .st, hS.live .levels, hS.ob .levels, ct, natsA_len, natsA_get h1, Nat.mul_one, Try.results49]
  exact ⟨⟨by omega, by omega⟩, h1, ret_bd0 h⟩
theorem valid_ac (hS : Sol I S σ) (hv : S.vars ≤ 8000) (l : Int) (G : Glob) (R : A → St → Prop) (h : R (db (S.valid l)) σ) : AC Try.prog G 35 [.ref (I .st) 0, di l] σ R := by
  refine ac_enter mixed Try.func35 rfl Try.ntmps35 (by simp only [go_sem]) fun hbd => ?_
  simp only [List.length_cons, List.length_nil, Nat.reduceAdd, Nat.reduceSub, List.replicate_succ, List.replicate_zero, List.cons_append, List.nil_append]
  have w1 : IntKind.i64.wrap (0 - (S.vars : Int)) = -(S.vars : Int) := by rw [wrap64_id _ (by omega) (by omega)]; omega
  simp only [go_sem, hS.live .st, hS.ob .st, ct, w1, Try.results35]
  exact ret_d0 h
end Go.Proofs.Ytnanofipjiclfaa
end PartT2

section PartT3
/- The heap of clauses' numbers. -/
set_option linter.unusedSimpArgs false
set_option linter.unusedVariables false
set_option maxRecDepth 100000
namespace Go.Proofs.Ytnanofipjiclfaa
open Go Go.Ab
variable {I : Sl → Nat} {S : Sv} {σ : St}

theorem set_idem {σ : St} {i : Nat} {x : Option Ob} (h : σ[i]? = some x) : σ.set i x = σ := by
  apply List.ext_getElem?
  intro k
  rw [List.getElem?_set]
  split
  · rename_i e; subst e
    rw [if_pos (lt_of_some h), h]
  · rfl
/-- The queue turns in place. -/
theorem Sol.queue (h : Sol I S σ) {q : List Nat} (hl : q.length = S.queue.length) : Sol I { S with queue := q } (σ.set (I .queue) (some (.cells (natsA q)))) :=
  h.put .queue trivial (fun t => by cases t <;> rfl) rfl fun t ht => by
    cases t <;> first | rfl | exact absurd rfl ht | simp only [ct, hl, valA, coreA]
theorem len_ac (iq n : Nat) (ow : Option TypeId) (hl : liveId σ iq = true) (G : Glob) (R : A → St → Prop) (h : R (dn n) σ) : AC Try.prog G 106 [.rs iq 1 0 n ow] σ R := by
  refine ac_enter mixed Try.func106 rfl Try.ntmps106 (by simp only [go_sem]) fun hbd => ?_
  simp only [List.length_cons, List.length_nil, Nat.reduceAdd, Nat.reduceSub, List.replicate_succ, List.replicate_zero, List.cons_append, List.nil_append]
  simp only [go_sem, hl, Try.results106]
  exact ret_d0 h
theorem less_ac (iq : Nat) (q : List Nat) (ow : Option TypeId) (hq : σ[iq]? = some (some (.cells (natsA q)))) (i j : Nat) (hi : i < q.length) (hj : j < q.length) (G : Glob) (R : A → St → Prop) (h : R (db (decide (q.getD i 0 < q.getD j 0))) σ) :
    AC Try.prog G 107 [.rs iq 1 0 q.length ow, dn i, dn j] σ R := by
  refine ac_enter mixed Try.func107 rfl Try.ntmps107 (by simp only [go_sem]) fun hbd => ?_
  simp only [List.length_cons, List.length_nil, Nat.reduceAdd, Nat.reduceSub, List.replicate_succ, List.replicate_zero, List.cons_append, List.nil_append]
  have e : decide ((q.getD i 0 : Int) < (q.getD j 0 : Int)) = decide (q.getD i 0 < q.getD j 0) := by rw [decide_eq_decide]; omega
  simp only [go_sem, live_of hq, objK_of hq, natsA_len, natsA_get hi, natsA_get hj, Nat.mul_one, e, Try.results107]
  exact ⟨⟨by omega, by omega⟩, hi, ⟨by omega, by omega⟩, hj, ret_d0 h⟩
theorem swap_ac (iq : Nat) (q : List Nat) (ow : Option TypeId) (hq : σ[iq]? = some (some (.cells (natsA q)))) (i j : Nat) (hi : i < q.length) (hj : j < q.length) (G : Glob) (R : A → St → Prop) (h : ∀ r, R r (σ.set iq (some (.cells (natsA (Sv.swap q i j)))))) :
    AC Try.prog G 108 [.rs iq 1 0 q.length ow, dn i, dn j] σ R := by
  refine ac_enter mixed Try.func108 rfl Try.ntmps108 (by simp only [go_sem]) fun hbd => ?_
  simp only [List.length_cons, List.length_nil, Nat.reduceAdd, Nat.reduceSub, List.replicate_succ, List.replicate_zero, List.cons_append, List.nil_append]
  have h1 : (σ.set iq (some (.cells (natsA (q.set i (q.getD j 0))))))[iq]? = some (some (.cells (natsA (q.set i (q.getD j 0))))) := set_same hq
  have hj' : j < (q.set i (q.getD j 0)).length := by simpa using hj
  simp only [go_sem, live_of hq, objK_of hq, natsA_len, natsA_get hi, natsA_get hj, natsA_set _ hi, natsA_set _ hj', live_of h1, objK_of h1, List.set_set, Nat.mul_one, Try.results108]
  exact ⟨⟨by omega, by omega⟩, hj, ⟨by omega, by omega⟩, hi, ⟨by omega, by omega⟩, hi, ⟨by omega, by omega⟩, hj', _, _, Weak.refl _ _ _ _, h _⟩
abbrev hqA (I : Sl → Nat) : A := .ifc 93 (.ref (I .st) 14)
theorem swap_len (q : List Nat) (i j : Nat) : (Sv.swap q i j).length = q.length := by simp [Sv.swap]
theorem up_ac (hS : Sol I S σ) (j : Nat) (hj : j < S.queue.length) (hb : S.queue.length ≤ 1000000000000) (G : Glob) (R : A → St → Prop) (h : ∀ r, R r (σ.set (I .queue) (some (.cells (natsA (Sv.up S.queue j)))))) : AC Try.prog G 68 [hqA I, dn j] σ R := by
  have h0 := hS.get .queue trivial
  refine ac_enter mixed Try.func68 rfl Try.ntmps68 (by simp only [go_sem]) fun hbd => ?_
  simp only [List.length_cons, List.length_nil, Nat.reduceAdd, Nat.reduceSub, List.replicate_succ, List.replicate_zero, List.cons_append, List.nil_append]
  simp only [go_sem, Try.results68]
  refine aw_loop (fun m fr st => ∃ (q : List Nat) (i : Nat), m = i ∧ i < q.length ∧ q.length = S.queue.length ∧ Sv.up q i = Sv.up S.queue j ∧ st = σ.set (I .queue) (some (.cells (natsA q))) ∧ fr = [hqA I, dn i, .any, .any, .any, .any, .any, .any, .any, .any, .any, .any, .any, .any, .any, .any, .any, .any, .any, .any, .any, .any, .any]) j _
    (Wk.mask [0, 1] ⟨S.queue, j, rfl, hj, rfl, rfl, (set_idem h0).symm, rfl⟩) ?_
  rintro m fr st ⟨q, i, rfl, hi, hl, hu, rfl, rfl⟩
  have hS' : Sol I { S with queue := q } (σ.set (I .queue) (some (.cells (natsA q)))) := hS.queue hl
  have hq := hS'.get .queue trivial
  generalize hσ' : σ.set (I .queue) (some (.cells (natsA q))) = σ' at hS' hq
  have w1 : IntKind.i64.wrap ((m : Int) - 1) = (m : Int) - 1 := wrap64_id _ (by omega) (by omega)
  have w2 : IntKind.i64.wrap (((m : Int) - 1).tdiv 2) = (((m - 1) / 2 : Nat) : Int) := by
    rcases Nat.eq_zero_or_pos m with e | e
    · subst e; decide
    · have e1 : ((m : Int) - 1) = ((m - 1 : Nat) : Int) := by omega
      have e2 : ((m - 1 : Nat) : Int).tdiv 2 = (((m - 1) / 2 : Nat) : Int) := rfl
      rw [e1, e2, wrap64_id _ (by omega) (by omega)]
  have hup : Sv.up q m = if (m - 1) / 2 = m then q else if q.getD m 0 < q.getD ((m - 1) / 2) 0 then Sv.up (Sv.swap q ((m - 1) / 2) m) ((m - 1) / 2) else q := by
    rw [Sv.up]; split <;> rfl
  have hp : (m - 1) / 2 < q.length := by omega
  generalize hk : (m - 1) / 2 = k at w2 hup hp
  have e1 : ((k : Int) == (m : Int)) = decide (k = m) := by
    rw [Bool.eq_iff_iff]; simp only [beq_iff_eq, decide_eq_true_eq]; omega
  simp only [go_sem, w1, w2, e1, Try.results68]
  refine ⟨by omega, ?_⟩
  refine ex' (.bool (decide (q.getD m 0 < q.getD k 0))) ⟨fun c => ?_, ?_⟩
  · simp only [go_sem, hS'.live .st, hS'.ob .st, ct, Try.results68]
    exact ⟨by simpa using c, ac' (less_ac _ q _ hq m k hi hp _ _ ⟨rfl, rfl⟩)⟩
  simp only [go_sem, hS'.live .st, hS'.ob .st, ct, Try.results68]
  refine ⟨fun c => ⟨_, _, Weak.refl _ _ _ _, ?_⟩, fun c => ac' (swap_ac _ q _ hq k m hp hi _ _ fun r => ?_)⟩
  · have e : Sv.up q m = q := by
      rw [hup]
      simp only [Bool.or_eq_true, decide_eq_true_eq, Bool.not_eq_true', decide_eq_false_iff_not] at c
      split
      · rfl
      · rw [if_neg (by rcases c with c | c; exact absurd c ‹_›; exact c)]
    rw [← hσ', ← e, hu]
    exact h _
  · simp only [Bool.or_eq_false_iff, decide_eq_false_iff_not, Bool.not_eq_false', decide_eq_true_eq] at c
    rw [if_neg c.1, if_pos c.2] at hup
    simp only [go_sem, Try.results68]
    rw [← hσ', List.set_set]
    exact Wk.mask [0, 1] ⟨k, by omega, Sv.swap q k m, k, rfl, by rw [swap_len]; omega, by rw [swap_len]; exact hl, by rw [← hup]; exact hu, rfl, rfl⟩
theorem down_ac (hS : Sol I S σ) (i0 n : Nat) (hn : n ≤ S.queue.length) (hb : S.queue.length ≤ 1000000000000) (hi0 : i0 ≤ 1000000000000) (G : Glob) (R : A → St → Prop) (h : ∀ r, R r (σ.set (I .queue) (some (.cells (natsA (Sv.down S.queue i0 n)))))) : AC Try.prog G 64 [hqA I, dn i0, dn n] σ R := by
  have h0 := hS.get .queue trivial
  refine ac_enter mixed Try.func64 rfl Try.ntmps64 (by simp only [go_sem]) fun hbd => ?_
  simp only [List.length_cons, List.length_nil, Nat.reduceAdd, Nat.reduceSub, List.replicate_succ, List.replicate_zero, List.cons_append, List.nil_append]
  simp only [go_sem, Try.results64]
  refine aw_loop (fun m fr st => ∃ (q : List Nat) (i : Nat), m = n - i ∧ i ≤ 1000000000000 ∧ q.length = S.queue.length ∧ Sv.down q i n = Sv.down S.queue i0 n ∧ st = σ.set (I .queue) (some (.cells (natsA q))) ∧ fr = [hqA I, dn i0, dn n, .any, .any, .any, .any, dn i, .any, .any, .any, .any, .any, .any, .any, .any, .any, .any, .any, .any, .any, .any, .any, .any, .any, .any, .any, .any, .any, .any, .any, .any, .any, .any, .any, .any, .any, .any, .any, .any, .any, .any, .any, .any, .any, .any, .any, .any]) (n - i0) _
    (Wk.mask [0, 1, 2, 7] ⟨S.queue, i0, rfl, hi0, rfl, rfl, (set_idem h0).symm, rfl⟩) ?_
  rintro m fr st ⟨q, i, hm, hi, hl, hu, rfl, rfl⟩
  have hS' : Sol I { S with queue := q } (σ.set (I .queue) (some (.cells (natsA q)))) := hS.queue hl
  have hq := hS'.get .queue trivial
  have hq' : (σ.set (I .queue) (some (.cells (natsA q))))[I .queue]? = some (some (.cells (natsA q))) := hq
  generalize hσ' : σ.set (I .queue) (some (.cells (natsA q))) = σ' at hS' hq hq'
  have w1 : IntKind.i64.wrap (2 * (i : Int)) = 2 * (i : Int) := wrap64_id _ (by omega) (by omega)
  have w2 : IntKind.i64.wrap (2 * (i : Int) + 1) = ((2 * i + 1 : Nat) : Int) := by rw [wrap64_id _ (by omega) (by omega)]; omega
  have w3 : IntKind.i64.wrap (((2 * i + 1 : Nat) : Int) + 1) = ((2 * i + 2 : Nat) : Int) := wrapS (2 * i + 1) (by omega)
  have hdn : Sv.down q i n = if n ≤ 2 * i + 1 then q else if q.getD (Sv.least q i n) 0 < q.getD i 0 then Sv.down (Sv.swap q i (Sv.least q i n)) (Sv.least q i n) n else q := by
    rw [Sv.down]; split <;> rfl
  have d0 : decide (((2 * i + 1 : Nat) : Int) < 0) = false := by simp; omega
  have fin : Sv.down q i n = q → ∀ r, R r σ' := fun e r => by rw [← hσ', ← e, hu]; exact h r
  by_cases hc : n ≤ 2 * i + 1
  · have d1 : decide ((n : Int) ≤ ((2 * i + 1 : Nat) : Int)) = true := by simp; omega
    rw [if_pos hc] at hdn
    simp only [go_sem, w1, w2, d0, d1, Try.results64]
    exact ⟨_, _, Weak.refl _ _ _ _, fin hdn _⟩
  have d1 : decide ((n : Int) ≤ ((2 * i + 1 : Nat) : Int)) = false := by simp; omega
  rw [if_neg hc] at hdn
  have hlt : Sv.least q i n < n := by unfold Sv.least; split <;> omega
  have hgt : i < Sv.least q i n := by unfold Sv.least; split <;> omega
  have e2 : decide (((2 * i + 2 : Nat) : Int) < (n : Int)) = decide (2 * i + 2 < n) := by rw [decide_eq_decide]; omega
  simp only [go_sem, w1, w2, w3, d0, d1, e2, Try.results64]
  refine ex' (.bool (decide (q.getD (2 * i + 2) 0 < q.getD (2 * i + 1) 0))) ⟨fun c => ?_, ?_⟩
  · simp only [go_sem, hS'.live .st, hS'.ob .st, ct, Try.results64]
    exact ⟨by simpa using c, ac' (less_ac _ q _ hq' (2 * i + 2) (2 * i + 1) (by simp at c; omega) (by omega) _ _ ⟨rfl, rfl⟩)⟩
  simp only [go_sem, hS'.live .st, hS'.ob .st, ct, Try.results64]
  simp only [Bool.and_eq_true, decide_eq_true_eq]
  refine ⟨fun c => ?_, fun c => ?_⟩
  · rw [show 2 * i + 2 = Sv.least q i n from (if_pos c).symm]
    generalize Sv.least q i n = j at hdn hlt hgt
    refine ac' (less_ac _ q _ hq' j i (by omega) (by omega) _ _ ?_)
    simp only [go_sem, hS'.live .st, hS'.ob .st, ct, Try.results64]
    refine ⟨fun c => ⟨_, _, Weak.refl _ _ _ _, fin ?_ _⟩, fun c => ac' (swap_ac _ q _ hq' i j (by omega) (by omega) _ _ fun r => ?_)⟩
    · rw [hdn, if_neg (by simpa using c)]
    · rw [if_pos (by simpa using c)] at hdn
      simp only [go_sem, Try.results64]
      rw [← hσ', List.set_set]
      exact Wk.mask [0, 1, 2, 7] ⟨n - j, by omega, Sv.swap q i j, j, rfl, by omega, by rw [swap_len]; exact hl, by rw [← hdn]; exact hu, rfl, rfl⟩
  · have c' : ¬ (2 * i + 2 < n ∧ q.getD (2 * i + 2) 0 < q.getD (2 * i + 1) 0) := by simpa using c
    rw [show 2 * i + 1 = Sv.least q i n from (if_neg c').symm]
    generalize Sv.least q i n = j at hdn hlt hgt
    refine ac' (less_ac _ q _ hq' j i (by omega) (by omega) _ _ ?_)
    simp only [go_sem, hS'.live .st, hS'.ob .st, ct, Try.results64]
    refine ⟨fun c => ⟨_, _, Weak.refl _ _ _ _, fin ?_ _⟩, fun c => ac' (swap_ac _ q _ hq' i j (by omega) (by omega) _ _ fun r => ?_)⟩
    · rw [hdn, if_neg (by simpa using c)]
    · rw [if_pos (by simpa using c)] at hdn
      simp only [go_sem, Try.results64]
      rw [← hσ', List.set_set]
      exact Wk.mask [0, 1, 2, 7] ⟨n - j, by omega, Sv.swap q i j, j, rfl, by omega, by rw [swap_len]; exact hl, by rw [← hdn]; exact hu, rfl, rfl⟩
end Go.Proofs.Ytnanofipjiclfaa
end PartT3

section PartT4
/- The queue: push, pop, examine. -/
set_option linter.unusedSimpArgs false
set_option linter.unusedVariables false
set_option maxRecDepth 100000
namespace Go.Proofs.Ytnanofipjiclfaa
open Go Go.Ab
variable {I : Sl → Nat} {S : Sv} {σ : St}

/-- Where the struct lies while a slice of it is taken away. -/
theorem Sol.st_less (h : Sol I S σ) (s : Sl) (hs : has S s) (hst : s ≠ .st) (l : St) : (σ.set (I s) none ++ l)[I .st]? = some (some (.cells (ct I S .st))) := by
  rw [List.getElem?_append_left (by rw [List.length_set]; exact h.lt .st), set_other (h.ne hst hs trivial)]
  exact h.get .st trivial
theorem live_new {σ : St} {i n : Nat} {x : Option Ob} {o : Ob} (h : n = σ.length) : liveId (σ.set i x ++ [some o]) n = true :=
  live_of (o := o) (by rw [List.getElem?_append_right (by rw [List.length_set]; omega), List.length_set, h, Nat.sub_self]; rfl)
theorem Stp.pre {X : Sl → Prop} {I I' : Sl → Nat} {S : Sv} {σ l σ' : St} (h : Stp X I S (σ ++ l) I' σ') : Stp X I S σ I' σ' :=
  ⟨by have := h.len; simp at this; omega, h.st, fun s => (h.ids s).imp id fun e => ⟨by have := e.1; simp at this; omega, e.2⟩, fun id hid hn => by
    rw [h.keep id (by simp; omega) hn, List.getElem?_append_left hid]⟩
theorem qpush_ac (hS : Sol I S σ) (x : Nat) (hx : x < 1000000) (hb : S.queue.length ≤ 1000000000000) (G : Glob) (R : A → St → Prop)
    (h : ∀ r I' σ', Sol I' { S with queue := S.queue ++ [x] } σ' → Stp (fun t => t = Sl.queue) I S σ I' σ' → R r σ') : AC Try.prog G 110 [.ref (I .st) 14, .ifc 3 (dn x)] σ R := by
  refine ac_enter mixed Try.func110 rfl Try.ntmps110 (by simp only [go_sem]) fun hbd => ?_
  simp only [List.length_cons, List.length_nil, Nat.reduceAdd, Nat.reduceSub, List.replicate_succ, List.replicate_zero, List.cons_append, List.nil_append]
  have hS1 := hS.app [some (.cells [dn x])]
  have g := hS1.st_less .queue trivial (by decide)
  have q0 : decide (I .queue < σ.length) = true := decide_eq_true (hS.lt .queue)
  simp only [go_sem, hS.live .st, hS.ob .st, hS1.live .queue, hS1.ob .queue, fun l => live_of (g l), fun l k => objK_of (k := k) (g l), ct, natsA_len, Nat.mul_one, Try.results110]
  refine ⟨⟨by simp only [maxLen]; omega, by omega⟩, live_new (by simp), _, _, Weak.refl _ _ _ _, h _ (upI I .queue (σ.length + 1)) _ (hS1.grow .queue trivial (by decide) (σ.length + 1) (by simp) (fun t => by cases t <;> rfl) (natsA_snoc _ _).symm ?_ fun t h1 h2 => ?_) (Stp.pre (stp_grow hS1 (fun t => t = Sl.queue) .queue trivial (by decide) rfl (σ.length + 1) (by simp)))⟩
  · simp [ct, upI, valA, coreA]
  · cases t <;> first | rfl | exact absurd rfl h1 | exact absurd rfl h2 | simp [ct, innA, upI]
/-- The struct and another object turn in place. -/
theorem Sol.put2 {S' : Sv} (h : Sol I S σ) (s : Sl) (hs : has S s) (hst : s ≠ .st) (hh : ∀ t, has S' t ↔ has S t) {c1 c2 : List A} (h1 : c1 = ct I S' .st) (h2 : c2 = ct I S' s) (ho : ∀ t, t ≠ s → t ≠ .st → ct I S' t = ct I S t) : Sol I S' ((σ.set (I .st) (some (.cells c1))).set (I s) (some (.cells c2))) := by
  refine ⟨fun t ht => ?_, fun a b ha hb => h.inj a b ((hh a).1 ha) ((hh b).1 hb)⟩
  have htt := (hh t).1 ht
  have hn : I .st ≠ I s := h.ne (Ne.symm hst) trivial hs
  by_cases e : t = s
  · subst e; rw [set_same (x := some (.cells (ct I S t))) (by rw [set_other hn]; exact h.get t hs), h2]
  · rw [set_other (h.ne (Ne.symm e) hs htt)]
    by_cases e' : t = .st
    · subst e'; rw [set_same (h.get .st trivial), h1]
    · rw [set_other (h.ne (Ne.symm e') trivial htt), ho t e e']; exact h.get t htt
theorem stp_put2 (X : Sl → Prop) (s : Sl) (hs : has S s) {x y : Option Ob} : Stp X I S σ I ((σ.set (I .st) x).set (I s) y) :=
  ⟨by simp, rfl, fun _ => .inl rfl, fun id _ hne => by rw [set_other (Ne.symm (hne s hs)), set_other (Ne.symm (hne .st trivial))]⟩
theorem Weak.shortAt {G : Glob} {n0 : Nat} {fr : Fr} {σ : St} (j n : Nat) {cs : List A} (h : σ[j]? = some (some (.cells cs))) : Weak G n0 fr σ fr (σ.set j (some (.cells (cs.take n)))) := by
  have := Weak.short (G := G) (n0 := n0) (fr := fr) (σ := []) (l := σ) j n h
  simpa using this
theorem ret_via {G : Glob} {n0 : Nat} {fr fr' : Fr} {τ τ' : St} {R : A → St → Prop} (hw : Weak G n0 fr τ fr' τ') (h : ∃ r σ', Weak G n0 fr' τ' [r] σ' ∧ R r σ') : ∃ r σ', Weak G n0 fr τ [r] σ' ∧ R r σ' := by
  obtain ⟨r, s, h1, h2⟩ := h
  exact ⟨r, s, hw.trans h1, h2⟩
theorem natsA_take (l : List Nat) (n : Nat) : (natsA l).take n = natsA (l.take n) := by simp [natsA, List.map_take]
theorem qpop_ac (hS : Sol I S σ) (hq : S.queue ≠ []) (hb : S.queue.length ≤ 1000000000000) (G : Glob) (R : A → St → Prop)
    (h : ∀ σ', Sol I { S with queue := S.queue.dropLast } σ' → Stp (fun _ => False) I S σ I σ' → R (.ifc 3 (dn (S.queue.getLastD 0))) σ') : AC Try.prog G 109 [.ref (I .st) 14] σ R := by
  refine ac_enter mixed Try.func109 rfl Try.ntmps109 (by simp only [go_sem]) fun hbd => ?_
  simp only [List.length_cons, List.length_nil, Nat.reduceAdd, Nat.reduceSub, List.replicate_succ, List.replicate_zero, List.cons_append, List.nil_append]
  have hl : 0 < S.queue.length := List.length_pos_iff.2 hq
  have w1 : IntKind.i64.wrap ((S.queue.length : Int) - 1) = ((S.queue.length - 1 : Nat) : Int) := by rw [wrap64_id _ (by omega) (by omega)]; omega
  have hj : S.queue.length - 1 < S.queue.length := by omega
  simp only [go_sem, hS.live .st, hS.ob .st, hS.live .queue, hS.ob .queue, ct, natsA_len, natsA_get hj, w1, Nat.mul_one, Try.results109]
  refine ⟨⟨by omega, by omega⟩, hj, ⟨by omega, by omega⟩, ret_via (Weak.shortAt (I .queue) (S.queue.length - 1) (by rw [set_other (hS.ne (by decide))]; exact hS.get .queue trivial)) ⟨_, _, Weak.refl _ _ _ _, ?_⟩⟩
  have e1 : S.queue.take (S.queue.length - 1) = S.queue.dropLast := by rw [List.dropLast_eq_take]
  have e2 : S.queue.getD (S.queue.length - 1) 0 = S.queue.getLastD 0 := by
    rw [List.getLastD_eq_getLast?, List.getLast?_eq_getElem?, List.getD_eq_getElem?_getD]
  rw [e2]
  refine h _ (hS.put2 .queue trivial (by decide) (fun t => by cases t <;> rfl) ?_ ?_ fun t h1 h2 => ?_) (stp_put2 _ .queue trivial)
  · simp [ct, valA, coreA]
  · simp only [ct, natsA_take, e1]
  · cases t <;> first | rfl | exact absurd rfl h1 | exact absurd rfl h2
theorem up_len (q : List Nat) (j : Nat) : (Sv.up q j).length = q.length := by
  induction j using Nat.strongRecOn generalizing q with
  | ind j ih =>
    rw [Sv.up]
    split
    · rfl
    · rename_i hne
      split
      · rw [ih _ (by omega), swap_len]
      · rfl
theorem down_len (q : List Nat) (i n : Nat) : (Sv.down q i n).length = q.length := by
  obtain ⟨k, hk⟩ : ∃ k, n - i = k := ⟨_, rfl⟩
  induction k using Nat.strongRecOn generalizing q i with
  | ind k ih =>
    rw [Sv.down]
    split
    · rfl
    · split
      · have : i < Sv.least q i n := by unfold Sv.least; split <;> omega
        rw [ih (n - Sv.least q i n) (by omega) _ _ rfl, swap_len]
      · rfl
theorem hpush_ac (hS : Sol I S σ) (x : Nat) (hx : x < 1000000) (hb : S.queue.length < 1000000000000) (G : Glob) (R : A → St → Prop)
    (h : ∀ r I' σ', Sol I' { S with queue := Sv.hpush S.queue x } σ' → Stp (fun t => t = Sl.queue) I S σ I' σ' → R r σ') : AC Try.prog G 63 [hqA I, .ifc 3 (dn x)] σ R := by
  refine ac_enter mixed Try.func63 rfl Try.ntmps63 (by simp only [go_sem]) fun hbd => ?_
  simp only [List.length_cons, List.length_nil, Nat.reduceAdd, Nat.reduceSub, List.replicate_succ, List.replicate_zero, List.cons_append, List.nil_append]
  simp only [go_sem, Try.results63]
  refine ac' (qpush_ac hS x hx (by omega) _ _ fun r I' σ' hS' hT => ?_)
  have w1 : IntKind.i64.wrap (((S.queue.length + 1 : Nat) : Int) - 1) = (S.queue.length : Int) := by rw [wrap64_id _ (by omega) (by omega)]; omega
  have hst := hT.st
  simp only [go_sem, ← hst, hS'.live .st, hS'.ob .st, ct, Try.results63]
  have hq := hS'.live .queue
  refine ac' (len_ac _ _ _ hq _ _ ?_)
  simp only [go_sem, w1, Try.results63]
  have hl : (S.queue ++ [x]).length = S.queue.length + 1 := by simp
  have := up_ac hS' S.queue.length (by simp) (by simp; omega)
  simp only [hqA, hst] at this ⊢
  refine ac' (this _ _ fun r => ?_)
  simp only [go_sem, Try.results63]
  refine ⟨_, _, Weak.refl _ _ _ _, h _ I' _ (hS'.queue (q := Sv.up (S.queue ++ [x]) S.queue.length) (up_len _ _)) ?_⟩
  exact hT.trans (fun s => by cases s <;> exact Iff.rfl) (stp_put _ .queue trivial)
theorem examine_ac (hS : Sol I S σ) (id : Nat) (ho : okId S id) (hid : id < 1000000) (hb : S.queue.length < 1000000000000) (G : Glob) (R : A → St → Prop)
    (h : ∀ r I' σ', Sol I' (S.examine id) σ' → Stp (fun t => t = Sl.queue) I S σ I' σ' → R r σ') : AC Try.prog G 55 [.ref (I .st) 0, dn id] σ R := by
  refine ac_enter mixed Try.func55 rfl Try.ntmps55 (by simp only [go_sem]) fun hbd => ?_
  simp only [List.length_cons, List.length_nil, Nat.reduceAdd, Nat.reduceSub, List.replicate_succ, List.replicate_zero, List.cons_append, List.nil_append]
  simp only [go_sem, Try.results55]
  refine ac' (at_ac hS id hid ho _ _ ?_)
  have hc := hS.get (clS id) (has_cl S id)
  rw [ct_cl] at hc
  have e1 : ((S.cl id).held == 0) = decide ((S.cl id).held = 0) := by rw [Bool.eq_iff_iff]; simp
  have g1 := clsA_held ho
  have g2 := clsA_opn ho
  rw [← cl_eq] at g1 g2
  unfold okId at ho
  simp only [go_sem, live_of hc, objK_of hc, clsA_len, g1, g2, e1, Try.results55]
  refine ⟨by omega, fun c => ⟨c, by omega⟩, fun c => ⟨hS.live .st, hS.live .st, ac' (hpush_ac hS id hid hb _ _ fun r I' σ' hS' hT => ?_)⟩, fun c => ⟨_, _, Weak.refl _ _ _ _, ?_⟩⟩
  · simp only [Bool.and_eq_true, decide_eq_true_eq] at c
    simp only [go_sem, Try.results55]
    refine ⟨_, _, Weak.refl _ _ _ _, h _ I' _ ?_ hT⟩
    unfold Sv.examine; rw [if_pos c]; exact hS'
  · have c' : ¬ ((S.cl id).held = 0 ∧ (S.cl id).opn ≤ 1) := by
      intro hh; simp [hh] at c
    refine h _ I _ ?_ (Stp.refl _ _ _ _)
    unfold Sv.examine; rw [if_neg c']; exact hS
theorem hpop_ac (hS : Sol I S σ) (hq : S.queue ≠ []) (hb : S.queue.length < 1000000000000) (G : Glob) (R : A → St → Prop)
    (h : ∀ σ', Sol I { S with queue := (Sv.hpop S.queue).dropLast } σ' → Stp (fun _ => False) I S σ I σ' → R (.ifc 3 (dn ((Sv.hpop S.queue).getLastD 0))) σ') : AC Try.prog G 56 [hqA I] σ R := by
  have hl : 0 < S.queue.length := List.length_pos_iff.2 hq
  refine ac_enter mixed Try.func56 rfl Try.ntmps56 (by simp only [go_sem]) fun hbd => ?_
  simp only [List.length_cons, List.length_nil, Nat.reduceAdd, Nat.reduceSub, List.replicate_succ, List.replicate_zero, List.cons_append, List.nil_append]
  have w1 : IntKind.i64.wrap ((S.queue.length : Int) - 1) = ((S.queue.length - 1 : Nat) : Int) := by rw [wrap64_id _ (by omega) (by omega)]; omega
  have hq0 := hS.get .queue trivial
  simp only [go_sem, hS.live .st, hS.ob .st, ct, Try.results56]
  refine ac' (len_ac _ _ _ (hS.live .queue) _ _ ?_)
  simp only [go_sem, hS.live .st, hS.ob .st, ct, w1, Try.results56]
  refine ac' (swap_ac _ S.queue _ hq0 0 (S.queue.length - 1) hl (by omega) _ _ fun r => ?_)
  have hS1 := hS.queue (q := Sv.swap S.queue 0 (S.queue.length - 1)) (swap_len _ _ _)
  have hT1 : Stp (fun _ => False) I S σ I (σ.set (I .queue) (some (.cells (natsA (Sv.swap S.queue 0 (S.queue.length - 1)))))) := stp_put _ .queue trivial
  generalize σ.set (I .queue) (some (.cells (natsA (Sv.swap S.queue 0 (S.queue.length - 1))))) = σ1 at hS1 hT1
  simp only [go_sem, Try.results56]
  have hl1 : (Sv.swap S.queue 0 (S.queue.length - 1)).length = S.queue.length := swap_len _ _ _
  refine ac' (down_ac hS1 0 (S.queue.length - 1) (by simp only [hl1]; omega) (by simp only [hl1]; omega) (by omega) _ _ fun r => ?_)
  have hS2 := hS1.queue (q := Sv.hpop S.queue) (by unfold Sv.hpop; rw [down_len])
  have hT2 : Stp (fun _ => False) I S σ I (σ1.set (I .queue) (some (.cells (natsA (Sv.hpop S.queue))))) := hT1.trans (fun s => by cases s <;> exact Iff.rfl) (stp_put _ .queue trivial)
  have hl2 : (Sv.hpop S.queue).length = S.queue.length := by unfold Sv.hpop; rw [down_len, swap_len]
  have hdef : Sv.down (Sv.swap S.queue 0 (S.queue.length - 1)) 0 (S.queue.length - 1) = Sv.hpop S.queue := rfl
  simp only [go_sem, hdef, Try.results56]
  generalize σ1.set (I .queue) (some (.cells (natsA (Sv.hpop S.queue)))) = σ2 at hS2 hT2
  refine ac' (qpop_ac hS2 (by intro e; simp only at e; rw [e] at hl2; simp at hl2; omega) (by simp only [hl2]; omega) _ _ fun σ' hS' hT => ?_)
  simp only [go_sem, Try.results56]
  exact ⟨_, _, Weak.refl _ _ _ _, h _ hS' (hT2.trans (fun s => by cases s <;> exact Iff.rfl) hT)⟩
end Go.Proofs.Ytnanofipjiclfaa
end PartT4

section PartT5
/- Clauses' counts. -/
set_option linter.unusedSimpArgs false
set_option linter.unusedVariables false
set_option maxRecDepth 100000
namespace Go.Proofs.Ytnanofipjiclfaa
open Go Go.Ab
variable {I : Sl → Nat} {S : Sv} {σ : St}

theorem foldl_fix {α β γ : Type} (f : α → γ) (g : α → β → α) (h : ∀ a b, f (g a b) = f a) : ∀ (l : List β) (a : α), f (l.foldl g a) = f a
  | [], _ => rfl
  | b :: l, a => by rw [List.foldl_cons, foldl_fix f g h l, h]
theorem clL_put (S : Sv) (id id' : Nat) (c : Cl) : clL (S.put id c) id' = if clS id = clS id' then (clL S id').set (clI id) c else clL S id' := by
  unfold clL clS clI Sv.put
  by_cases h : cmax ≤ id <;> by_cases h' : cmax ≤ id' <;> simp [h, h']
theorem okId_put {S : Sv} {id id' : Nat} {c : Cl} : okId (S.put id c) id' ↔ okId S id' := by
  unfold okId; rw [clL_put]; split <;> simp
theorem clSI_inj {a b : Nat} (h1 : clS a = clS b) (h2 : clI a = clI b) : a = b := by
  unfold clS at h1; unfold clI at h2
  by_cases h : cmax ≤ a <;> by_cases h' : cmax ≤ b <;> simp [h, h'] at h1 h2 <;> omega
theorem cl_put {S : Sv} {id id' : Nat} (c : Cl) (h : okId S id) : (S.put id c).cl id' = if id = id' then c else S.cl id' := by
  rw [cl_eq, cl_eq, clL_put]
  unfold okId at h
  by_cases e : id = id'
  · subst e; simp [h]
  · rw [if_neg e]
    split
    · rename_i hs
      have hi : clI id ≠ clI id' := fun hi => e (clSI_inj hs hi)
      rw [List.getD_eq_getElem?_getD, List.getElem?_set, if_neg hi, ← List.getD_eq_getElem?_getD]
    · rfl
theorem Sol.putCl (hS : Sol I S σ) {id : Nat} (h : okId S id) (c : Cl) : Sol I (S.put id c) (σ.set (I (clS id)) (some (.cells (clsA ((clL S id).set (clI id) c))))) := by
  refine hS.put (clS id) (has_cl S id) (fun t => by cases t <;> exact Iff.rfl) ?_ fun t ht => ?_
  · rw [ct_cl, clL_put, if_pos rfl]
  · by_cases hc : cmax ≤ id
    · have hid : clS id = .learned := by unfold clS; rw [if_pos hc]
      rw [hid] at ht
      cases t <;> first | rfl | exact absurd rfl ht | simp [ct, Sv.put, hc, valA, coreA] | skip
    · have hid : clS id = .added := by unfold clS; rw [if_neg hc]
      rw [hid] at ht
      cases t <;> first | rfl | exact absurd rfl ht | simp [ct, Sv.put, hc, valA, coreA] | skip
/-- The counts are small. -/
def Cb (S : Sv) (B : Nat) : Prop := ∀ id, okId S id → -(B : Int) ≤ (S.cl id).opn ∧ (S.cl id).opn ≤ B ∧ -(B : Int) ≤ (S.cl id).held ∧ (S.cl id).held ≤ B
theorem Cb.mono {S : Sv} {B B' : Nat} (h : Cb S B) (hb : B ≤ B') : Cb S B' := fun id ho => by have := h id ho; omega
theorem Cb.hold {S : Sv} {B : Nat} (h : Cb S B) {id : Nat} (ho : okId S id) {d : Int} (hd : -1 ≤ d ∧ d ≤ 1) : Cb (S.hold id d) (B + 1) := fun id' ho' => by
  unfold Sv.hold at ho' ⊢
  rw [okId_put] at ho'
  have h1 := h id ho
  have h2 := h id' ho'
  rw [cl_put _ ho]
  split
  · simp only; omega
  · omega
theorem Cb.openD {S : Sv} {B : Nat} (h : Cb S B) {id : Nat} (ho : okId S id) {d : Int} (hd : -1 ≤ d ∧ d ≤ 1) : Cb (S.openD id d) (B + 1) := fun id' ho' => by
  unfold Sv.openD at ho' ⊢
  rw [okId_put] at ho'
  have h1 := h id ho
  have h2 := h id' ho'
  rw [cl_put _ ho]
  split
  · simp only; omega
  · omega
theorem okId_hold {S : Sv} {id id' : Nat} {d : Int} : okId (S.hold id d) id' ↔ okId S id' := okId_put
theorem okId_open {S : Sv} {id id' : Nat} {d : Int} : okId (S.openD id d) id' ↔ okId S id' := okId_put
theorem okId_ex {S : Sv} {id id' : Nat} : okId (S.examine id) id' ↔ okId S id' := by
  unfold Sv.examine; split <;> exact Iff.rfl
theorem cl_ex {S : Sv} {id id' : Nat} : (S.examine id).cl id' = S.cl id' := by
  unfold Sv.examine; split <;> rfl
theorem Cb.ex {S : Sv} {B : Nat} (h : Cb S B) {id : Nat} : Cb (S.examine id) B := fun id' ho' => by
  rw [okId_ex] at ho'; rw [cl_ex]; exact h id' ho'
end Go.Proofs.Ytnanofipjiclfaa
end PartT5

section PartT6
/- assign. -/
set_option linter.unusedSimpArgs false
set_option linter.unusedVariables false
set_option maxRecDepth 100000
namespace Go.Proofs.Ytnanofipjiclfaa
open Go Go.Ab
variable {I : Sl → Nat} {S : Sv} {σ : St}

abbrev Any : Sl → Prop := fun _ => True
theorem Stp.any {X : Sl → Prop} {I I' : Sl → Nat} {S : Sv} {σ σ' : St} (h : Stp X I S σ I' σ') : Stp Any I S σ I' σ' := h.mono fun _ _ => trivial
/-- Two states with the same number of literals. -/
def SameOcc (S S' : Sv) : Prop := S'.occ.length = S.occ.length
theorem SameOcc.has {S S' : Sv} (h : SameOcc S S') (s : Sl) : has S s ↔ has S' s := by
  cases s <;> first | exact Iff.rfl | (simp only [Ytnanofipjiclfaa.has]; rw [h])
/-- The numbers of the clauses that a literal's place holds. -/
def OccOk (S : Sv) (l : Int) : Prop := (S.occ.getD (code l) []).length ≤ 1000000 ∧ ∀ id ∈ S.occ.getD (code l) [], okId S id ∧ id < 1000000
theorem occ_get {n c : Nat} (f : Nat → A) (hc : c < n) : List.getD ((List.range n).map f) c .any = f c := by
  rw [getD_mapA (d := 0) (by simpa using hc), List.getD_eq_getElem?_getD, List.getElem?_range hc]; rfl
theorem getD_set_ne {α : Type} {l : List α} {i j : Nat} {x d : α} (h : i ≠ j) : (l.set i x).getD j d = l.getD j d := by
  rw [List.getD_eq_getElem?_getD, List.getElem?_set, if_neg h, ← List.getD_eq_getElem?_getD]
theorem take_getD {α : Type} {l : List α} {j : Nat} (d : α) (h : j < l.length) : l.take (j + 1) = l.take j ++ [l.getD j d] := by
  rw [List.take_add_one, List.getElem?_eq_getElem h, List.getD_eq_getElem?_getD, List.getElem?_eq_getElem h]; rfl
def holds (S : Sv) (ids : List Nat) (d : Int) : Sv := ids.foldl (fun S id => S.hold id d) S
theorem holds_snoc (S : Sv) (ids : List Nat) (id : Nat) (d : Int) : holds S (ids ++ [id]) d = (holds S ids d).hold id d := by simp [holds]
theorem holds_ok (S : Sv) (ids : List Nat) (d : Int) (id : Nat) : okId (holds S ids d) id ↔ okId S id := by
  have := foldl_fix (fun S => okId S id) (fun S (i : Nat) => S.hold i d) (fun S i => propext okId_hold) ids S
  exact this ▸ Iff.rfl
theorem holds_occ (S : Sv) (ids : List Nat) (d : Int) : (holds S ids d).occ = S.occ := foldl_fix (fun S : Sv => S.occ) (fun (S : Sv) (i : Nat) => S.hold i d) (fun _ _ => rfl) ids S
theorem Cb.holds {S : Sv} {B : Nat} {d : Int} (hd : -1 ≤ d ∧ d ≤ 1) : ∀ {ids : List Nat}, Cb S B → (∀ id ∈ ids, okId S id) → Cb (holds S ids d) (B + ids.length)
  | [], h, _ => h
  | id :: ids, h, ho => by
    have h1 := h.hold (ho id (by simp)) hd
    have := Cb.holds hd (ids := ids) h1 fun i hi => okId_hold.2 (ho i (by simp [hi]))
    have e : B + 1 + ids.length = B + (id :: ids).length := by simp; omega
    rw [e] at this
    exact this
def seen (S : Sv) (ids : List Nat) : Sv := ids.foldl (fun S id => (S.openD id (-1)).examine id) S
theorem seen_snoc (S : Sv) (ids : List Nat) (id : Nat) : seen S (ids ++ [id]) = ((seen S ids).openD id (-1)).examine id := by simp [seen]
theorem ex_occ (S : Sv) (id : Nat) : (S.examine id).occ = S.occ := by unfold Sv.examine; split <;> rfl
theorem seen_occ (S : Sv) (ids : List Nat) : (seen S ids).occ = S.occ := foldl_fix (fun S : Sv => S.occ) (fun (S : Sv) (i : Nat) => (S.openD i (-1)).examine i) (fun _ _ => ex_occ _ _) ids S
theorem seen_ok (S : Sv) (ids : List Nat) (id : Nat) : okId (seen S ids) id ↔ okId S id := by
  have := foldl_fix (fun S => okId S id) (fun S (i : Nat) => (S.openD i (-1)).examine i) (fun S i => propext (okId_ex.trans okId_open)) ids S
  exact this ▸ Iff.rfl
theorem Cb.seen {B : Nat} : ∀ {ids : List Nat} {S : Sv}, Cb S B → (∀ id ∈ ids, okId S id) → Cb (seen S ids) (B + ids.length)
  | [], _, h, _ => h
  | id :: ids, S, h, ho => by
    have h1 := (h.openD (ho id (by simp)) (d := -1) (by omega)).ex (id := id)
    have hgo : ∀ (ids : List Nat) (B : Nat) (S : Sv), Cb S B → (∀ id ∈ ids, okId S id) → Cb (Ytnanofipjiclfaa.seen S ids) (B + ids.length) := by
      intro ids
      induction ids with
      | nil => exact fun B S h _ => h
      | cons i ids ih =>
        intro B S h ho
        have := ih (B + 1) ((S.openD i (-1)).examine i) ((h.openD (ho i (by simp)) (d := -1) (by omega)).ex) fun k hk => okId_ex.2 (okId_open.2 (ho k (by simp [hk])))
        have e : B + 1 + ids.length = B + (i :: ids).length := by simp; omega
        rw [e] at this
        exact this
    exact hgo _ _ _ h ho
theorem hpush_len (q : List Nat) (x : Nat) : (Sv.hpush q x).length = q.length + 1 := by unfold Sv.hpush; rw [up_len]; simp
theorem ex_queue (S : Sv) (id : Nat) : (S.examine id).queue.length ≤ S.queue.length + 1 := by
  unfold Sv.examine; split
  · simp only [hpush_len]; omega
  · omega
theorem seen_queue : ∀ (ids : List Nat) (S : Sv), (seen S ids).queue.length ≤ S.queue.length + ids.length
  | [], S => Nat.le_refl _
  | i :: ids, S => by
    have h1 := seen_queue ids ((S.openD i (-1)).examine i)
    have h2 := ex_queue (S.openD i (-1)) i
    have h3 : (S.openD i (-1)).queue = S.queue := rfl
    rw [h3] at h2
    have e : seen S (i :: ids) = seen ((S.openD i (-1)).examine i) ids := rfl
    rw [e, List.length_cons]; omega
theorem holds_queue (S : Sv) (ids : List Nat) (d : Int) : (holds S ids d).queue = S.queue := foldl_fix (fun S : Sv => S.queue) (fun (S : Sv) (i : Nat) => S.hold i d) (fun _ _ => rfl) ids S
set_option maxHeartbeats 4000000 in
theorem assign_ac (hS : Sol I S σ) (hs : Sh S) (l : Int) (hl : LitV S.vars l) (reason : Int) (B : Nat) (hcb : Cb S B) (hB : B ≤ 1000000000000000) (ho : OccOk S l) (ho' : OccOk S (-l)) (htr : S.trail.length ≤ 1000000) (hq : S.queue.length + (S.occ.getD (code (-l)) []).length < 1000000000000) (hleft : S.left ≤ 1000000000)
    (G : Glob) (R : A → St → Prop) (h : ∀ I' σ', Sol I' (S.assign l reason).1 σ' → Stp Any I S σ I' σ' → R (db (S.assign l reason).2) σ') : AC Try.prog G 59 [.ref (I .st) 0, di l, di reason] σ R := by
  have hv := hs.vars
  have hc : code l < S.truth.length := by rw [hs.truth]; exact hl.codeLt
  have hr1 : vr l < S.reasons.length := by rw [hs.reasons]; exact hl.vrLt
  have hr2 : vr l < S.levels.length := by rw [hs.levels]; exact hl.vrLt
  refine ac_enterC' [4, 6, 7, 8, 13] mixed Try.func59 rfl Try.ntmps59 (by simp only [go_sem]) fun hbd => ?_
  simp only [List.length_cons, List.length_nil, Nat.reduceAdd, Nat.reduceSub, List.replicate_succ, List.replicate_zero, List.cons_append, List.nil_append]
  by_cases h0 : S.left = 0
  · have e0 : ((S.left : Int) == 0) = true := by simp [h0]
    simp only [go_sem, hS.live .st, hS.ob .st, ct, e0, Try.results59]
    have e : S.assign l reason = (S, false) := by unfold Sv.assign; rw [if_pos h0]
    rw [e] at h
    exact ⟨_, _, Weak.refl _ _ _ _, h I _ hS (Stp.refl _ _ _ _)⟩
  have e0 : ((S.left : Int) == 0) = false := by simpa using h0
  have w1 : IntKind.i64.wrap ((S.left : Int) - 1) = ((S.left - 1 : Nat) : Int) := by rw [wrap64_id _ (by omega) (by omega)]; omega
  simp only [go_sem, hS.live .st, hS.ob .st, ct, e0, w1, Try.results59]
  refine aw_cut (fun fr st => fr = [.ref (I .st) 0, di l, di reason, .any, .any, .any, .any, .any, .any, .any, .any, .any, .any, .any, .any, .any, .any, .any, .any, .any, .any, .any, .any, .any, .any, .any, .any, .any, .any, .any, .any, .any, .any, .any, .any, .any, .any, .any, .any, .any, .any, .any, .any, .any, .any, .any, .any, .any, .any, .any, .any, .any, .any, .any, .any, .any, .any, .any, .any, .any, .any, .any, .any, .any, .any, .any, .any, .any, .any, .any, .any, .any, .any, .any, .any, .any, .any, .any, .any, .any, .any, .any, .any, .any, .any, .any, .any, .any, .any, .any, .any, .any, .any, .any, .any, .any, .any, .any, .any, .any, .any, .any, .any, .any, .any, .any, .any, .any, .any, .any, .any] ∧ Sol I { S with left := S.left - 1 } st ∧ Stp Any I S σ I st) ?_ ?_
  · simp only [go_sem, hS.live .st, hS.ob .st, ct, w1, Try.results59]
    refine Wk.mask [0, 1, 2] ⟨rfl, hS.put .st trivial (fun t => by cases t <;> exact Iff.rfl) rfl (fun t ht => by cases t <;> first | rfl | exact absurd rfl ht), stp_put _ .st trivial⟩
  rintro fr st ⟨rfl, hS1, hT1⟩
  clear hS
  simp only [go_sem, Try.results59]
  refine ac' (vr_ac l (hl.big hv) _ _ _ ?_)
  simp only [go_sem, Try.results59]
  refine aw_cut (fun fr st => fr = [.ref (I .st) 0, di l, di reason, .any, .any, .any, .any, dn (vr l), .any, .any, .any, .any, .any, .any, .any, .any, .any, .any, .any, .any, .any, .any, .any, .any, .any, .any, .any, .any, .any, .any, .any, .any, .any, .any, .any, .any, .any, .any, .any, .any, .any, .any, .any, .any, .any, .any, .any, .any, .any, .any, .any, .any, .any, .any, .any, .any, .any, .any, .any, .any, .any, .any, .any, .any, .any, .any, .any, .any, .any, .any, .any, .any, .any, .any, .any, .any, .any, .any, .any, .any, .any, .any, .any, .any, .any, .any, .any, .any, .any, .any, .any, .any, .any, .any, .any, .any, .any, .any, .any, .any, .any, .any, .any, .any, .any, .any, .any, .any, .any, .any, .any] ∧ Sol I { S with left := S.left - 1, truth := S.truth.set (code l) true } st ∧ Stp Any I S σ I st) ?_ ?_
  · simp only [go_sem, Try.results59]
    refine aw_plan (.take 0 <| .take 4 <| .pure 5 <| .tk 3 1 <| .tk 2 6 <| .done) (by kernel_rfl) ?_
    simp only [go_sem, Try.results59]
    refine exP (dn (code l)) ⟨fun σ' => ?_, ?_⟩
    · simp only [go_sem, Try.results59]
      exact ac' (code_ac l (hl.big hv) _ _ _ ⟨rfl, rfl⟩)
    simp only [go_sem, hS1.live .st, hS1.ob .st, hS1.live .truth, hS1.ob .truth, ct, boolsA_len, boolsA_set _ hc, Nat.mul_one, Try.results59]
    refine ⟨⟨by omega, by omega⟩, by omega, Wk.mask [0, 1, 2, 7] ⟨rfl, ?_, hT1.trans (fun s => by cases s <;> exact Iff.rfl) (stp_put _ .truth trivial)⟩⟩
    exact hS1.put .truth trivial (fun t => by cases t <;> exact Iff.rfl) rfl (fun t ht => by cases t <;> first | rfl | exact absurd rfl ht | simp [ct, valA, coreA])
  clear hS1 hT1
  rintro fr st ⟨rfl, hS1, hT1⟩
  simp only [go_sem, Try.results59]
  refine aw_cut (fun fr st => fr = [.ref (I .st) 0, di l, di reason, .any, .any, .any, .any, dn (vr l), .any, .any, .any, .any, .any, .any, .any, .any, .any, .any, .any, .any, .any, .any, .any, .any, .any, .any, .any, .any, .any, .any, .any, .any, .any, .any, .any, .any, .any, .any, .any, .any, .any, .any, .any, .any, .any, .any, .any, .any, .any, .any, .any, .any, .any, .any, .any, .any, .any, .any, .any, .any, .any, .any, .any, .any, .any, .any, .any, .any, .any, .any, .any, .any, .any, .any, .any, .any, .any, .any, .any, .any, .any, .any, .any, .any, .any, .any, .any, .any, .any, .any, .any, .any, .any, .any, .any, .any, .any, .any, .any, .any, .any, .any, .any, .any, .any, .any, .any, .any, .any, .any, .any] ∧ Sol I { S with left := S.left - 1, truth := S.truth.set (code l) true, reasons := S.reasons.set (vr l) reason, levels := S.levels.set (vr l) S.starts.length } st ∧ Stp Any I S σ I st) ?_ ?_
  · simp only [go_sem, Try.results59]
    refine aw_plan (.tk 15 0 <| .take 16 <| .alt 15 (.tk 3 17 <| .done) <| .alt 17 (.take 15 <| .tk 2 18 <| .done) <| .stop) (by kernel_rfl) ?_
    have hS2 := hS1.put (S' := { S with left := S.left - 1, truth := S.truth.set (code l) true, reasons := S.reasons.set (vr l) reason }) .reasons trivial (fun t => by cases t <;> exact Iff.rfl) (cs := intsA (S.reasons.set (vr l) reason)) rfl (fun t ht => by cases t <;> first | rfl | exact absurd rfl ht | simp [ct, valA, coreA])
    have hS3 := hS2.put (S' := { S with left := S.left - 1, truth := S.truth.set (code l) true, reasons := S.reasons.set (vr l) reason, levels := S.levels.set (vr l) S.starts.length }) .levels trivial (fun t => by cases t <;> exact Iff.rfl) (cs := natsA (S.levels.set (vr l) S.starts.length)) rfl (fun t ht => by cases t <;> first | rfl | exact absurd rfl ht | simp [ct, valA, coreA])
    simp only [go_sem, hS1.live .st, hS1.ob .st, hS1.live .reasons, hS1.ob .reasons, hS1.live .levels, hS1.ob .levels, hS1.live .starts, hS2.live .levels, hS2.ob .levels, hS2.live .st, hS2.ob .st, hS2.live .starts, ct, intsA_len, natsA_len, intsA_set _ hr1, natsA_set _ hr2, Nat.mul_one, Try.results59]
    exact ⟨⟨by omega, by omega⟩, by omega, ⟨by omega, by omega⟩, by omega, Wk.mask [0, 1, 2, 7] ⟨rfl, hS3, hT1.trans (fun s => by cases s <;> exact Iff.rfl) ((stp_put _ .reasons trivial).trans (S' := S) (fun s => Iff.rfl) (stp_put _ .levels trivial))⟩⟩
  clear hS1 hT1
  rintro fr st ⟨rfl, hS1, hT1⟩
  simp only [go_sem, Try.results59]
  refine aw_cut (fun fr st => fr = [.ref (I .st) 0, di l, .any, .any, .any, .any, .any, .any, .any, .any, .any, .any, .any, .any, .any, .any, .any, .any, .any, .any, .any, .any, .any, .any, .any, .any, .any, .any, .any, .any, .any, .any, .any, .any, .any, .any, .any, .any, .any, .any, .any, .any, .any, .any, .any, .any, .any, .any, .any, .any, .any, .any, .any, .any, .any, .any, .any, .any, .any, .any, .any, .any, .any, .any, .any, .any, .any, .any, .any, .any, .any, .any, .any, .any, .any, .any, .any, .any, .any, .any, .any, .any, .any, .any, .any, .any, .any, .any, .any, .any, .any, .any, .any, .any, .any, .any, .any, .any, .any, .any, .any, .any, .any, .any, .any, .any, .any, .any, .any, .any, .any] ∧ ∃ I', Sol I' (S.mark1 l reason) st ∧ Stp Any I S σ I' st) ?_ ?_
  · have hS2 := hS1.app [some (.cells [di l])]
    have g := hS2.st_less .trail trivial (by decide)
    have q0 : decide (I .trail < st.length) = true := decide_eq_true (hS1.lt .trail)
    simp only [go_sem, hS1.live .st, hS1.ob .st, hS2.live .trail, hS2.ob .trail, fun l => live_of (g l), fun l k => objK_of (k := k) (g l), ct, intsA_len, Nat.mul_one, Try.results59]
    refine ⟨⟨by simp only [maxLen]; omega, by omega⟩, live_new (by simp), Wk.mask [0, 1] ⟨rfl, upI I .trail (st.length + 1), hS2.grow .trail trivial (by decide) (st.length + 1) (by simp) (fun t => by cases t <;> exact Iff.rfl) (intsA_snoc _ _).symm ?_ fun t h1 h2 => ?_,
      hT1.trans (fun s => by cases s <;> exact Iff.rfl) (Stp.pre (stp_grow hS2 Any .trail trivial (by decide) trivial (st.length + 1) (by simp)))⟩⟩
    · simp only [ct, Sv.mark1, List.length_append, List.length_cons, List.length_nil, Nat.zero_add]; rfl
    · cases t <;> first | rfl | exact absurd rfl h1 | exact absurd rfl h2 | simp [ct, innA, upI, Sv.mark1]
  clear hS1 hT1
  rintro fr st ⟨rfl, I1, hS1, hT1⟩
  have hst1 := hT1.st
  have hm : (S.mark1 l reason).occ = S.occ := rfl
  have hcl : code l < S.occ.length := by rw [hs.occ]; exact hl.codeLt
  have hcn : code (-l) < S.occ.length := by rw [hs.occ]; exact hl.neg.codeLt
  have ha : S.assign l reason = (((holds (S.mark1 l reason) (S.occ.getD (code l) []) 1).occ.getD (code (-l)) []).foldl (fun S id => (S.openD id (-1)).examine id) (holds (S.mark1 l reason) (S.occ.getD (code l) []) 1), true) := by
    unfold Sv.assign; rw [if_neg h0]; rfl
  rw [ha] at h
  have hcb1 : Cb (S.mark1 l reason) B := hcb
  have hqu : (S.mark1 l reason).queue = S.queue := rfl
  have hok1 : ∀ id, okId (S.mark1 l reason) id ↔ okId S id := fun id => Iff.rfl
  have hTo : ∀ s, has S s ↔ has (S.mark1 l reason) s := fun s => by cases s <;> exact Iff.rfl
  generalize S.mark1 l reason = S1 at hS1 hm hcb1 hok1 hTo h hqu
  generalize hids : S.occ.getD (code l) [] = ids at h
  rw [← hst1]
  simp only [go_sem, Try.results59]
  refine aw_cut (fun fr st => fr = [.ref (I1 .st) 0, di l, .any, .any, .any, .any, .any, .any, .any, .any, .any, .any, .any, .any, .any, .any, .any, .any, .any, .any, .any, .any, .any, .any, .any, .any, .any, .any, .any, .any, .any, .any, .any, .any, .any, .any, .any, .any, .any, .any, .any, .any, .any, .any, .any, .any, .any, .any, .any, .any, .any, .any, .any, .any, .any, .any, .any, .any, .any, .any, .any, .any, .any, .any, .any, .any, .any, .any, .any, .any, .any, .any, .any, .any, .any, .any, .any, .any, .any, .any, .any, .any, .any, .any, .any, .any, .any, .any, .any, .any, .any, .any, .any, .any, .any, .any, .any, .any, .any, .any, .any, .any, .any, .any, .any, .any, .any, .any, .any, .any, .any] ∧ Sol I1 (holds S1 ids 1) st ∧ Stp Any I S σ I1 st) ?_ ?_
  · simp only [go_sem, Try.results59]
    refine aw_plan (.take 0 <| .take 4 <| .take 9 <| .pure 5 <| .tk 3 1 <| .tk 3 6 <| .done) (by kernel_rfl) ?_
    simp only [go_sem, Try.results59]
    refine exP (dn (code l)) ⟨fun σ' => ?_, ?_⟩
    · simp only [go_sem, Try.results59]
      exact ac' (code_ac l (hl.big hv) _ _ _ ⟨rfl, rfl⟩)
    have hin := hS1.live (.inn (code l)) (by simp only [has]; rw [hm]; exact hcl)
    simp only [go_sem, hS1.live .st, hS1.ob .st, hS1.live .occ, hS1.ob .occ, ct, hm, List.length_map, List.length_range, occ_get _ hcl, innA, hids, hin, Nat.mul_one, Try.results59]
    refine ⟨⟨by omega, by omega⟩, hcl, ?_⟩
    obtain ⟨hil, hio⟩ := ho
    rw [hids] at hil hio
    refine aw_loop (fun m fr st => ∃ j : Nat, j ≤ ids.length ∧ m = ids.length - j ∧ fr = [.ref (I1 .st) 0, di l, .any, .any, .any, .any, .any, .any, .any, .any, .any, .any, .any, .any, .any, .any, .any, .any, .any, .any, .any, .any, .any, .any, .any, .any, .any, .any, .any, .any, .any, .any, .any, .any, .any, .any, .any, .any, .any, .any, .any, .any, .any, .any, .any, .any, .any, .any, .any, .any, .any, .any, .any, .any, .any, .any, .any, .any, .any, .any, .any, .any, .any, .any, .any, .any, .any, .any, .rs (I1 (.inn (code l))) 1 0 ids.length (some 3), dn ids.length, dn j, .any, .any, .any, .any, .any, .any, .any, .any, .any, .any, .any, .any, .any, .any, .any, .any, .any, .any, .any, .any, .any, .any, .any, .any, .any, .any, .any, .any, .any, .any, .any, .any, .any, .any, .any, .any, .any, .any, .any, .any] ∧ Sol I1 (holds S1 (ids.take j) 1) st ∧ Stp Any I S σ I1 st) ids.length _
      (Wk.mask [0, 1, 68, 69, 70] ⟨0, by omega, by omega, rfl, hS1, hT1⟩) ?_
    clear hS1 hT1 hin
    rintro m fr st ⟨j, hj, hm', rfl, hS1, hT1⟩
    have hocc : (holds S1 (ids.take j) 1).occ = S.occ := (holds_occ _ _ _).trans hm
    have hin := hS1.get (.inn (code l)) (by simp only [has]; rw [hocc]; exact hcl)
    simp only [ct, hocc, hids] at hin
    rcases Nat.lt_or_ge j ids.length with hlt | hge
    · have hd : decide ((j : Int) < (ids.length : Int)) = true := by simp; omega
      have w2 := wrapS j (by omega)
      have hid := hio _ (getD_mem 0 hlt)
      have hk : okId (holds S1 (ids.take j) 1) (ids.getD j 0) := (holds_ok _ _ _ _).2 ((hok1 _).2 hid.1)
      have hcbj := hcb1.holds (d := 1) (by omega) (ids := ids.take j) (fun i hi => (hok1 _).2 (hio i (List.mem_of_mem_take hi)).1)
      simp only [List.length_take] at hcbj
      have hnx : holds S1 (ids.take (j + 1)) 1 = (holds S1 (ids.take j) 1).hold (ids.getD j 0) 1 := by rw [take_getD 0 hlt, holds_snoc]
      simp only [go_sem, hd, live_of hin, objK_of hin, natsA_len, natsA_get hlt, w2, Nat.mul_one, Try.results59]
      refine ⟨⟨by omega, by omega⟩, hlt, ac' (at_ac hS1 _ hid.2 hk _ _ ?_)⟩
      generalize holds S1 (ids.take j) 1 = S2 at hS1 hk hcbj hnx hocc
      generalize ids.getD j 0 = id at hk hnx
      have hc := hS1.get (clS id) (has_cl S2 id)
      rw [ct_cl] at hc
      have g1 := clsA_held hk
      have g2 := clsA_setH ((S2.cl id).held + 1) hk
      rw [← cl_eq] at g1
      have hcc := hcbj id hk
      have w3 : IntKind.i64.wrap ((S2.cl id).held + 1) = (S2.cl id).held + 1 := wrap64_id _ (by omega) (by omega)
      have hk' := hk
      unfold okId at hk'
      simp only [go_sem, live_of hc, objK_of hc, clsA_len, g1, g2, w2, w3, Try.results59]
      refine ⟨by omega, by omega, Wk.mask [0, 1, 68, 69, 70] ⟨ids.length - (j + 1), by omega, j + 1, by omega, rfl, rfl, ?_, hT1.trans (SameOcc.has (by unfold SameOcc; rw [hocc])) (stp_put _ (clS id) (has_cl S2 id))⟩⟩
      rw [hnx]
      unfold Sv.hold
      rw [cl_eq]
      exact hS1.putCl hk _
    · have hd : decide ((j : Int) < (ids.length : Int)) = false := by simp; omega
      simp only [go_sem, hd, Try.results59]
      refine Wk.mask [0, 1] ⟨rfl, ?_, hT1⟩
      rw [List.take_of_length_le hge] at hS1
      exact hS1
  clear hS1 hT1
  rintro fr st ⟨rfl, hS1, hT1⟩
  obtain ⟨hil, hio⟩ := ho
  obtain ⟨hnl, hno⟩ := ho'
  rw [hids] at hil hio
  have hm2 : (holds S1 ids 1).occ = S.occ := (holds_occ _ _ _).trans hm
  have hq2 : (holds S1 ids 1).queue = S.queue := (holds_queue _ _ _).trans hqu
  have hok2 : ∀ id, okId (holds S1 ids 1) id ↔ okId S id := fun id => (holds_ok _ _ _ _).trans (hok1 id)
  have hcb2 := hcb1.holds (d := 1) (by omega) (ids := ids) (fun i hi => (hok1 _).2 (hio i hi).1)
  generalize holds S1 ids 1 = S2 at hS1 hm2 hq2 hok2 hcb2 h
  rw [hm2] at h
  generalize hids2 : S.occ.getD (code (-l)) [] = js at h hnl hno hq
  have w0 : IntKind.i64.wrap (0 - l) = -l := by have := hl; unfold LitV at this; rw [wrap64_id _ (by omega) (by omega)]; omega
  have hin := hS1.live (.inn (code (-l))) (by simp only [has]; rw [hm2]; exact hcn)
  simp only [go_sem, Try.results59]
  refine aw_plan (.take 0 <| .tk 2 4 <| .take 10 <| .pure 6 <| .tk 3 1 <| .tk 3 7 <| .done) (by kernel_rfl) ?_
  simp only [go_sem, w0, Try.results59]
  refine exP (dn (code (-l))) ⟨fun σ' => ?_, ?_⟩
  · simp only [go_sem, w0, Try.results59]
    exact ac' (code_ac (-l) (hl.neg.big hv) _ _ _ ⟨rfl, rfl⟩)
  simp only [go_sem, hS1.live .st, hS1.ob .st, hS1.live .occ, hS1.ob .occ, ct, hm2, List.length_map, List.length_range, occ_get _ hcn, innA, hids2, hin, Nat.mul_one, Try.results59]
  refine ⟨⟨by omega, by omega⟩, hcn, ?_⟩
  refine aw_loop (fun m fr st => ∃ (j : Nat) (I' : Sl → Nat), j ≤ js.length ∧ m = js.length - j ∧ fr = [.ref (I1 .st) 0, di l, .any, .any, .any, .any, .any, .any, .any, .any, .any, .any, .any, .any, .any, .any, .any, .any, .any, .any, .any, .any, .any, .any, .any, .any, .any, .any, .any, .any, .any, .any, .any, .any, .any, .any, .any, .any, .any, .any, .any, .any, .any, .any, .any, .any, .any, .any, .any, .any, .any, .any, .any, .any, .any, .any, .any, .any, .any, .any, .any, .any, .any, .any, .any, .any, .any, .any, .any, .any, .any, .any, .any, .any, .any, .any, .any, .any, .any, .any, .any, .any, .any, .any, .any, .any, .any, .any, .any, .any, .any, .any, .rs (I1 (.inn (code (-l)))) 1 0 js.length (some 3), dn js.length, dn j, .any, .any, .any, .any, .any, .any, .any, .any, .any, .any, .any, .any, .any, .any, .any, .any] ∧ (∀ s, s ≠ .queue → I' s = I1 s) ∧ Sol I' (seen S2 (js.take j)) st ∧ Stp Any I S σ I' st) js.length _
    (Wk.mask [0, 1, 92, 93, 94] ⟨0, I1, by omega, by omega, rfl, fun _ _ => rfl, hS1, hT1⟩) ?_
  clear hS1 hT1 hin
  rintro m fr st ⟨j, I2, hj, hm', rfl, hI2, hS1, hT1⟩
  have hocc : (seen S2 (js.take j)).occ = S.occ := (seen_occ _ _).trans hm2
  have hin := hS1.get (.inn (code (-l))) (by simp only [has]; rw [hocc]; exact hcn)
  rw [hI2 (.inn (code (-l))) (by intro e; cases e)] at hin
  simp only [ct, hocc, hids2] at hin
  rcases Nat.lt_or_ge j js.length with hlt | hge
  · have hd : decide ((j : Int) < (js.length : Int)) = true := by simp; omega
    have w2 := wrapS j (by omega)
    have hid := hno _ (getD_mem 0 hlt)
    have hk : okId (seen S2 (js.take j)) (js.getD j 0) := (seen_ok _ _ _).2 ((hok2 _).2 hid.1)
    have hcbj := hcb2.seen (ids := js.take j) (fun i hi => (hok2 _).2 (hno i (List.mem_of_mem_take hi)).1)
    have hqj := seen_queue (js.take j) S2
    rw [hq2] at hqj
    simp only [List.length_take] at hcbj hqj
    have hnx : seen S2 (js.take (j + 1)) = ((seen S2 (js.take j)).openD (js.getD j 0) (-1)).examine (js.getD j 0) := by rw [take_getD 0 hlt, seen_snoc]
    have hst2 := hI2 .st (by decide)
    rw [← hst2]
    simp only [go_sem, hd, live_of hin, objK_of hin, natsA_len, natsA_get hlt, w2, Nat.mul_one, Try.results59]
    refine ⟨⟨by omega, by omega⟩, hlt, ac' (at_ac hS1 _ hid.2 hk _ _ ?_)⟩
    generalize seen S2 (js.take j) = S3 at hS1 hk hcbj hqj hnx hocc
    have g0 := natsA_get hlt
    generalize js.getD j 0 = id at hk hnx hid g0
    have hc := hS1.get (clS id) (has_cl S3 id)
    rw [ct_cl] at hc
    have g1 := clsA_opn hk
    have g2 := clsA_setO ((S3.cl id).opn + -1) hk
    rw [← cl_eq] at g1
    have hcc := hcbj id hk
    have w3 : IntKind.i64.wrap ((S3.cl id).opn - 1) = (S3.cl id).opn + -1 := wrap64_id _ (by omega) (by omega)
    have hk' := hk
    unfold okId at hk'
    simp only [go_sem, live_of hc, objK_of hc, clsA_len, g0, g1, g2, w2, w3, Try.results59]
    refine ⟨by omega, by omega, ?_⟩
    have hS4 : Sol I2 (S3.openD id (-1)) (st.set (I2 (clS id)) (some (.cells (clsA ((clL S3 id).set (clI id) { (clL S3 id).getD (clI id) default with opn := (S3.cl id).opn + -1 }))))) := by
      unfold Sv.openD
      rw [cl_eq]
      exact hS1.putCl hk _
    have hT4 : Stp Any I S σ I2 (st.set (I2 (clS id)) (some (.cells (clsA ((clL S3 id).set (clI id) { (clL S3 id).getD (clI id) default with opn := (S3.cl id).opn + -1 }))))) := hT1.trans (SameOcc.has (by unfold SameOcc; rw [hocc])) (stp_put _ (clS id) (has_cl S3 id))
    generalize st.set (I2 (clS id)) (some (.cells (clsA ((clL S3 id).set (clI id) { (clL S3 id).getD (clI id) default with opn := (S3.cl id).opn + -1 })))) = st4 at hS4 hT4
    have hq4 : (S3.openD id (-1)).queue = S3.queue := rfl
    refine ac' (examine_ac hS4 id (okId_open.2 hk) hid.2 (by rw [hq4]; omega) _ _ fun r I5 σ5 hS5 hT5 => ?_)
    have hI5 : ∀ s, s ≠ .queue → I5 s = I2 s := fun s hs => by
      rcases hT5.ids s with e | e
      · exact e
      · exact absurd e.2 hs
    simp only [go_sem, w2, Try.results59]
    refine Wk.mask [0, 1, 92, 93, 94] ⟨js.length - (j + 1), by omega, j + 1, I5, by omega, rfl, by rw [hst2]; rfl, fun s hs => (hI5 s hs).trans (hI2 s hs), by rw [hnx]; exact hS5, hT4.trans (SameOcc.has (by unfold SameOcc; exact congrArg List.length hocc)) hT5.any⟩
  · have hd : decide ((j : Int) < (js.length : Int)) = false := by simp; omega
    rw [List.take_of_length_le hge] at hS1
    simp only [go_sem, hd, Try.results59]
    exact ⟨_, _, Weak.refl _ _ _ _, h _ _ hS1 hT1⟩
end Go.Proofs.Ytnanofipjiclfaa
end PartT6
