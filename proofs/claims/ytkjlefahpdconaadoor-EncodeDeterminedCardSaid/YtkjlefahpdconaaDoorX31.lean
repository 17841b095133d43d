import Derived.Test.YtkjlefahpdconaaDoorFacts
import Derived.Test.YtkjlefahpdconaaDoorAbRecover
import Derived.Test.YtkjlefahpdconaaDoorAbPure
import Derived.Test.YtkjlefahpdconaaDoorAbDeep
import Derived.Test.YtkjlefahpdconaaDoorAbMore
import Derived.Test.YtkjlefahpdconaaDoorAbFreeze
import Derived.Test.YtkjlefahpdconaaDoorRows
import Derived.Test.YtkjlefahpdconaaDoorAbRow
import Derived.Stop.Joined
import Derived.SevenTiedAt

section PartE1
/- Expressions, cells, conditions: what they are as data; plain functions. -/
set_option linter.unusedSimpArgs false
set_option linter.unusedVariables false
namespace Go.Proofs.YtkjlefahpdconaaDoor
open Go Go.Ab

theorem wrap64_id (x : Int) (h0 : -9223372036854775808 ≤ x) (h1 : x ≤ 9223372036854775807) : IntKind.i64.wrap x = x := by
  rw [IntKind.wrap_i64]; omega
theorem wrapS (j : Nat) (h : j < 9223372036854775807) : IntKind.i64.wrap ((j : Int) + 1) = ((j + 1 : Nat) : Int) := by
  rw [wrap64_id _ (by omega) (by omega)]; rfl
abbrev iD (n : Int) : D := .int .i64 n
abbrev di (n : Int) : A := .d (.int .i64 n)
abbrev dn (n : Nat) : A := .d (.int .i64 n)
abbrev db (b : Bool) : A := .d (.bool b)
def isD (l : List Int) : D := .sl 1 (l.map iD)
def clsD (c : List (List Int)) : D := .sl 1 (c.map isD)
def bsD (l : List Bool) : D := .sl 1 (l.map .bool)
/-- A machine's integer. -/
def I64 (x : Int) : Prop := -9223372036854775808 ≤ x ∧ x ≤ 9223372036854775807
theorem getD_mapD {α : Type} {f : α → D} {l : List α} {j : Nat} {d : α} (h : j < l.length) : List.getD (l.map f) j default = f (l.getD j d) := by
  rw [List.getD_eq_getElem?_getD, List.getElem?_map, List.getD_eq_getElem?_getD, List.getElem?_eq_getElem h]; rfl
theorem drop_getD {α : Type} {l : List α} {j : Nat} (d : α) (h : j < l.length) : l.drop j = l.getD j d :: l.drop (j + 1) := by
  rw [List.drop_eq_getElem_cons h, List.getD_eq_getElem?_getD, List.getElem?_eq_getElem h]; rfl
theorem getD_mem {α : Type} {l : List α} {j : Nat} (d : α) (h : j < l.length) : l.getD j d ∈ l := by
  rw [List.getD_eq_getElem?_getD, List.getElem?_eq_getElem h]; exact List.getElem_mem h

structure Cnf where
  vars : Int
  cls : List (List Int)
def cnfD (f : Cnf) : D := .agg [iD f.vars, clsD f.cls]
/-- Expressions. -/
inductive Ex where
  | mk (op w n : Int) (kids : List Ex)
namespace Ex
def op : Ex → Int | .mk o _ _ _ => o
def w : Ex → Int | .mk _ w _ _ => w
def n : Ex → Int | .mk _ _ n _ => n
def kids : Ex → List Ex | .mk _ _ _ k => k
mutual
def d : Ex → D
  | .mk o w n k => .agg [iD o, iD w, iD n, .sl 4 (ds k)]
def ds : List Ex → List D
  | [] => []
  | e :: r => e.d :: ds r
end
theorem ds_map : ∀ (l : List Ex), ds l = l.map d
  | [] => by simp [ds]
  | e :: r => by simp [ds, ds_map r]
theorem d_eq (e : Ex) : e.d = .agg [iD e.op, iD e.w, iD e.n, .sl 4 (e.kids.map d)] := by
  cases e; simp only [d, op, w, n, kids, ds_map]
theorem kid_lt {e k : Ex} (h : k ∈ e.kids) : SizeOf.sizeOf k < SizeOf.sizeOf e := by
  cases e with
  | mk o w n ks =>
    have := List.sizeOf_lt_of_mem h
    simp only [mk.sizeOf_spec, kids] at this ⊢
    have h1 : SizeOf.sizeOf k < SizeOf.sizeOf ks := this
    omega
mutual
/-- The nodes of an expression. -/
def nodes : Ex → Nat
  | .mk _ _ _ k => 1 + nodesL k
def nodesL : List Ex → Nat
  | [] => 0
  | e :: r => e.nodes + nodesL r
end
theorem nodesL_sum : ∀ (l : List Ex), nodesL l = (l.map nodes).sum
  | [] => rfl
  | e :: r => by simp [nodesL, nodesL_sum r]
theorem nodes_eq (e : Ex) : e.nodes = 1 + (e.kids.map nodes).sum := by
  cases e; simp only [nodes, kids, nodesL_sum]
def arity (o : Int) : Int := if 1 ≤ o ∧ o ≤ 3 then 0 else if o = 4 then 1 else if 5 ≤ o ∧ o ≤ 13 then 2 else if o = 14 then 3 else -1
def kw (e : Ex) (i : Nat) : Int := (e.kids.getD i (.mk 0 0 0 [])).w
/-- Do a node's fields fit together? -/
def fits (e : Ex) : Bool := decide (arity e.op = e.kids.length ∧ 1 ≤ e.w ∧ e.w ≤ 8) &&
  (if e.op = 1 then decide (0 ≤ e.n ∧ e.n < 2 ^ e.w.toNat)
   else if e.op = 2 ∨ e.op = 3 then decide (0 ≤ e.n ∧ e.n < 32)
   else if e.op = 4 then decide (e.n = 0 ∧ e.kw 0 = e.w)
   else if e.op = 11 ∨ e.op = 12 ∨ e.op = 13 then decide (e.n = 0 ∧ e.w = 1 ∧ e.kw 0 = e.kw 1)
   else if e.op = 14 then decide (e.n = 0 ∧ e.kw 0 = 1 ∧ e.kw 1 = e.w ∧ e.kw 2 = e.w)
   else decide (e.n = 0 ∧ e.kw 0 = e.w ∧ e.kw 1 = e.w))
def deep : Ex → Nat → Bool
  | _, 0 => false
  | e, l + 1 => e.fits && e.kids.all fun k => k.deep l
def formed (e : Ex) : Bool := decide (e.nodes ≤ 600) && e.deep 40
end Ex
/-- Cells: name, width, initial value, thread, ghost, module. -/
structure Cel where
  name : List UInt8
  w : Int
  init : Int
  thread : Int
  ghost : Bool
  mod : Int
def celD (c : Cel) : D := .agg [.str c.name, iD c.w, iD c.init, iD c.thread, .bool c.ghost, iD c.mod]
def celsD (l : List Cel) : D := .sl 6 (l.map celD)
end Go.Proofs.YtkjlefahpdconaaDoor
end PartE1

section PartE2
/- The reference of layer 6: powers, leaves, arities, nodes. -/
set_option linter.unusedSimpArgs false
set_option linter.unusedVariables false
set_option maxRecDepth 100000
namespace Go.Proofs.YtkjlefahpdconaaDoor
open Go Go.Ab

theorem pow_ac (n : Nat) (hn : n ≤ 60) (σ : St) (G : Glob) (R : A → St → Prop) (h : R (di (2 ^ n : Nat)) σ) : AC Tryd.prog G 19 [dn n] σ R := by
  refine ac_enter mixed Tryd.func19 rfl Tryd.ntmps19 (by simp only [go_sem]) fun hbd => ?_
  simp only [List.length_cons, List.length_nil, Nat.reduceAdd, Nat.reduceSub, List.replicate_succ, List.replicate_zero, List.cons_append, List.nil_append]
  simp only [go_sem]
  refine aw_loop (fun m fr st => ∃ j : Nat, j ≤ n ∧ m = n - j ∧ fr = [dn n, .any, .any, di (2 ^ j : Nat), dn j, .any, .any, .any, .any, .any, .any, .any, .any] ∧ st = σ) n _
    (Wk.mask [0, 3, 4] ⟨0, by omega, rfl, rfl, rfl⟩) ?_
  rintro m fr σ ⟨j, hj, hm, rfl, rfl⟩
  rcases Nat.lt_or_ge j n with hlt | hge
  · have hd : decide ((j : Int) < (n : Int)) = true := by simp; omega
    have w2 := wrapS j (by omega)
    have hp : (2 ^ j : Nat) ≤ 2 ^ 60 := Nat.pow_le_pow_right (by omega) (by omega)
    have w1 : IntKind.i64.wrap (((2 ^ j : Nat) : Int) * 2) = ((2 ^ (j + 1) : Nat) : Int) := by
      rw [Nat.pow_succ]
      generalize 2 ^ j = q at hp
      rw [wrap64_id _ (by omega) (by omega)]; omega
    simp only [go_sem, hd, w1, w2, Tryd.results19]
    exact Wk.mask [0, 3, 4] ⟨n - (j + 1), by omega, j + 1, hlt, rfl, rfl, rfl⟩
  · have hd : decide ((j : Int) < (n : Int)) = false := by simp; omega
    obtain rfl : j = n := by omega
    simp only [go_sem, hd, Tryd.results19]
    exact ret_d0 h
theorem arity_ac (o : Int) (σ : St) (G : Glob) (R : A → St → Prop) (h : R (di (Ex.arity o)) σ) : AC Tryd.prog G 88 [di o] σ R := by
  refine ac_enter mixed Tryd.func88 rfl Tryd.ntmps88 (by simp only [go_sem]) fun hbd => ?_
  simp only [List.length_cons, List.length_nil, Nat.reduceAdd, Nat.reduceSub, List.replicate_succ, List.replicate_zero, List.cons_append, List.nil_append]
  simp only [go_sem, Tryd.results88]
  simp only [Ex.arity] at h
  refine ⟨fun c1 => ret_d0 ?_, fun c1 => ⟨fun c2 => ret_d0 ?_, fun c2 => ⟨fun c3 => ret_d0 ?_, fun c3 => ⟨fun c4 => ret_d0 ?_, fun c4 => ret_d0 ?_⟩⟩⟩⟩ <;> simp at c1 <;> (try simp at c2) <;> (try simp at c3) <;> (try simp at c4)
  · rwa [if_pos (by omega)] at h
  · rwa [if_neg (by omega), if_pos (by omega)] at h
  · rwa [if_neg (by omega), if_neg (by omega), if_pos (by omega)] at h
  · rwa [if_neg (by omega), if_neg (by omega), if_neg (by omega), if_pos (by omega)] at h
  · rwa [if_neg (by omega), if_neg (by omega), if_neg (by omega), if_neg (by omega)] at h
theorem leaf_end {o n w : Int} {σ : St} {G : Glob} {R : A → St → Prop} {l : St} (hbd : Bd σ.length σ) (h : R (.d (Ex.mk o w n []).d) σ) : ∃ r σ', Weak G σ.length [.d (.agg [iD o, iD w, iD n, .nils])] (σ ++ l) [r] σ' ∧ R r σ' := by
  refine ⟨_, σ, (Weak.cut (Nat.le_refl _) hbd rfl).trans (Weak.nils ?_), h⟩
  rw [Ex.d_eq]
  repeat' first | exact NilAL.nil | apply NilAL.cons | exact NilA.refl _ | apply NilA.d | exact NilD.refl _ | exact NilD.nil _ | apply NilD.sl | apply NilD.agg | apply NilDL.cons | exact NilDL.nil
theorem const_ac (n w : Int) (σ : St) (G : Glob) (R : A → St → Prop) (h : R (.d (Ex.mk 1 w n []).d) σ) : AC Tryd.prog G 22 [di n, di w] σ R := by
  refine ac_enter mixed Tryd.func22 rfl Tryd.ntmps22 (by simp only [go_sem]) fun hbd => ?_
  simp only [List.length_cons, List.length_nil, Nat.reduceAdd, Nat.reduceSub, List.replicate_succ, List.replicate_zero, List.cons_append, List.nil_append]
  simp only [go_sem, Tryd.results22]
  exact leaf_end hbd h
theorem cell_ac (n w : Int) (σ : St) (G : Glob) (R : A → St → Prop) (h : R (.d (Ex.mk 2 w n []).d) σ) : AC Tryd.prog G 26 [di n, di w] σ R := by
  refine ac_enter mixed Tryd.func26 rfl Tryd.ntmps26 (by simp only [go_sem]) fun hbd => ?_
  simp only [List.length_cons, List.length_nil, Nat.reduceAdd, Nat.reduceSub, List.replicate_succ, List.replicate_zero, List.cons_append, List.nil_append]
  simp only [go_sem, Tryd.results26]
  exact leaf_end hbd h
theorem old_ac (n w : Int) (σ : St) (G : Glob) (R : A → St → Prop) (h : R (.d (Ex.mk 3 w n []).d) σ) : AC Tryd.prog G 27 [di n, di w] σ R := by
  refine ac_enter mixed Tryd.func27 rfl Tryd.ntmps27 (by simp only [go_sem]) fun hbd => ?_
  simp only [List.length_cons, List.length_nil, Nat.reduceAdd, Nat.reduceSub, List.replicate_succ, List.replicate_zero, List.cons_append, List.nil_append]
  simp only [go_sem, Tryd.results27]
  exact leaf_end hbd h
theorem kid_d {e : Ex} {i : Nat} (h : i < e.kids.length) : List.getD (e.kids.map Ex.d) i default = .agg [iD (e.kids.getD i (.mk 0 0 0 [])).op, iD (e.kw i), iD (e.kids.getD i (.mk 0 0 0 [])).n, .sl 4 ((e.kids.getD i (.mk 0 0 0 [])).kids.map Ex.d)] := by
  rw [getD_mapD (d := .mk 0 0 0 []) h, Ex.d_eq]; rfl
set_option maxHeartbeats 20000000 in
theorem node_ac (e : Ex) (hk : e.kids.length ≤ reachBytes) (σ : St) (G : Glob) (R : A → St → Prop) (h : R (db e.fits) σ) : AC Tryd.prog G 86 [.d e.d] σ R := by
  rw [Ex.d_eq]
  refine ac_enterC' [3] mixed Tryd.func86 rfl Tryd.ntmps86 (by simp only [go_sem]) fun hbd => ?_
  simp only [List.length_cons, List.length_nil, Nat.reduceAdd, Nat.reduceSub, List.replicate_succ, List.replicate_zero, List.cons_append, List.nil_append]
  simp only [go_sem]
  refine aw_cut (fun fr st => (Ex.arity e.op = e.kids.length ∧ 1 ≤ e.w ∧ e.w ≤ 8) ∧ fr = [.any, .ref σ.length 0, .any, .any, .any, .any, .any, .any, .any, .any, .any, .any, .any, .any, .any, .any, .any, .any, .any, .any, .any, .any, .any, .any, .any, .any, .any, .any, .any, .any, .any, .any, .any, .any, .any, .any, .any, .any, .any, .any, .any, .any, .any, .any, .any, .any, .any, .any, .any, .any, .any, .any, .any, .any, .any, .any, .any, .any, .any, .any, .any, .any, .any, .any, .any, .any, .any, .any, .any, .any, .any, .any, .any, .any, .any, .any, .any, .any, .any, .any, .any, .any, .any, .any, .any, .any, .any, .any, .any, .any, .any, .any, .any, .any, .any, .any, .any, .any, .any, .any, .any, .any, .any, .any, .any, .any, .any, .any, .any, .any, .any, .any, .any, .any, .any, .any, .any, .any, .any, .any, .any, .any, .any, .any, .any, .any, .any, .any, .any, .any, .any, .any, .any, .any, .any, .any, .any, .any, .any, .any, .any, .any] ∧ st = σ ++ [some (.cells [.d (iD e.op), .d (iD e.w), .d (iD e.n), .d (.sl 4 (e.kids.map Ex.d))])]) ?_ ?_
  · simp only [go_sem]
    refine aw_plan (.tk 2 0 <| .pure 2 <| .tk 14 3 <| .done) (by kernel_rfl) ?_
    simp only [go_sem]
    refine exP (di (Ex.arity e.op)) ⟨fun σ' => ac' (arity_ac _ _ _ _ ⟨rfl, rfl⟩), ?_⟩
    simp only [go_sem, List.length_map, Tryd.results86]
    refine ⟨fun c => ret_d hbd ?_, fun c => Wk.mask [1] ⟨?_, rfl, rfl⟩⟩
    · have : e.fits = false := by
        simp only [Ex.fits, Bool.and_eq_false_iff, decide_eq_false_iff_not]
        left
        rintro ⟨h1, h2, h3⟩
        simp [h1] at c
        omega
      rwa [this] at h
    · simp at c; omega
  · rintro fr st ⟨⟨ha, h1, h2⟩, rfl, rfl⟩
    have hop : 1 ≤ e.op ∧ e.op ≤ 14 := by
      unfold Ex.arity at ha
      split at ha
      · omega
      · split at ha
        · omega
        · split at ha
          · omega
          · split at ha <;> omega
    have hL : e.kids.length = (Ex.arity e.op).toNat := by omega
    by_cases o1 : e.op = 1
    · have b1 : (e.op == 1) = true := by simp [o1]
      obtain ⟨W, hW⟩ : ∃ W : Nat, e.w = W := ⟨e.w.toNat, by omega⟩
      simp only [go_sem, b1, Tryd.results86]
      refine aw_plan (.tk 4 0 <| .tk 2 6 <| .pure 8 <| .tk 2 4 <| .tk 3 9 <| .done) (by kernel_rfl) ?_
      simp only [go_sem, hW]
      refine exQ (iD (2 ^ W : Nat)) ⟨fun _ => ?_, ?_⟩
      · simp only [go_sem]
        refine ⟨by assumption, fun σ' => ac' (pow_ac W (by omega) _ _ _ ⟨rfl, rfl⟩)⟩
      simp only [go_sem, Tryd.results86]
      refine ret_d hbd ?_
      have : e.fits = (decide (0 ≤ e.n) && decide (e.n < ((2 ^ W : Nat) : Int))) := by
        have hd : decide (Ex.arity e.op = e.kids.length ∧ 1 ≤ e.w ∧ e.w ≤ 8) = true := by simp; omega
        rw [hW] at hd
        simp only [Ex.fits, hW, hd, Bool.true_and, if_pos o1, Int.toNat_natCast, Bool.decide_and]
        simp
      rw [this] at h
      exact h
    have b1 : (e.op == 1) = false := by simp [o1]
    have hd : decide (Ex.arity e.op = e.kids.length ∧ 1 ≤ e.w ∧ e.w ≤ 8) = true := by simp; omega
    by_cases o2 : e.op = 2 ∨ e.op = 3
    · have hf : e.fits = (decide (0 ≤ e.n) && decide (e.n < 32)) := by
        simp only [Ex.fits, hd, Bool.true_and, if_neg o1, if_pos o2, Bool.decide_and]
      rw [hf] at h
      rcases o2 with o2 | o2
      · have b2 : (e.op == 2) = true := by simp [o2]
        simp only [go_sem, b1, b2, Tryd.results86]
        exact ret_d hbd h
      · have b2 : (e.op == 2) = false := by simp [o2]
        have b3 : (e.op == 3) = true := by simp [o2]
        simp only [go_sem, b1, b2, b3, Tryd.results86]
        exact ret_d hbd h
    have b2 : (e.op == 2) = false := by simp; omega
    have b3 : (e.op == 3) = false := by simp; omega
    by_cases o4 : e.op = 4
    · have b4 : (e.op == 4) = true := by simp [o4]
      have hl : e.kids.length = 1 := by rw [hL, o4]; rfl
      have k0 := kid_d (e := e) (i := 0) (by omega)
      have hf : e.fits = (e.n == 0 && e.kw 0 == e.w) := by
        simp only [Ex.fits, hd, Bool.true_and, if_neg o1, if_neg o2, if_pos o4, Bool.decide_and]; rfl
      rw [hf] at h
      simp only [go_sem, b1, b2, b3, b4, Tryd.results86]
      refine aw_plan (.tk 14 0 <| .done) (by kernel_rfl) ?_
      simp only [go_sem, List.length_map, hl, k0, Int.toNat_zero, Tryd.results86]
      exact ⟨fun q => ⟨q, by omega, by omega⟩, ret_d hbd h⟩
    have b4 : (e.op == 4) = false := by simp [o4]
    by_cases o11 : e.op = 11 ∨ e.op = 12 ∨ e.op = 13
    · have hl : e.kids.length = 2 := by rw [hL]; rcases o11 with o | o | o <;> rw [o] <;> rfl
      have k0 := kid_d (e := e) (i := 0) (by omega)
      have k1 := kid_d (e := e) (i := 1) (by omega)
      have hf : e.fits = (e.n == 0 && (e.w == 1 && e.kw 0 == e.kw 1)) := by
        simp only [Ex.fits, hd, Bool.true_and, if_neg o1, if_neg o2, if_neg o4, if_pos o11, Bool.decide_and]; rfl
      rw [hf, ← Bool.and_assoc] at h
      rcases o11 with o | o | o <;>
      · simp only [go_sem, o, Int.reduceBEq, Tryd.results86]
        refine aw_plan (.tk 22 0 <| .done) (by kernel_rfl) ?_
        simp only [go_sem, List.length_map, hl, k0, k1, Int.toNat_zero, Int.toNat_one, Tryd.results86]
        exact ⟨fun q => ⟨q, by omega, by omega⟩, fun q => ⟨q, by omega, by omega⟩, ret_d hbd h⟩
    have b11 : (e.op == 11) = false := by simp; omega
    have b12 : (e.op == 12) = false := by simp; omega
    have b13 : (e.op == 13) = false := by simp; omega
    by_cases o14 : e.op = 14
    · have hl : e.kids.length = 3 := by rw [hL, o14]; rfl
      have k0 := kid_d (e := e) (i := 0) (by omega)
      have k1 := kid_d (e := e) (i := 1) (by omega)
      have k2 := kid_d (e := e) (i := 2) (by omega)
      have b14 : (e.op == 14) = true := by simp [o14]
      have hf : e.fits = (e.n == 0 && (e.kw 0 == 1 && (e.kw 1 == e.w && e.kw 2 == e.w))) := by
        simp only [Ex.fits, hd, Bool.true_and, if_neg o1, if_neg o2, if_neg o4, if_neg o11, if_pos o14, Bool.decide_and]; rfl
      rw [hf, ← Bool.and_assoc, ← Bool.and_assoc] at h
      simp only [go_sem, b1, b2, b3, b4, b11, b12, b13, b14, Tryd.results86]
      refine aw_plan (.tk 32 0 <| .done) (by kernel_rfl) ?_
      simp only [go_sem, List.length_map, hl, k0, k1, k2, Int.toNat_zero, Int.toNat_one, show Int.toNat 2 = 2 from rfl, Tryd.results86]
      exact ⟨fun q => ⟨q, by omega, by omega⟩, fun q => ⟨q, by omega, by omega⟩, fun q => ⟨q, by omega, by omega⟩, ret_d hbd h⟩
    · have b14 : (e.op == 14) = false := by simp [o14]
      have hl : e.kids.length = 2 := by
        rw [hL]
        have : Ex.arity e.op = 2 := by simp only [Ex.arity]; rw [if_neg (by omega), if_neg (by omega), if_pos (by omega)]
        rw [this]; rfl
      have k0 := kid_d (e := e) (i := 0) (by omega)
      have k1 := kid_d (e := e) (i := 1) (by omega)
      have hf : e.fits = (e.n == 0 && (e.kw 0 == e.w && e.kw 1 == e.w)) := by
        simp only [Ex.fits, hd, Bool.true_and, if_neg o1, if_neg o2, if_neg o4, if_neg o11, if_neg o14, Bool.decide_and]; rfl
      rw [hf, ← Bool.and_assoc] at h
      simp only [go_sem, b1, b2, b3, b4, b11, b12, b13, b14, Tryd.results86]
      refine aw_plan (.tk 24 0 <| .done) (by kernel_rfl) ?_
      simp only [go_sem, List.length_map, hl, k0, k1, Int.toNat_zero, Int.toNat_one, Tryd.results86]
      exact ⟨fun q => ⟨q, by omega, by omega⟩, fun q => ⟨q, by omega, by omega⟩, ret_d hbd h⟩
end Go.Proofs.YtkjlefahpdconaaDoor
end PartE2

section PartE3
/- The reference of layer 6: size, depth, well-formedness. -/
set_option linter.unusedSimpArgs false
set_option linter.unusedVariables false
set_option maxRecDepth 100000
namespace Go.Proofs.YtkjlefahpdconaaDoor
open Go Go.Ab

/-- Expressions of a reasonable size. -/
inductive Ex.Ok : Ex → Prop where
  | mk {e : Ex} (h : e.kids.length ≤ reachBytes) (hk : ∀ k ∈ e.kids, Ex.Ok k) : Ex.Ok e
theorem kid_mem {e : Ex} {j : Nat} (h : j < e.kids.length) : e.kids.getD j (.mk 0 0 0 []) ∈ e.kids := getD_mem _ h
theorem take_sum {l : List Ex} {j : Nat} (h : j < l.length) : ((l.take (j + 1)).map Ex.nodes).sum = ((l.take j).map Ex.nodes).sum + (l.getD j (.mk 0 0 0 [])).nodes := by
  rw [List.take_add_one, List.getElem?_eq_getElem h, List.getD_eq_getElem?_getD, List.getElem?_eq_getElem h, List.map_append, List.sum_append]
  simp
theorem kid_at {e k : Ex} {j : Nat} (h : j < e.kids.length) (hk : e.kids.getD j (.mk 0 0 0 []) = k) : List.getD (e.kids.map Ex.d) j default = .agg [iD k.op, iD k.w, iD k.n, .sl 4 (k.kids.map Ex.d)] := by
  rw [getD_mapD (d := .mk 0 0 0 []) h, hk, Ex.d_eq]
theorem take_le {l : List Ex} (j : Nat) : ((l.take j).map Ex.nodes).sum ≤ (l.map Ex.nodes).sum := by
  conv => rhs; rw [← List.take_append_drop j l]
  rw [List.map_append, List.sum_append]; omega
theorem size_ac (e : Ex) (hok : e.Ok) : ∀ (L : Nat) (hL : L ≤ 100000) (σ : St) (G : Glob) (R : A → St → Prop) (h : R (dn (min e.nodes L)) σ), AC Tryd.prog G 62 [.d e.d, dn L] σ R := by
  induction hok with
  | mk hk hks ih =>
  rename_i e
  intro L hL σ G R h
  rw [Ex.d_eq]
  refine ac_enter mixed Tryd.func62 rfl Tryd.ntmps62 (by simp only [go_sem]) fun hbd => ?_
  simp only [List.length_cons, List.length_nil, Nat.reduceAdd, Nat.reduceSub, List.replicate_succ, List.replicate_zero, List.cons_append, List.nil_append]
  simp only [go_sem, Tryd.results62]
  refine ⟨fun c => ret_d hbd ?_, fun c => ?_⟩
  · simp at c
    rw [show min e.nodes L = 0 by omega] at h
    exact h
  simp at c
  refine aw_loop (fun m fr st => ∃ j n : Nat, j ≤ e.kids.length ∧ m = e.kids.length - j ∧ n = min (1 + ((e.kids.take j).map Ex.nodes).sum) L ∧
    fr = [.any, dn L, .ref σ.length 0, .any, .any, dn n, dn j, .any, .any, .any, .any, .any, .any, .any, .any, .any, .any, .any, .any, .any, .any, .any, .any, .any, .any, .any, .any, .any, .any, .any, .any, .any, .any] ∧ st = σ ++ [some (.cells [.d (iD e.op), .d (iD e.w), .d (iD e.n), .d (.sl 4 (e.kids.map Ex.d))])]) e.kids.length _
    (Wk.mask [1, 2, 5, 6] ⟨0, 1, by omega, rfl, by simp; omega, rfl, rfl⟩) ?_
  rintro m fr st ⟨j, n, hj, hm, hn, rfl, rfl⟩
  have ht := take_le (l := e.kids) j
  have hnd := e.nodes_eq
  rcases Nat.lt_or_ge j e.kids.length with hlt | hge
  · have hd : decide ((j : Int) < (e.kids.length : Int)) = true := by simp; omega
    have hs := take_sum hlt
    rcases Nat.lt_or_ge n L with hnl | hnl
    · have hd2 : decide ((n : Int) < (L : Int)) = true := by simp; omega
      obtain ⟨k, hkk⟩ : ∃ k, e.kids.getD j (.mk 0 0 0 []) = k := ⟨_, rfl⟩
      have hmem : k ∈ e.kids := hkk ▸ kid_mem hlt
      have e1 := kid_at hlt hkk
      rw [hkk] at hs
      have w1 : IntKind.i64.wrap ((L : Int) - n) = ((L - n : Nat) : Int) := by rw [wrap64_id _ (by omega) (by omega)]; omega
      have w2 := wrapS j (by simp only [reachBytes] at hk; omega)
      simp only [go_sem, List.length_map, hd, hd2, e1, w1, Tryd.results62]
      rw [← Ex.d_eq k]
      refine ⟨⟨by omega, by omega⟩, ac' (ih k hmem (L - n) (by omega) _ _ _ ?_)⟩
      have w3 : IntKind.i64.wrap ((n : Int) + (min k.nodes (L - n) : Nat)) = ((n + min k.nodes (L - n) : Nat) : Int) := by rw [wrap64_id _ (by omega) (by omega)]; omega
      simp only [go_sem, w2, w3, Tryd.results62]
      exact Wk.keep [1, 2, 5, 6] [0] (by decide) (Nat.le_refl _) hbd ⟨e.kids.length - (j + 1), by omega, j + 1, n + min k.nodes (L - n), hlt, rfl, by omega, by simp only [go_sem], by simp only [go_sem]⟩
    · have hd2 : decide ((n : Int) < (L : Int)) = false := by simp; omega
      simp only [go_sem, List.length_map, hd, hd2, Tryd.results62]
      refine ret_d hbd ?_
      rw [show min e.nodes L = n by omega] at h
      exact h
  · have hd : decide ((j : Int) < (e.kids.length : Int)) = false := by simp; omega
    simp only [go_sem, List.length_map, hd, Tryd.results62]
    refine ret_d hbd ?_
    rw [List.take_of_length_le hge] at hn
    rw [show min e.nodes L = n by omega] at h
    exact h
theorem deep_ac (l : Nat) : ∀ (e : Ex) (hok : e.Ok) (hl : l ≤ 1000) (σ : St) (G : Glob) (R : A → St → Prop) (h : R (db (e.deep l)) σ), AC Tryd.prog G 82 [.d e.d, dn l] σ R := by
  induction l with
  | zero =>
    intro e hok hl σ G R h
    rw [Ex.d_eq]
    refine ac_enter mixed Tryd.func82 rfl Tryd.ntmps82 (by simp only [go_sem]) fun hbd => ?_
    simp only [List.length_cons, List.length_nil, Nat.reduceAdd, Nat.reduceSub, List.replicate_succ, List.replicate_zero, List.cons_append, List.nil_append]
    have d1 : decide (((0 : Nat) : Int) < 1) = true := by decide
    simp only [go_sem, d1]
    refine ex' (.bool true) ⟨fun hc => Bool.noConfusion hc, ?_⟩
    simp only [go_sem, Tryd.results82]
    exact ret_d hbd h
  | succ l ih =>
    intro e hok hl σ G R h
    obtain ⟨hk, hks⟩ := hok
    rw [Ex.d_eq]
    refine ac_enterC [3] mixed Tryd.func82 rfl Tryd.ntmps82 (by simp only [go_sem]) fun hbd => ?_
    simp only [List.length_cons, List.length_nil, Nat.reduceAdd, Nat.reduceSub, List.replicate_succ, List.replicate_zero, List.cons_append, List.nil_append]
    have d1 : decide (((l + 1 : Nat) : Int) < 1) = false := by simp; omega
    simp only [go_sem]
    refine aw_cut (fun fr st => e.fits = true ∧ fr = [.any, dn (l + 1), .ref σ.length 0, .any, .any, .any, .any, .any, .any, .any, .any, .any, .any, .any, .any, .any, .any, .any, .any, .any, .any, .any, .any, .any, .any, .any, .any, .any, .any] ∧ st = σ ++ [some (.cells [.d (iD e.op), .d (iD e.w), .d (iD e.n), .d (.sl 4 (e.kids.map Ex.d))])]) ?_ ?_
    · simp only [go_sem, d1]
      refine ex' (.bool e.fits) ⟨fun hc => ?_, ?_⟩
      · simp only [go_sem]
        rw [← Ex.d_eq e]
        exact ac' (node_ac e hk _ _ _ ⟨rfl, rfl⟩)
      simp only [go_sem, Tryd.results82]
      refine ⟨fun c => ret_d hbd ?_, fun c => Wk.mask [1, 2] ⟨by simpa using c, rfl, rfl⟩⟩
      simp only [Ex.deep] at h
      rw [show e.fits = false by simpa using c] at h
      exact h
    · rintro fr st ⟨hf, rfl, rfl⟩
      simp only [Ex.deep, hf, Bool.true_and] at h
      simp only [go_sem]
      refine aw_loop (fun m fr st => ∃ j : Nat, j ≤ e.kids.length ∧ m = e.kids.length - j ∧ R (db ((e.kids.drop j).all fun k => k.deep l)) σ ∧
        fr = [.any, dn (l + 1), .ref σ.length 0, .any, .any, dn j, .any, .any, .any, .any, .any, .any, .any, .any, .any, .any, .any, .any, .any, .any, .any, .any, .any, .any, .any, .any, .any, .any, .any] ∧ st = σ ++ [some (.cells [.d (iD e.op), .d (iD e.w), .d (iD e.n), .d (.sl 4 (e.kids.map Ex.d))])]) e.kids.length _
        (Wk.mask [1, 2, 5] ⟨0, by omega, rfl, h, rfl, rfl⟩) ?_
      rintro m fr st ⟨j, hj, hm, hR, rfl, rfl⟩
      rcases Nat.lt_or_ge j e.kids.length with hlt | hge
      · have hd : decide ((j : Int) < (e.kids.length : Int)) = true := by simp; omega
        obtain ⟨k, hkk⟩ : ∃ k, e.kids.getD j (.mk 0 0 0 []) = k := ⟨_, rfl⟩
        have hmem : k ∈ e.kids := hkk ▸ kid_mem hlt
        have e1 := kid_at hlt hkk
        have w1 : IntKind.i64.wrap (((l + 1 : Nat) : Int) - 1) = (l : Int) := by rw [wrap64_id _ (by omega) (by omega)]; omega
        have w2 := wrapS j (by simp only [reachBytes] at hk; omega)
        rw [drop_getD (.mk 0 0 0 []) hlt, hkk, List.all_cons] at hR
        simp only [go_sem, List.length_map, hd, e1, w1, Tryd.results82]
        rw [← Ex.d_eq k]
        refine ⟨⟨by omega, by omega⟩, ac' (ih k (hks k hmem) (by omega) _ _ _ ?_)⟩
        simp only [go_sem, w2, Tryd.results82]
        refine ⟨fun c => ret_d hbd ?_, fun c => Wk.mask [1, 2, 5] ⟨e.kids.length - (j + 1), by omega, j + 1, hlt, rfl, ?_, rfl, rfl⟩⟩
        · rw [show k.deep l = false by simpa using c] at hR; exact hR
        · rw [show k.deep l = true by simpa using c] at hR; exact hR
      · have hd : decide ((j : Int) < (e.kids.length : Int)) = false := by simp; omega
        simp only [go_sem, List.length_map, hd, Tryd.results82]
        rw [List.drop_eq_nil_of_le hge] at hR
        exact ret_d hbd hR
theorem small_ac (e : Ex) (hok : e.Ok) (L : Nat) (hL : L ≤ 1000) (σ : St) (G : Glob) (R : A → St → Prop) (h : R (db (decide (e.nodes ≤ L))) σ) : AC Tryd.prog G 47 [.d e.d, dn L] σ R := by
  rw [Ex.d_eq]
  refine ac_enter mixed Tryd.func47 rfl Tryd.ntmps47 (by simp only [go_sem]) fun hbd => ?_
  simp only [List.length_cons, List.length_nil, Nat.reduceAdd, Nat.reduceSub, List.replicate_succ, List.replicate_zero, List.cons_append, List.nil_append]
  have w2 := wrapS L (by omega)
  simp only [go_sem, w2]
  rw [← Ex.d_eq e]
  refine ac' (size_ac e hok (L + 1) (by omega) _ _ _ ?_)
  simp only [go_sem, Tryd.results47]
  refine ret_d hbd ?_
  have : decide (((min e.nodes (L + 1) : Nat) : Int) ≤ (L : Int)) = decide (e.nodes ≤ L) := by
    apply decide_eq_decide.2; omega
  rw [this]; exact h
theorem formed_ac (e : Ex) (hok : e.Ok) (σ : St) (G : Glob) (R : A → St → Prop) (h : R (db e.formed) σ) : AC Tryd.prog G 55 [.d e.d] σ R := by
  rw [Ex.d_eq]
  refine ac_enter mixed Tryd.func55 rfl Tryd.ntmps55 (by simp only [go_sem]) fun hbd => ?_
  simp only [List.length_cons, List.length_nil, Nat.reduceAdd, Nat.reduceSub, List.replicate_succ, List.replicate_zero, List.cons_append, List.nil_append]
  simp only [go_sem]
  rw [← Ex.d_eq e]
  refine ac' (size_ac e hok 601 (by omega) _ _ _ ?_)
  have : decide (((min e.nodes 601 : Nat) : Int) ≤ 600) = decide (e.nodes ≤ 600) := by
    apply decide_eq_decide.2; omega
  simp only [go_sem, this]
  refine ex' (.bool (e.deep 40)) ⟨fun hc => ?_, ?_⟩
  · simp only [go_sem]
    rw [← Ex.d_eq e]
    refine ⟨by assumption, ac' (deep_ac 40 e hok (by omega) _ _ _ ?_)⟩
    exact ⟨rfl, rfl⟩
  simp only [go_sem, Tryd.results55]
  exact ret_d hbd h
end Go.Proofs.YtkjlefahpdconaaDoor
end PartE3

section PartE4
/- The reference of layer 6: expressions over cells. -/
set_option linter.unusedSimpArgs false
set_option linter.unusedVariables false
set_option maxRecDepth 100000
namespace Go.Proofs.YtkjlefahpdconaaDoor
open Go Go.Ab

def cel0 : Cel := ⟨[], 0, 0, 0, false, 0⟩
/-- Is a node over the cells? -/
def Ex.overN (cells : List Cel) (pair : Bool) (e : Ex) : Bool := !(e.op == 3 && !pair) && !((e.op == 3 || e.op == 2) && (decide ((cells.length : Int) ≤ e.n) || (cells.getD e.n.toNat cel0).w != e.w))
mutual
def Ex.over (cells : List Cel) (pair : Bool) : Ex → Bool
  | .mk o w n k => (Ex.mk o w n k).overN cells pair && overL cells pair k
def overL (cells : List Cel) (pair : Bool) : List Ex → Bool
  | [] => true
  | e :: r => e.over cells pair && overL cells pair r
end
theorem overL_all (cells : List Cel) (pair : Bool) : ∀ (l : List Ex), overL cells pair l = l.all fun e => e.over cells pair
  | [] => rfl
  | e :: r => by simp [overL, overL_all cells pair r]
theorem Ex.over_eq (cells : List Cel) (pair : Bool) (e : Ex) : e.over cells pair = (e.overN cells pair && e.kids.all fun k => k.over cells pair) := by
  cases e; simp only [Ex.over, Ex.kids, overL_all]
theorem celD_at {l : List Cel} {j : Nat} (h : j < l.length) : List.getD (l.map celD) j default = celD (l.getD j cel0) := getD_mapD h
theorem fits_n {e : Ex} (h : e.fits = true) : 0 ≤ e.n := by
  simp only [Ex.fits, Bool.and_eq_true, decide_eq_true_eq] at h
  obtain ⟨-, h⟩ := h
  split at h
  · simp at h; exact h.1
  · split at h
    · simp at h; exact h.1
    · split at h
      · simp at h; omega
      · split at h
        · simp at h; omega
        · split at h
          · simp at h; omega
          · simp at h; omega
theorem deep_kid {e k : Ex} {l : Nat} (h : e.deep (l + 1) = true) (hk : k ∈ e.kids) : k.deep l = true := by
  simp only [Ex.deep, Bool.and_eq_true, List.all_eq_true] at h
  exact h.2 k hk
theorem over_ac (cells : List Cel) (hc : cells.length ≤ reachBytes) (pair : Bool) (l : Nat) : ∀ (e : Ex) (hok : e.Ok) (hd : e.deep l = true) (σ : St) (G : Glob) (R : A → St → Prop) (h : R (db (e.over cells pair)) σ), AC Tryd.prog G 63 [.d e.d, .d (celsD cells), db pair] σ R := by
  induction l with
  | zero => intro e hok hd; simp [Ex.deep] at hd
  | succ l ih =>
    intro e hok hdp σ G R h
    obtain ⟨hk, hks⟩ := hok
    have hkd : ∀ k ∈ e.kids, k.deep l = true := fun k hk => deep_kid hdp hk
    have hn : 0 ≤ e.n := by
      simp only [Ex.deep, Bool.and_eq_true] at hdp
      exact fits_n hdp.1
    rw [Ex.d_eq]
    refine ac_enterC' [5] mixed Tryd.func63 rfl Tryd.ntmps63 (by simp only [go_sem]) fun hbd => ?_
    simp only [List.length_cons, List.length_nil, Nat.reduceAdd, Nat.reduceSub, List.replicate_succ, List.replicate_zero, List.cons_append, List.nil_append]
    simp only [celsD, go_sem, Tryd.results63]
    refine ⟨fun c => ret_d hbd ?_, fun c => ?_⟩
    · rw [Ex.over_eq, Ex.overN, c] at h; exact h
    refine aw_cut (fun fr st => e.overN cells pair = true ∧ fr = [.any, .d (.sl 6 (cells.map celD)), db pair, .ref σ.length 0, .any, .any, .any, .any, .any, .any, .any, .any, .any, .any, .any, .any, .any, .any, .any, .any, .any, .any, .any, .any, .any, .any, .any, .any, .any, .any, .any, .any, .any, .any, .any, .any, .any, .any, .any, .any, .any, .any, .any, .any, .any, .any, .any, .any, .any, .any, .any, .any, .any, .any, .any, .any, .any] ∧ st = σ ++ [some (.cells [.d (iD e.op), .d (iD e.w), .d (iD e.n), .d (.sl 4 (e.kids.map Ex.d))])]) ?_ ?_
    · simp only [go_sem]
      refine aw_plan (.tk 26 0 <| .done) (by kernel_rfl) ?_
      rcases Int.lt_or_le e.n cells.length with hlt | hge
      · have d1 : decide ((cells.length : Int) ≤ e.n) = false := by simp; omega
        have e1 := celD_at (l := cells) (j := e.n.toNat) (by omega)
        simp only [celD] at e1
        simp only [go_sem, List.length_map, d1, e1, Tryd.results63]
        have ho : e.overN cells pair = !((e.op == 3 || e.op == 2) && (cells.getD e.n.toNat cel0).w != e.w) := by simp only [Ex.overN, c, d1, Bool.false_or, Bool.not_false, Bool.true_and]
        refine ⟨fun q => ⟨q, by omega, by omega⟩, fun c2 => ret_d hbd ?_, fun c2 => Wk.mask [1, 2, 3] ⟨by rw [ho, c2]; rfl, rfl, rfl⟩⟩
        rw [Ex.over_eq, ho, c2] at h; exact h
      · have d1 : decide ((cells.length : Int) ≤ e.n) = true := by simp; omega
        simp only [go_sem, List.length_map, d1, Tryd.results63]
        have ho : e.overN cells pair = !(e.op == 3 || e.op == 2) := by simp only [Ex.overN, c, d1, Bool.true_or, Bool.not_false, Bool.true_and, Bool.and_true]
        refine ⟨fun c2 => ret_d hbd ?_, fun c2 => Wk.mask [1, 2, 3] ⟨by rw [ho, c2]; rfl, rfl, rfl⟩⟩
        rw [Ex.over_eq, ho, c2] at h; exact h
    · rintro fr st ⟨hf, rfl, rfl⟩
      rw [Ex.over_eq, hf, Bool.true_and] at h
      simp only [go_sem]
      refine aw_loop (fun m fr st => ∃ j : Nat, j ≤ e.kids.length ∧ m = e.kids.length - j ∧ R (db ((e.kids.drop j).all fun k => k.over cells pair)) σ ∧
        fr = [.any, .d (.sl 6 (cells.map celD)), db pair, .ref σ.length 0, .any, .any, .any, dn j, .any, .any, .any, .any, .any, .any, .any, .any, .any, .any, .any, .any, .any, .any, .any, .any, .any, .any, .any, .any, .any, .any, .any, .any, .any, .any, .any, .any, .any, .any, .any, .any, .any, .any, .any, .any, .any, .any, .any, .any, .any, .any, .any, .any, .any, .any, .any, .any, .any] ∧ st = σ ++ [some (.cells [.d (iD e.op), .d (iD e.w), .d (iD e.n), .d (.sl 4 (e.kids.map Ex.d))])]) e.kids.length _
        (Wk.mask [1, 2, 3, 7] ⟨0, by omega, rfl, h, rfl, rfl⟩) ?_
      rintro m fr st ⟨j, hj, hm, hR, rfl, rfl⟩
      rcases Nat.lt_or_ge j e.kids.length with hlt | hge
      · have hd : decide ((j : Int) < (e.kids.length : Int)) = true := by simp; omega
        obtain ⟨k, hkk⟩ : ∃ k, e.kids.getD j (.mk 0 0 0 []) = k := ⟨_, rfl⟩
        have hmem : k ∈ e.kids := hkk ▸ kid_mem hlt
        have e1 := kid_at hlt hkk
        have w2 := wrapS j (by simp only [reachBytes] at hk; omega)
        rw [drop_getD (.mk 0 0 0 []) hlt, hkk, List.all_cons] at hR
        simp only [go_sem, List.length_map, hd, e1, Tryd.results63]
        rw [← Ex.d_eq k]
        refine ⟨⟨by omega, by omega⟩, ac' (ih k (hks k hmem) (hkd k hmem) _ _ _ ?_)⟩
        simp only [go_sem, w2, Tryd.results63]
        refine ⟨fun c => ret_d hbd ?_, fun c => Wk.mask [1, 2, 3, 7] ⟨e.kids.length - (j + 1), by omega, j + 1, hlt, rfl, ?_, rfl, rfl⟩⟩
        · rw [show k.over cells pair = false by simpa using c] at hR; exact hR
        · rw [show k.over cells pair = true by simpa using c] at hR; exact hR
      · have hd : decide ((j : Int) < (e.kids.length : Int)) = false := by simp; omega
        simp only [go_sem, List.length_map, hd, Tryd.results63]
        rw [List.drop_eq_nil_of_le hge] at hR
        exact ret_d hbd hR
theorem rvalid_ac (e : Ex) (hok : e.Ok) (cells : List Cel) (hc : cells.length ≤ reachBytes) (pair : Bool) (σ : St) (G : Glob) (R : A → St → Prop) (h : R (db (e.formed && e.over cells pair)) σ) : AC Tryd.prog G 48 [.d e.d, .d (celsD cells), db pair] σ R := by
  rw [Ex.d_eq]
  refine ac_enter mixed Tryd.func48 rfl Tryd.ntmps48 (by simp only [go_sem]) fun hbd => ?_
  simp only [List.length_cons, List.length_nil, Nat.reduceAdd, Nat.reduceSub, List.replicate_succ, List.replicate_zero, List.cons_append, List.nil_append]
  simp only [go_sem]
  rw [← Ex.d_eq e]
  refine ac' (formed_ac e hok _ _ _ ?_)
  simp only [go_sem]
  refine ex' (.bool (e.over cells pair)) ⟨fun hc' => ?_, ?_⟩
  · simp only [go_sem]
    rw [← Ex.d_eq e]
    have hf : e.formed = true := by assumption
    refine ⟨hf, ac' (over_ac cells hc pair 40 e hok ?_ _ _ _ ?_)⟩
    · simp only [Ex.formed, Bool.and_eq_true] at hf; exact hf.2
    · exact ⟨rfl, rfl⟩
  simp only [go_sem, Tryd.results48]
  exact ret_d hbd h
end Go.Proofs.YtkjlefahpdconaaDoor
end PartE4

section PartE5
/- Conditions: small ones, encodable ones. -/
set_option linter.unusedSimpArgs false
set_option linter.unusedVariables false
set_option maxRecDepth 100000
namespace Go.Proofs.YtkjlefahpdconaaDoor
open Go Go.Ab

structure Cnd where
  id : List UInt8
  kind : Int
  mod : Int
  thread : Int
  item : Int
  other : Int
  hyp : Ex
  goal : Ex
def cndD (c : Cnd) : D := .agg [.str c.id, iD c.kind, iD c.mod, iD c.thread, iD c.item, iD c.other, iD c.hyp.op, iD c.hyp.w, iD c.hyp.n, .sl 4 (c.hyp.kids.map Ex.d), iD c.goal.op, iD c.goal.w, iD c.goal.n, .sl 4 (c.goal.kids.map Ex.d)]
structure Cnd.Ok (c : Cnd) : Prop where
  hyp : c.hyp.Ok
  goal : c.goal.Ok
def smallR (cells : List Cel) (c : Cnd) (L : Nat) : Bool := decide ((cells.length : Int) ≤ 40) && decide (c.hyp.nodes ≤ L) && decide (c.goal.nodes ≤ L)
def encR (cells : List Cel) (c : Cnd) : Bool := decide ((cells.length : Int) ≤ 32) && (c.hyp.formed && c.hyp.over cells true) && (c.goal.formed && c.goal.over cells true) && c.hyp.w == 1 && c.goal.w == 1
theorem rsmall_ac (cells : List Cel) (hc : cells.length ≤ reachBytes) (c : Cnd) (hok : c.Ok) (L : Nat) (hL : L ≤ 1000) (σ : St) (G : Glob) (R : A → St → Prop) (h : R (db (smallR cells c L)) σ) : AC Tryd.prog G 30 [.d (celsD cells), .d (cndD c), dn L] σ R := by
  refine ac_enter mixed Tryd.func30 rfl Tryd.ntmps30 (by simp only [go_sem]) fun hbd => ?_
  simp only [List.length_cons, List.length_nil, Nat.reduceAdd, Nat.reduceSub, List.replicate_succ, List.replicate_zero, List.cons_append, List.nil_append]
  simp only [celsD, cndD, go_sem, List.length_map]
  refine ex' (.bool (decide (c.hyp.nodes ≤ L))) ⟨fun q => ?_, ?_⟩
  · simp only [go_sem]
    rw [← Ex.d_eq]
    refine ⟨by assumption, ac' (small_ac c.hyp hok.hyp L hL _ _ _ ?_)⟩
    exact ⟨rfl, rfl⟩
  simp only [go_sem]
  refine ex' (.bool (decide (c.goal.nodes ≤ L))) ⟨fun q => ?_, ?_⟩
  · simp only [go_sem]
    rw [← Ex.d_eq]
    refine ⟨by assumption, ac' (small_ac c.goal hok.goal L hL _ _ _ ?_)⟩
    exact ⟨rfl, rfl⟩
  simp only [go_sem, Tryd.results30]
  exact ret_d hbd h
theorem renc_ac (cells : List Cel) (hc : cells.length ≤ reachBytes) (c : Cnd) (hok : c.Ok) (σ : St) (G : Glob) (R : A → St → Prop) (h : R (db (encR cells c)) σ) : AC Tryd.prog G 31 [.d (celsD cells), .d (cndD c)] σ R := by
  refine ac_enter mixed Tryd.func31 rfl Tryd.ntmps31 (by simp only [go_sem]) fun hbd => ?_
  simp only [List.length_cons, List.length_nil, Nat.reduceAdd, Nat.reduceSub, List.replicate_succ, List.replicate_zero, List.cons_append, List.nil_append]
  simp only [celsD, cndD, go_sem, List.length_map]
  refine ex' (.bool (c.hyp.formed && c.hyp.over cells true)) ⟨fun q => ?_, ?_⟩
  · simp only [go_sem]
    rw [← Ex.d_eq]
    refine ⟨by assumption, ac' (rvalid_ac c.hyp hok.hyp cells hc true _ _ _ ?_)⟩
    exact ⟨rfl, rfl⟩
  simp only [go_sem]
  refine ex' (.bool (c.goal.formed && c.goal.over cells true)) ⟨fun q => ?_, ?_⟩
  · simp only [go_sem]
    rw [← Ex.d_eq]
    refine ⟨by assumption, ac' (rvalid_ac c.goal hok.goal cells hc true _ _ _ ?_)⟩
    exact ⟨rfl, rfl⟩
  simp only [go_sem, Tryd.results31]
  exact ret_d hbd h
theorem lsmall_ac (cells : List Cel) (hc : cells.length ≤ reachBytes) (c : Cnd) (hok : c.Ok) (L : Nat) (hL : L ≤ 1000) (σ : St) (G : Glob) (R : A → St → Prop) (h : R (db (smallR cells c L && encR cells c)) σ) : AC Tryd.prog G 10 [.d (celsD cells), .d (cndD c), dn L] σ R := by
  refine ac_enter mixed Tryd.func10 rfl Tryd.ntmps10 (by simp only [go_sem]) fun hbd => ?_
  simp only [List.length_cons, List.length_nil, Nat.reduceAdd, Nat.reduceSub, List.replicate_succ, List.replicate_zero, List.cons_append, List.nil_append]
  simp only [cndD, go_sem]
  refine ac' (rsmall_ac cells hc c hok L hL _ _ _ ?_)
  simp only [go_sem]
  refine ex' (.bool (encR cells c)) ⟨fun q => ?_, ?_⟩
  · simp only [go_sem]
    refine ⟨by assumption, ac' (renc_ac cells hc c hok _ _ _ ?_)⟩
    exact ⟨rfl, rfl⟩
  simp only [go_sem, Tryd.results10]
  exact ret_d hbd h
end Go.Proofs.YtkjlefahpdconaaDoor
end PartE5

section PartE6
/- The program's well-formedness: what it says of expressions that the reference takes for well-formed. -/
set_option linter.unusedSimpArgs false
set_option linter.unusedVariables false
set_option maxRecDepth 100000
namespace Go.Proofs.YtkjlefahpdconaaDoor
open Go Go.Ab

def masksD : D := .agg [iD 0, iD 1, iD 3, iD 7, iD 15, iD 31, iD 63, iD 127, iD 255]
theorem wide_ac (e : Ex) (hk : e.kids.length ≤ reachBytes) (ws : List Int) (hl : e.kids.length = ws.length) (hw : ∀ i, i < ws.length → e.kw i = ws.getD i 0) (σ : St) (G : Glob) (R : A → St → Prop) (h : R (db true) σ) :
    AC Tryd.prog G 85 [.d (.sl 4 (e.kids.map Ex.d)), .d (isD ws)] σ R := by
  refine ac_enter mixed Tryd.func85 rfl Tryd.ntmps85 (by simp only [go_sem]) fun hbd => ?_
  simp only [List.length_cons, List.length_nil, Nat.reduceAdd, Nat.reduceSub, List.replicate_succ, List.replicate_zero, List.cons_append, List.nil_append]
  have d1 : ((e.kids.length : Int) != (ws.length : Int)) = false := by simp [hl]
  simp only [isD, go_sem, List.length_map, d1]
  refine aw_loop (fun m fr st => ∃ j : Nat, j ≤ ws.length ∧ m = ws.length - j ∧ fr = [.d (.sl 4 (e.kids.map Ex.d)), .d (.sl 1 (ws.map iD)), .any, .any, .any, .any, .any, .any, .any, .any, .any, .any, .d (.sl 1 (ws.map iD)), dn ws.length, dn j, .any, .any, .any, .any, .any, .any, .any, .any, .any, .any, .any, .any] ∧ st = σ) ws.length _
    (Wk.mask [0, 1, 12, 13, 14] ⟨0, by omega, rfl, rfl, rfl⟩) ?_
  rintro m fr st ⟨j, hj, hm, rfl, rfl⟩
  rcases Nat.lt_or_ge j ws.length with hlt | hge
  · have hd : decide ((j : Int) < (ws.length : Int)) = true := by simp; omega
    have e1 : List.getD (List.map iD ws) j default = iD (ws.getD j 0) := getD_mapD hlt
    have k1 := kid_d (e := e) (i := j) (by omega)
    have w2 := wrapS j (by simp only [reachBytes] at hk; omega)
    have d2 : (e.kw j != ws.getD j 0) = false := by simp [hw j hlt]
    simp only [go_sem, List.length_map, hd, e1, k1, w2, d2, Tryd.results85]
    refine ⟨⟨by omega, by omega⟩, ⟨by omega, by omega⟩, Wk.mask [0, 1, 12, 13, 14] ⟨ws.length - (j + 1), by omega, j + 1, hlt, rfl, rfl, rfl⟩⟩
  · have hd : decide ((j : Int) < (ws.length : Int)) = false := by simp; omega
    simp only [go_sem, List.length_map, hd, Tryd.results85]
    exact ret_d0 h
theorem masks_at {W : Nat} (h : W ≤ 8) : List.getD [iD 0, iD 1, iD 3, iD 7, iD 15, iD 31, iD 63, iD 127, iD 255] (W * 1) default = iD ((2 ^ W : Nat) - 1) := by
  have : W = 0 ∨ W = 1 ∨ W = 2 ∨ W = 3 ∨ W = 4 ∨ W = 5 ∨ W = 6 ∨ W = 7 ∨ W = 8 := by omega
  rcases this with rfl | rfl | rfl | rfl | rfl | rfl | rfl | rfl | rfl <;> rfl
set_option maxHeartbeats 20000000 in
theorem shaped_ac (e : Ex) (hk : e.kids.length ≤ reachBytes) (hf : e.fits = true) (σ : St) (G : Glob) (hG : G.g 0 = some masksD) (R : A → St → Prop) (h : R (db true) σ) : AC Tryd.prog G 61 [.ea e.d 0] σ R := by
  rw [Ex.d_eq]
  have hev : ∀ fr, ev G fr (.global 0) = .ea masksD 0 := fun fr => ev_global hG
  simp only [Ex.fits, Bool.and_eq_true, decide_eq_true_eq] at hf
  obtain ⟨⟨ha, h1, h2⟩, hf⟩ := hf
  have hL : e.kids.length = (Ex.arity e.op).toNat := by omega
  have d1 : decide (e.w < 1) = false := by simp; omega
  have d2 : decide (8 < e.w) = false := by simp; omega
  obtain ⟨W, hW⟩ : ∃ W : Nat, e.w = W := ⟨e.w.toNat, by omega⟩
  by_cases o1 : e.op = 1
  · rw [if_pos o1] at hf
    have hl : e.kids.length = 0 := by rw [hL, o1]; rfl
    have b1 : (e.op == 1) = true := by simp [o1]
    simp only [hW, decide_eq_true_eq, Int.toNat_natCast] at hf
    have g1 : decide (0 ≤ e.n) = true := by simp; omega
    have g2 : decide (e.n ≤ (2 ^ W : Nat) - 1) = true := by
      have : ((2 : Int) ^ W) = ((2 ^ W : Nat) : Int) := by simp
      simp only [decide_eq_true_eq]; omega
    have hm := masks_at (W := W) (by omega)
    refine ac_enter' mixed Tryd.func61 rfl Tryd.ntmps61 (by simp only [go_sem]) fun hbd => ?_
    simp only [List.length_cons, List.length_nil, Nat.reduceAdd, Nat.reduceSub, List.replicate_succ, List.replicate_zero, List.cons_append, List.nil_append]
    simp only [go_sem, d1, d2, b1, Tryd.results61]
    refine aw_plan (.tk 27 0 <| .done) (by kernel_rfl) ?_
    simp only [go_sem, hev, List.length_map, hl, g1, g2, hW, masksD, hm, show (((0 : Nat) : Int) == 0) = true from rfl, Tryd.results61]
    exact ⟨⟨by omega, by omega⟩, by omega, ret_d0 h⟩
  have b1 : (e.op == 1) = false := by simp [o1]
  rw [if_neg o1] at hf
  by_cases o2 : e.op = 2 ∨ e.op = 3
  · rw [if_pos o2, decide_eq_true_eq] at hf
    have hl : e.kids.length = 0 := by rw [hL]; rcases o2 with o | o <;> rw [o] <;> rfl
    have g1 : decide (0 ≤ e.n) = true := by simp; omega
    have g2 : decide (e.n < 32) = true := by simp; omega
    rcases o2 with o | o
    · have b2 : (e.op == 2) = true := by simp [o]
      refine ac_enter' mixed Tryd.func61 rfl Tryd.ntmps61 (by simp only [go_sem]) fun hbd => ?_
      simp only [List.length_cons, List.length_nil, Nat.reduceAdd, Nat.reduceSub, List.replicate_succ, List.replicate_zero, List.cons_append, List.nil_append]
      simp only [go_sem, d1, d2, b1, b2, List.length_map, hl, g1, g2, show (((0 : Nat) : Int) == 0) = true from rfl, Tryd.results61]
      exact ret_d0 h
    · have b2 : (e.op == 2) = false := by simp [o]
      have b3 : (e.op == 3) = true := by simp [o]
      refine ac_enter' mixed Tryd.func61 rfl Tryd.ntmps61 (by simp only [go_sem]) fun hbd => ?_
      simp only [List.length_cons, List.length_nil, Nat.reduceAdd, Nat.reduceSub, List.replicate_succ, List.replicate_zero, List.cons_append, List.nil_append]
      simp only [go_sem, d1, d2, b1, b2, b3, List.length_map, hl, g1, g2, show (((0 : Nat) : Int) == 0) = true from rfl, Tryd.results61]
      exact ret_d0 h
  have b2 : (e.op == 2) = false := by simp; omega
  have b3 : (e.op == 3) = false := by simp; omega
  rw [if_neg o2] at hf
  by_cases o4 : e.op = 4
  · rw [if_pos o4, decide_eq_true_eq] at hf
    have hl : e.kids.length = 1 := by rw [hL, o4]; rfl
    have b4 : (e.op == 4) = true := by simp [o4]
    refine ac_enter' mixed Tryd.func61 rfl Tryd.ntmps61 (by simp only [go_sem]) fun hbd => ?_
    simp only [List.length_cons, List.length_nil, Nat.reduceAdd, Nat.reduceSub, List.replicate_succ, List.replicate_zero, List.cons_append, List.nil_append]
    simp only [go_sem, d1, d2, b1, b2, b3, b4, hf.1, show ((0 : Int) != 0) = false from rfl, Tryd.results61]
    refine aw_plan (.tk 11 0 <| .done) (by kernel_rfl) ?_
    simp only [go_sem, Tryd.results61]
    refine ac' (ac_weak (Weak.deep [0] 4) ?_)
    simp only [go_sem]
    refine wide_ac e hk [e.w] hl (fun i hi => ?_) _ _ _ ?_
    · obtain rfl : i = 0 := by simpa using hi
      exact hf.2
    simp only [go_sem, Tryd.results61]
    exact ret_d hbd h
  have b4 : (e.op == 4) = false := by simp [o4]
  rw [if_neg o4] at hf
  by_cases o11 : e.op = 11 ∨ e.op = 12 ∨ e.op = 13
  · rw [if_pos o11, decide_eq_true_eq] at hf
    have hl : e.kids.length = 2 := by rw [hL]; rcases o11 with o | o | o <;> rw [o] <;> rfl
    have k0 := kid_d (e := e) (i := 0) (by omega)
    have k1 := kid_d (e := e) (i := 1) (by omega)
    obtain ⟨f1, f2, f3⟩ := hf
    rw [f2] at d1 d2
    rw [f3] at k0
    refine ac_enter' mixed Tryd.func61 rfl Tryd.ntmps61 (by simp only [go_sem]) fun hbd => ?_
    simp only [List.length_cons, List.length_nil, Nat.reduceAdd, Nat.reduceSub, List.replicate_succ, List.replicate_zero, List.cons_append, List.nil_append]
    rcases o11 with o | o | o <;>
    · simp only [go_sem, f2, d1, d2, o, Int.reduceBEq, f1, show ((0 : Int) != 0) = false from rfl, Tryd.results61]
      refine aw_plan (.tk 31 0 <| .done) (by kernel_rfl) ?_
      simp only [go_sem, List.length_map, hl, k0, k1, Int.toNat_zero, Int.toNat_one, Int.reduceBEq, show (((2 : Nat) : Int) == 2) = true from rfl, beq_self_eq_true, Tryd.results61]
      exact ⟨⟨by omega, by omega⟩, ⟨by omega, by omega⟩, ret_d0 h⟩
  rw [if_neg o11] at hf
  by_cases o14 : e.op = 14
  · rw [if_pos o14, decide_eq_true_eq] at hf
    have hl : e.kids.length = 3 := by rw [hL, o14]; rfl
    obtain ⟨f1, f2, f3, f4⟩ := hf
    refine ac_enter' mixed Tryd.func61 rfl Tryd.ntmps61 (by simp only [go_sem]) fun hbd => ?_
    simp only [List.length_cons, List.length_nil, Nat.reduceAdd, Nat.reduceSub, List.replicate_succ, List.replicate_zero, List.cons_append, List.nil_append]
    simp only [go_sem, d1, d2, o14, Int.reduceBEq, f1, show ((0 : Int) != 0) = false from rfl, Tryd.results61]
    refine aw_plan (.tk 15 0 <| .done) (by kernel_rfl) ?_
    simp only [go_sem, Tryd.results61]
    refine ac' (ac_weak (Weak.deep [0] 4) ?_)
    simp only [go_sem]
    refine wide_ac e hk [1, e.w, e.w] hl (fun i hi => ?_) _ _ _ ?_
    · have : i = 0 ∨ i = 1 ∨ i = 2 := by simp at hi; omega
      rcases this with rfl | rfl | rfl
      · exact f2
      · exact f3
      · exact f4
    simp only [go_sem, Tryd.results61]
    exact ret_d hbd h
  · rw [if_neg o14, decide_eq_true_eq] at hf
    have ho : e.op = 5 ∨ e.op = 6 ∨ e.op = 7 ∨ e.op = 8 ∨ e.op = 9 ∨ e.op = 10 := by
      unfold Ex.arity at ha
      repeat' split at ha
      all_goals omega
    have hl : e.kids.length = 2 := by rw [hL]; rcases ho with o | o | o | o | o | o <;> rw [o] <;> rfl
    obtain ⟨f1, f2, f3⟩ := hf
    refine ac_enter' mixed Tryd.func61 rfl Tryd.ntmps61 (by simp only [go_sem]) fun hbd => ?_
    simp only [List.length_cons, List.length_nil, Nat.reduceAdd, Nat.reduceSub, List.replicate_succ, List.replicate_zero, List.cons_append, List.nil_append]
    rcases ho with o | o | o | o | o | o <;>
    · simp only [go_sem, d1, d2, o, Int.reduceBEq, f1, show ((0 : Int) != 0) = false from rfl, Tryd.results61]
      refine aw_plan (.tk 15 0 <| .done) (by kernel_rfl) ?_
      simp only [go_sem, Tryd.results61]
      refine ac' (ac_weak (Weak.deep [0] 4) ?_)
      simp only [go_sem]
      refine wide_ac e hk [e.w, e.w] hl (fun i hi => ?_) _ _ _ ?_
      · have : i = 0 ∨ i = 1 := by simp at hi; omega
        rcases this with rfl | rfl
        · exact f2
        · exact f3
      simp only [go_sem, Tryd.results61]
      exact ret_d hbd h
end Go.Proofs.YtkjlefahpdconaaDoor
end PartE6

section PartE7
/- The program's well-formedness: the walk over the nodes. -/
set_option linter.unusedSimpArgs false
set_option linter.unusedVariables false
set_option maxRecDepth 100000
namespace Go.Proofs.YtkjlefahpdconaaDoor
open Go Go.Ab

theorem lt_of_some {α : Type} {l : List α} {i : Nat} {x : α} (h : l[i]? = some x) : i < l.length := (List.getElem?_eq_some_iff.1 h).1
theorem set_same {σ : St} {i : Nat} {x y : Option Ob} (h : σ[i]? = some x) : (σ.set i y)[i]? = some y := by
  rw [List.getElem?_set, if_pos rfl, if_pos (lt_of_some h)]
theorem set_other {σ : St} {i j : Nat} {y : Option Ob} (h : i ≠ j) : (σ.set i y)[j]? = σ[j]? := by
  rw [List.getElem?_set, if_neg h]
set_option maxHeartbeats 4000000 in
theorem visit_ac (l : Nat) : ∀ (e : Ex) (hok : e.Ok) (hd : e.deep l = true) (dep cnt : Nat) (hdl : dep + l ≤ 41) (hcnt : cnt + e.nodes ≤ 600) (ic iv : Nat) (hne : ic ≠ iv) (σ : St) (hc : σ[ic]? = some (some (.cells [dn cnt])))
    (hv : σ[iv]? = some (some (.cells [.fn (.func 60) [] [.ref ic 0, .ref iv 0]]))) (G : Glob) (hG : G.g 0 = some masksD) (R : A → St → Prop) (h : R (db true) (σ.set ic (some (.cells [dn (cnt + e.nodes)])))), AC Tryd.prog G 60 [.ea e.d 0, dn dep, .ref ic 0, .ref iv 0] σ R := by
  induction l with
  | zero => intro e hok hd; simp [Ex.deep] at hd
  | succ l ih =>
    intro e hok hdp dep cnt hdl hcnt ic iv hne σ hc hv G hG R h
    obtain ⟨hk, hks⟩ := hok
    have hkd : ∀ k ∈ e.kids, k.deep l = true := fun k hk => deep_kid hdp hk
    have hf : e.fits = true := by
      simp only [Ex.deep, Bool.and_eq_true] at hdp; exact hdp.1
    have hnd := e.nodes_eq
    have w1 := wrapS cnt (by omega)
    have hic := lt_of_some hc
    have hc1 : (σ.set ic (some (.cells [dn (cnt + 1)])))[ic]? = some (some (.cells [dn (cnt + 1)])) := set_same hc
    have d1 : decide ((600 : Int) < ((cnt + 1 : Nat) : Int)) = false := by simp; omega
    have d2 : decide ((40 : Int) < (dep : Int)) = false := by simp; omega
    rw [Ex.d_eq]
    refine ac_enter' mixed Tryd.func60 rfl Tryd.ntmps60 (by simp only [go_sem]) fun hbd => ?_
    simp only [List.length_cons, List.length_nil, Nat.reduceAdd, Nat.reduceSub, List.replicate_succ, List.replicate_zero, List.cons_append, List.nil_append]
    simp only [go_sem, live_of hc, objK_of hc, w1, live_of hc1, objK_of hc1, d1, d2]
    refine ex' (.bool true) ⟨fun q => ?_, ?_⟩
    · simp only [go_sem]
      rw [← Ex.d_eq e]
      refine ac' (shaped_ac e hk hf _ _ hG _ ?_)
      exact ⟨rfl, rfl⟩
    simp only [go_sem, List.length_map, w1, d1, d2, Tryd.results60]
    refine aw_loop (fun m fr st => ∃ j : Nat, j ≤ e.kids.length ∧ m = e.kids.length - j ∧
      fr = [.ea (.agg [iD e.op, iD e.w, iD e.n, .sl 4 (e.kids.map Ex.d)]) 0, dn dep, .ref ic 0, .ref iv 0, .any, .any, .any, .any, .any, .any, .any, .any, .any, .any, .any, .any, .any, .any, .any, .any, .any, .any, .any, .any, .any, dn e.kids.length, dn j, .any, .any, .any, .any, .any, .any, .any, .any, .any, .any, .any, .any, .any, .any] ∧ st = σ.set ic (some (.cells [dn (cnt + 1 + ((e.kids.take j).map Ex.nodes).sum)]))) e.kids.length _ ?_ ?_
    · exact Wk.mask [0, 1, 2, 3, 25, 26] ⟨0, by omega, rfl, rfl, by rw [List.take_zero]; rfl⟩
    rintro m fr st ⟨j, hj, hm, rfl, rfl⟩
    have ht := take_le (l := e.kids) j
    rcases Nat.lt_or_ge j e.kids.length with hlt | hge
    · have hdd : decide ((j : Int) < (e.kids.length : Int)) = true := by simp; omega
      obtain ⟨k, hkk⟩ : ∃ k, e.kids.getD j (.mk 0 0 0 []) = k := ⟨_, rfl⟩
      have hmem : k ∈ e.kids := hkk ▸ kid_mem hlt
      have e1 := kid_at hlt hkk
      have hs := take_sum hlt
      have ht2 := take_le (l := e.kids) (j + 1)
      rw [hkk] at hs
      have w2 := wrapS j (by simp only [reachBytes] at hk; omega)
      have w3 := wrapS dep (by omega)
      generalize hS : ((e.kids.take j).map Ex.nodes).sum = S at *
      have hc2 : (σ.set ic (some (.cells [dn (cnt + 1 + S)])))[ic]? = some (some (.cells [dn (cnt + 1 + S)])) := set_same hc
      have hv2 : (σ.set ic (some (.cells [dn (cnt + 1 + S)])))[iv]? = some (some (.cells [.fn (.func 60) [] [.ref ic 0, .ref iv 0]])) := by rw [set_other hne]; exact hv
      simp only [go_sem, hdd, Tryd.results60]
      refine aw_plan (.tk 11 0 <| .done) (by kernel_rfl) ?_
      simp only [go_sem, List.length_map, e1, w2, w3, live_of hc2, objK_of hc2, live_of hv2, objK_of hv2, Tryd.results60]
      rw [← Ex.d_eq k]
      refine ⟨⟨by omega, by omega⟩, ac' (ih k (hks k hmem) (hkd k hmem) (dep + 1) (cnt + 1 + S) (by omega) (by omega) ic iv hne _ hc2 hv2 _ hG _ ?_)⟩
      simp only [go_sem, w2, List.set_set, Tryd.results60]
      exact Wk.mask [0, 1, 2, 3, 25, 26] ⟨e.kids.length - (j + 1), by omega, j + 1, hlt, rfl, rfl, by rw [hs, Nat.add_assoc (cnt + 1)]⟩
    · have hdd : decide ((j : Int) < (e.kids.length : Int)) = false := by simp; omega
      simp only [go_sem, hdd, Tryd.results60]
      refine ⟨_, _, Weak.refl _ _ _ _, ?_⟩
      rw [List.take_of_length_le hge]
      rw [hnd] at h
      rw [show cnt + 1 + (e.kids.map Ex.nodes).sum = cnt + (1 + (e.kids.map Ex.nodes).sum) by omega]
      exact h
theorem formed_prog (e : Ex) (hok : e.Ok) (hf : e.formed = true) (σ : St) (G : Glob) (hG : G.g 0 = some masksD) (R : A → St → Prop) (h : R (db true) σ) : AC Tryd.prog G 44 [.d e.d] σ R := by
  simp only [Ex.formed, Bool.and_eq_true, decide_eq_true_eq] at hf
  rw [Ex.d_eq]
  refine ac_enter' mixed Tryd.func44 rfl Tryd.ntmps44 (by simp only [go_sem]) fun hbd => ?_
  simp only [List.length_cons, List.length_nil, Nat.reduceAdd, Nat.reduceSub, List.replicate_succ, List.replicate_zero, List.cons_append, List.nil_append]
  simp only [go_sem, Tryd.results44]
  refine ac' (ac_ref 0 [iD e.op, iD e.w, iD e.n, .sl 4 (e.kids.map Ex.d)] rfl (by intro d hd; simp at hd; rcases hd with rfl | rfl | rfl | rfl <;> rfl) ?_)
  have hm : List.map (refA (σ.length + 0) [iD e.op, iD e.w, iD e.n, .sl 4 (e.kids.map Ex.d)]) [A.ref σ.length 0, A.d (.int .i64 1), A.ref (σ.length + 1) 0, A.ref (σ.length + 2) 0] = [.ea e.d 0, dn 1, .ref (σ.length + 1) 0, .ref (σ.length + 2) 0] := by
    have q1 : (σ.length + 1 == σ.length) = false := by simp
    have q2 : (σ.length + 2 == σ.length) = false := by simp
    simp [refA, Ex.d_eq, q1, q2]
  rw [hm]
  simp only [List.set]
  refine visit_ac 40 e hok hf.2 1 0 (by omega) (by omega) _ _ (by omega) _ (by simp) (by simp) _ hG _ ?_
  simp only [go_sem, Tryd.results44]
  exact ret_d hbd h
end Go.Proofs.YtkjlefahpdconaaDoor
end PartE7

section PartE8
/- The leaves of an expression, one by one. -/
set_option linter.unusedSimpArgs false
set_option linter.unusedVariables false
set_option maxRecDepth 100000
namespace Go.Proofs.YtkjlefahpdconaaDoor
open Go Go.Ab

namespace Ex
mutual
def lvs : Ex → List Ex
  | .mk o w n k => match k with
    | [] => [.mk o w n []]
    | e :: r => e.lvs ++ lvsL r
def lvsL : List Ex → List Ex
  | [] => []
  | e :: r => e.lvs ++ lvsL r
end
theorem lvsL_map : ∀ l : List Ex, lvsL l = l.flatMap lvs
  | [] => rfl
  | e :: r => by simp [lvsL, lvsL_map r]
theorem lvs_leaf {e : Ex} (h : e.kids = []) : e.lvs = [e] := by
  cases e with | mk o w n k => simp only [kids] at h; subst h; rfl
theorem lvs_node {e : Ex} (h : e.kids ≠ []) : e.lvs = e.kids.flatMap lvs := by
  cases e with
  | mk o w n k =>
    simp only [kids] at h ⊢
    cases k with
    | nil => exact (h rfl).elim
    | cons a r => simp [lvs, lvsL_map]
end Ex
theorem flat_take {l : List Ex} {j : Nat} (h : j < l.length) : (l.take (j + 1)).flatMap Ex.lvs = (l.take j).flatMap Ex.lvs ++ (l.getD j (.mk 0 0 0 [])).lvs := by
  rw [List.take_add_one, List.getElem?_eq_getElem h, List.getD_eq_getElem?_getD, List.getElem?_eq_getElem h, List.flatMap_append]
  simp
set_option maxHeartbeats 4000000 in
theorem leaves_ac (g : FuncId) (caps : List A) (F : Ex → St → St) (Pk : St → Prop) (G : Glob) (e : Ex) (hok : e.Ok) : ∀ (σ : St) (hP : Pk σ) (hF : ∀ n ∈ e.lvs, ∀ σ, Pk σ → Pk (F n σ))
    (hclo : ∀ n ∈ e.lvs, ∀ σ, Pk σ → ∀ R : A → St → Prop, (∀ r, R r (F n σ)) → AC Tryd.prog G g (.ea n.d 0 :: caps) σ R) (R : A → St → Prop) (h : ∀ r, R r (e.lvs.foldl (fun s n => F n s) σ)),
    AC Tryd.prog G 45 [.ea e.d 0, .fn (.func g) [] caps] σ R := by
  induction hok with
  | mk hk hks ih =>
  rename_i e
  intro σ hP hF hclo R h
  rw [Ex.d_eq]
  refine ac_enter' mixed Tryd.func45 rfl Tryd.ntmps45 (by simp only [go_sem]) fun hbd => ?_
  simp only [List.length_cons, List.length_nil, Nat.reduceAdd, Nat.reduceSub, List.replicate_succ, List.replicate_zero, List.cons_append, List.nil_append]
  by_cases hz : e.kids = []
  · have hl : e.kids.length = 0 := by rw [hz]; rfl
    have hlv := Ex.lvs_leaf hz
    rw [hlv] at hF hclo h
    simp only [go_sem, List.length_map, hl, show (((0 : Nat) : Int) == 0) = true from rfl, Tryd.results45]
    rw [← Ex.d_eq e]
    refine ac' (hclo e (by simp) σ hP _ fun r => ?_)
    rw [Ex.d_eq e]
    simp only [go_sem, List.length_map, hl, Tryd.results45]
    refine aw_loop (fun m fr st => fr = [.any, .any, .any, .any, .any, .any, .any, .any, .any, .any, .any, .any, .any, .any, .any, .any, .any, .any, di ((0 : Nat) : Int), di 0, .any, .any, .any, .any, .any, .any, .any, .any, .any, .any, .any] ∧ st = F e σ) 0 _ ?_ ?_
    · exact Wk.mask [18, 19] ⟨rfl, rfl⟩
    rintro m fr st ⟨rfl, rfl⟩
    simp only [go_sem, show decide ((0 : Int) < ((0 : Nat) : Int)) = false from rfl, Tryd.results45]
    exact ⟨_, _, Weak.refl _ _ _ _, h _⟩
  · have hl : (((e.kids.length : Nat) : Int) == 0) = false := by
      have : e.kids.length ≠ 0 := fun h => hz (List.eq_nil_of_length_eq_zero h)
      simp; omega
    have hlv := Ex.lvs_node hz
    rw [hlv] at hF hclo h
    simp only [go_sem, List.length_map, hl, Tryd.results45]
    refine aw_loop (fun m fr st => ∃ j : Nat, j ≤ e.kids.length ∧ m = e.kids.length - j ∧ Pk st ∧
      fr = [.ea (.agg [iD e.op, iD e.w, iD e.n, .sl 4 (e.kids.map Ex.d)]) 0, .fn (.func g) [] caps, .any, .any, .any, .any, .any, .any, .any, .any, .any, .any, .any, .any, .any, .any, .any, .any, dn e.kids.length, dn j, .any, .any, .any, .any, .any, .any, .any, .any, .any, .any, .any] ∧ st = ((e.kids.take j).flatMap Ex.lvs).foldl (fun s n => F n s) σ) e.kids.length _ ?_ ?_
    · exact Wk.mask [0, 1, 18, 19] ⟨0, by omega, rfl, hP, rfl, rfl⟩
    rintro m fr st ⟨j, hj, hm, hPs, rfl, hst⟩
    rcases Nat.lt_or_ge j e.kids.length with hlt | hge
    · have hdd : decide ((j : Int) < (e.kids.length : Int)) = true := by simp; omega
      obtain ⟨k, hkk⟩ : ∃ k, e.kids.getD j (.mk 0 0 0 []) = k := ⟨_, rfl⟩
      have hmem : k ∈ e.kids := hkk ▸ kid_mem hlt
      have e1 := kid_at hlt hkk
      have hft := flat_take hlt
      rw [hkk] at hft
      have hsub : ∀ n ∈ k.lvs, n ∈ e.kids.flatMap Ex.lvs := fun n hn => List.mem_flatMap.2 ⟨k, hmem, hn⟩
      have w2 := wrapS j (by simp only [reachBytes] at hk; omega)
      simp only [go_sem, List.length_map, hdd, e1, Tryd.results45]
      rw [← Ex.d_eq k]
      refine ⟨⟨by omega, by omega⟩, ac' (ih k hmem st hPs (fun n hn => hF n (hsub n hn)) (fun n hn => hclo n (hsub n hn)) _ fun r => ?_)⟩
      simp only [go_sem, w2, Tryd.results45]
      refine Wk.mask [0, 1, 18, 19] ⟨e.kids.length - (j + 1), by omega, j + 1, hlt, rfl, ?_, rfl, by rw [hft, List.foldl_append, ← hst]⟩
      have key : ∀ (l : List Ex) (s : St), (∀ n ∈ l, n ∈ e.kids.flatMap Ex.lvs) → Pk s → Pk (l.foldl (fun s n => F n s) s) := by
        intro l
        induction l with
        | nil => intro s _ h; exact h
        | cons a l ih2 => intro s hl h; exact ih2 _ (fun n hn => hl n (List.mem_cons_of_mem _ hn)) (hF a (hl a (List.mem_cons_self ..)) s h)
      exact key _ _ hsub hPs
    · have hdd : decide ((j : Int) < (e.kids.length : Int)) = false := by simp; omega
      simp only [go_sem, hdd, Tryd.results45]
      rw [List.take_of_length_le hge] at hst
      subst hst
      exact ⟨_, _, Weak.refl _ _ _ _, h _⟩
end Go.Proofs.YtkjlefahpdconaaDoor
end PartE8

section PartE9
/- The program's Valid and encodable, of conditions that the reference takes for encodable. -/
set_option linter.unusedSimpArgs false
set_option linter.unusedVariables false
set_option maxRecDepth 100000
namespace Go.Proofs.YtkjlefahpdconaaDoor
open Go Go.Ab

set_option maxHeartbeats 4000000 in
theorem validC_ac (n : Ex) (cells : List Cel) (ho : n.overN cells true = true) (hop : n.op = 1 ∨ n.op = 2 ∨ n.op = 3) (hn : 0 ≤ n.n) {ic ip ig : Nat} (σ : St) (hc : σ[ic]? = some (some (.cells [.d (celsD cells)]))) (hp : σ[ip]? = some (some (.cells [db true]))) (G : Glob) (R : A → St → Prop) (h : ∀ r, R r σ) :
    AC Tryd.prog G 46 [.ea n.d 0, .ref ic 0, .ref ip 0, .ref ig 0] σ R := by
  rw [Ex.d_eq]
  refine ac_enter' mixed Tryd.func46 rfl Tryd.ntmps46 (by simp only [go_sem]) fun hbd => ?_
  simp only [List.length_cons, List.length_nil, Nat.reduceAdd, Nat.reduceSub, List.replicate_succ, List.replicate_zero, List.cons_append, List.nil_append]
  by_cases o1 : n.op = 1
  · have b1 : (n.op != 1) = false := by simp [o1]
    simp only [go_sem, Tryd.results46]
    refine aw_plan (.tk 40 0 <| .done) (by kernel_rfl) ?_
    simp only [go_sem, celsD, live_of hc, objK_of hc, live_of hp, objK_of hp, b1, List.length_map, Tryd.results46]
    exact ⟨_, _, Weak.refl _ _ _ _, h _⟩
  · have b1 : (n.op != 1) = true := by simp [o1]
    have hop' : n.op = 2 ∨ n.op = 3 := by omega
    have hb : (n.op == 3 || n.op == 2) = true := by rcases hop' with o | o <;> simp [o]
    simp only [Ex.overN, hb, Bool.true_and, Bool.not_true, Bool.and_false, Bool.not_false, Bool.not_eq_true', Bool.or_eq_false_iff, decide_eq_false_iff_not] at ho
    have d1 : decide ((cells.length : Int) ≤ n.n) = false := by simp; omega
    have e1 := celD_at (l := cells) (j := n.n.toNat) (by omega)
    simp only [celD] at e1
    simp only [go_sem, Tryd.results46]
    refine aw_plan (.tk 40 0 <| .done) (by kernel_rfl) ?_
    simp only [go_sem, celsD, live_of hc, objK_of hc, live_of hp, objK_of hp, b1, d1, e1, ho.2, List.length_map, Tryd.results46]
    exact ⟨⟨by omega, by omega⟩, _, _, Weak.refl _ _ _ _, h _⟩
theorem lvs_spec (cells : List Cel) (p : Bool) (l : Nat) : ∀ e : Ex, e.deep l = true → e.over cells p = true → ∀ n ∈ e.lvs, n.overN cells p = true ∧ (n.op = 1 ∨ n.op = 2 ∨ n.op = 3) ∧ n.fits = true := by
  induction l with
  | zero => intro e h; simp [Ex.deep] at h
  | succ l ih =>
    intro e hd ho n hn
    have hf : e.fits = true := by simp only [Ex.deep, Bool.and_eq_true] at hd; exact hd.1
    rw [Ex.over_eq, Bool.and_eq_true, List.all_eq_true] at ho
    by_cases hz : e.kids = []
    · rw [Ex.lvs_leaf hz] at hn
      obtain rfl : n = e := by simpa using hn
      refine ⟨ho.1, ?_, hf⟩
      simp only [Ex.fits, Bool.and_eq_true, decide_eq_true_eq, hz, List.length_nil] at hf
      have := hf.1.1
      unfold Ex.arity at this
      repeat' split at this
      all_goals omega
    · rw [Ex.lvs_node hz] at hn
      obtain ⟨k, hk, hn⟩ := List.mem_flatMap.1 hn
      exact ih k (deep_kid hd hk) (ho.2 k hk) n hn
theorem foldl_id {α β : Type} (l : List α) (s : β) : l.foldl (fun s _ => s) s = s := by
  induction l with
  | nil => rfl
  | cons a l ih => exact ih
theorem valid_prog (e : Ex) (hok : e.Ok) (cells : List Cel) (hf : e.formed = true) (ho : e.over cells true = true) (σ : St) (G : Glob) (hG : G.g 0 = some masksD) (R : A → St → Prop) (h : R (db true) σ) : AC Tryd.prog G 29 [.d e.d, .d (celsD cells), db true] σ R := by
  have hf2 := hf
  simp only [Ex.formed, Bool.and_eq_true, decide_eq_true_eq] at hf2
  have hl := lvs_spec cells true 40 e hf2.2 ho
  rw [Ex.d_eq]
  refine ac_enter' mixed Tryd.func29 rfl Tryd.ntmps29 (by simp only [go_sem]) fun hbd => ?_
  simp only [List.length_cons, List.length_nil, Nat.reduceAdd, Nat.reduceSub, List.replicate_succ, List.replicate_zero, List.cons_append, List.nil_append]
  simp only [go_sem, Tryd.results29]
  rw [← Ex.d_eq e]
  refine ac' (formed_prog e hok hf _ _ hG _ ?_)
  rw [Ex.d_eq e]
  simp only [go_sem, celsD, Tryd.results29]
  refine ac' (ac_ref 0 [iD e.op, iD e.w, iD e.n, .sl 4 (e.kids.map Ex.d)] rfl (by intro d hd; simp at hd; rcases hd with rfl | rfl | rfl | rfl <;> rfl) ?_)
  have hm : List.map (refA (σ.length + 0) [iD e.op, iD e.w, iD e.n, .sl 4 (e.kids.map Ex.d)]) [A.ref σ.length 0, A.fn (.func 46) [] [.ref (σ.length + 1) 0, .ref (σ.length + 2) 0, .ref (σ.length + 3) 0]] = [.ea e.d 0, .fn (.func 46) [] [.ref (σ.length + 1) 0, .ref (σ.length + 2) 0, .ref (σ.length + 3) 0]] := by
    simp [refA, Ex.d_eq]
  rw [hm]
  simp only [List.set]
  refine leaves_ac 46 _ (fun _ s => s) (fun s => s[σ.length + 1]? = some (some (.cells [.d (celsD cells)])) ∧ s[σ.length + 2]? = some (some (.cells [db true]))) G e hok _ ⟨by simp [celsD], by simp⟩ (fun _ _ _ h => h) (fun n hn s hs R hR => validC_ac n cells (hl n hn).1 (hl n hn).2.1 (fits_n (hl n hn).2.2) s hs.1 hs.2 G R fun r => hR r) _ fun r => ?_
  rw [foldl_id]
  simp only [go_sem, Tryd.results29]
  exact ret_d hbd h
end Go.Proofs.YtkjlefahpdconaaDoor
end PartE9

section PartE10
/- The program's encodable. -/
set_option linter.unusedSimpArgs false
set_option linter.unusedVariables false
set_option maxRecDepth 100000
namespace Go.Proofs.YtkjlefahpdconaaDoor
open Go Go.Ab

theorem encR_iff {cells : List Cel} {c : Cnd} : encR cells c = true ↔ cells.length ≤ 32 ∧ (c.hyp.formed = true ∧ c.hyp.over cells true = true) ∧ (c.goal.formed = true ∧ c.goal.over cells true = true) ∧ c.hyp.w = 1 ∧ c.goal.w = 1 := by
  simp only [encR, Bool.and_eq_true, decide_eq_true_eq, beq_iff_eq]
  constructor
  · rintro ⟨⟨⟨⟨h1, h2⟩, h3⟩, h4⟩, h5⟩; exact ⟨by omega, h2, h3, h4, h5⟩
  · rintro ⟨h1, h2, h3, h4, h5⟩; exact ⟨⟨⟨⟨by omega, h2⟩, h3⟩, h4⟩, h5⟩
theorem encodable_ac (cells : List Cel) (c : Cnd) (hok : c.Ok) (he : encR cells c = true) (σ : St) (G : Glob) (hG : G.g 0 = some masksD) (R : A → St → Prop) (h : R (db true) σ) : AC Tryd.prog G 32 [.d (celsD cells), .d (cndD c)] σ R := by
  obtain ⟨h1, ⟨h2, h3⟩, ⟨h4, h5⟩, h6, h7⟩ := encR_iff.1 he
  have d1 : decide ((32 : Int) < (cells.length : Int)) = false := by simp; omega
  refine ac_enter' mixed Tryd.func32 rfl Tryd.ntmps32 (by simp only [go_sem]) fun hbd => ?_
  simp only [List.length_cons, List.length_nil, Nat.reduceAdd, Nat.reduceSub, List.replicate_succ, List.replicate_zero, List.cons_append, List.nil_append]
  simp only [celsD, cndD, go_sem, List.length_map, d1, Tryd.results32]
  refine aw_loop (fun m fr st => ∃ j : Nat, j ≤ 2 ∧ m = 2 - j ∧ fr = [.d (celsD cells), .any, .any, .any, .any, .any, .any, .any, .any, .any, .any, .any, .any, .any, .d (.sl 4 ([c.hyp, c.goal].map Ex.d)), dn 2, dn j, .any, .any, .any, .any, .any, .any, .any, .any, .any, .any, .any, .any, .any] ∧ st = σ) 2 _ ?_ ?_
  · refine Wk.pre [0, 14, 15, 16] ?_
    simp only [go_sem]
    refine Wk.deep [1] 6 ?_
    simp only [go_sem]
    exact Wk.keep [0, 14, 15, 16] [] (by decide) (Nat.le_refl _) hbd ⟨0, by omega, rfl, by simp only [go_sem, List.map_cons, List.map_nil, Ex.d_eq]; rfl, by simp only [go_sem]⟩
  rintro m fr st ⟨j, hj, hm, rfl, rfl⟩
  rcases Nat.lt_or_ge j 2 with hlt | hge
  · have hdd : decide ((j : Int) < ((2 : Nat) : Int)) = true := by simp; omega
    obtain ⟨k, hkk, k1, k2, k3, k4⟩ : ∃ k : Ex, List.getD ([c.hyp, c.goal].map Ex.d) j default = k.d ∧ k.Ok ∧ k.formed = true ∧ k.over cells true = true ∧ k.w = 1 := by
      have : j = 0 ∨ j = 1 := by omega
      rcases this with rfl | rfl
      · exact ⟨c.hyp, rfl, hok.hyp, h2, h3, h6⟩
      · exact ⟨c.goal, rfl, hok.goal, h4, h5, h7⟩
    rw [Ex.d_eq k, k4] at hkk
    have w2 := wrapS j (by omega)
    have b1 : ((1 : Int) != 1) = false := rfl
    have hL : (List.map Ex.d [c.hyp, c.goal]).length = 2 := rfl
    generalize hLL : List.map Ex.d [c.hyp, c.goal] = L at hkk hL
    simp only [go_sem, hdd, hkk, b1, Tryd.results32]
    refine ⟨⟨by omega, by omega⟩, ex' (.bool true) ⟨fun q => ?_, ?_⟩⟩
    · simp only [go_sem]
      have e1 : D.agg [iD k.op, iD 1, iD k.n, .sl 4 (List.map Ex.d k.kids)] = k.d := by rw [Ex.d_eq k, k4]
      rw [e1]
      refine ac' (valid_prog k k1 cells k2 k3 _ _ hG _ ?_)
      exact ⟨rfl, rfl⟩
    simp only [go_sem, w2, b1, Tryd.results32]
    rw [← hLL]
    exact Wk.keep [0, 14, 15, 16] [] (by decide) (Nat.le_refl _) hbd ⟨2 - (j + 1), by omega, j + 1, by omega, rfl, by simp only [go_sem], by simp only [go_sem]⟩
  · have hdd : decide ((j : Int) < ((2 : Nat) : Int)) = false := by simp; omega
    simp only [go_sem, hdd, Tryd.results32]
    exact ret_d0 h
end Go.Proofs.YtkjlefahpdconaaDoor
end PartE10

section PartR0
/- What the rows of this seat share: the laid table, the start; data of the laws' types. -/
set_option maxRecDepth 100000
namespace Go.Proofs.YtkjlefahpdconaaDoor
open Go Go.Ab Go.RowKit Go.ChangeShapes Go.WideShapes
theorem own : ownKnob Tryd.prog.godebug = none := by kernel_rfl
theorem gMasks : Tryd.prog.globalNamed "relyguard/expr.masks" = some 0 := by kernel_rfl
abbrev laid1 : List (String × DataW Unit) := [("relyguard/expr.masks", Rows.laid_relyguard_expr_masks)]
theorem door_met (os : Os) (args : Array Value) : laidMetH Tryd.prog laid1 ((World.doorLaid Tryd.prog 400 os).forCall (fun _ _ => 0) ⟨#[], args, []⟩).memory :=
  laidMetH_of_parts3 (fuel := 8) (laidMet_of_run' 8 (by kernel_rfl) (by kernel_rfl)) (by kernel_rfl) (by kernel_rfl)
abbrev maskT : TypeId := 121
theorem tMasks : (Tryd.prog.globals[0]?).map (·.type) = some maskT := by kernel_rfl
theorem closedG : closedT Tryd.prog [maskT, 3] = true := by kernel_rfl
def globs : Glob := ⟨fun g => match g with | 0 => some masksD | _ => none, fun _ _ => False⟩
theorem globs_rep {W : World} (h : laidMetH Tryd.prog laid1 W) : ∀ (g : Nat) (x : D), globs.g g = some x → RepA [] W (.ea x 0) (.pointer (some ⟨g, 0, none⟩)) := by
  rw [MakeChecks.laidMetH_plain _ _ _ (by kernel_rfl)] at h
  obtain ⟨ps, ⟨g0, t0, cs0, f0, p0, q0, hg0, ht0, hv0, hd0, _, _⟩, _, _⟩ := h
  obtain rfl := Option.some.inj (gMasks.symm.trans hg0)
  obtain rfl := Option.some.inj (tMasks.symm.trans ht0)
  intro g x hx
  match g with
  | 0 =>
    simp only [globs, Option.some.injEq] at hx
    subst hx
    have := laid_ea closedG (by simp) gMasks hv0 hd0 3
    have e : toD Tryd.prog (f0 + 3) maskT Rows.laid_relyguard_expr_masks (H := Unit) = masksD := by with_unfolding_all rfl
    rw [e] at this
    exact this
  | g + 1 => simp [globs] at hx
-- data of the laws' types
theorem map_of {α : Type} {f : α → D} {p : α → Prop} : ∀ {xs : List D}, (∀ x ∈ xs, ∃ y, x = f y ∧ p y) → ∃ l : List α, xs = l.map f ∧ ∀ y ∈ l, p y
  | [], _ => ⟨[], rfl, fun y hy => by cases hy⟩
  | x :: xs, h => by
    obtain ⟨y, rfl, hy⟩ := h x (by simp)
    obtain ⟨l, rfl, hl⟩ := map_of (f := f) (p := p) (xs := xs) fun z hz => h z (by simp [hz])
    exact ⟨y :: l, rfl, fun z hz => by rcases List.mem_cons.1 hz with rfl | hz; exact hy; exact hl z hz⟩
theorem dty_int {N n : Nat} {x : D} (h : DTy Tryd.prog N n 3 x) : ∃ z, x = iD z ∧ True := by
  obtain _ | n := n
  · exact h.elim
  simp only [DTy, Tryd.underlying3] at h
  obtain ⟨z, rfl, hw⟩ := h
  exact ⟨z, rfl, trivial⟩
theorem dty_bool {N n : Nat} {x : D} (h : DTy Tryd.prog N n 4 x) : ∃ b, x = .bool b ∧ True := by
  obtain _ | n := n
  · exact h.elim
  simp only [DTy, Tryd.underlying4] at h
  obtain ⟨b, rfl⟩ := h
  exact ⟨b, rfl, trivial⟩
theorem dty_str {N n : Nat} {x : D} (h : DTy Tryd.prog N n 9 x) : ∃ b, x = .str b ∧ True := by
  obtain _ | n := n
  · exact h.elim
  simp only [DTy, Tryd.underlying9] at h
  obtain ⟨b, rfl, -⟩ := h
  exact ⟨b, rfl, trivial⟩
theorem dty_u16 {N n : Nat} {x : D} (h : DTy Tryd.prog N n 29 x) : ∃ b : Nat, x = .int .u16 b ∧ b ≤ 65535 := by
  obtain _ | n := n
  · exact h.elim
  simp only [DTy, Tryd.underlying29] at h
  obtain ⟨z, rfl, hw⟩ := h
  obtain ⟨m, rfl, hm⟩ := nat_of_wf_u16 hw
  exact ⟨m, rfl, hm⟩
theorem dty_ints {N n : Nat} {x : D} (h : DTy Tryd.prog N n 28 x) : ∃ l : List Int, x = isD l ∧ l.length ≤ N := by
  obtain _ | n := n
  · exact h.elim
  simp only [DTy, Tryd.underlying28, go_sem] at h
  obtain ⟨xs, rfl, hl, hx⟩ := h
  obtain ⟨l, rfl, -⟩ := map_of fun x hx' => dty_int (hx x hx')
  exact ⟨l, rfl, by simpa using hl⟩
theorem dty_bools {N n : Nat} {x : D} (h : DTy Tryd.prog N n 30 x) : ∃ l, x = bsD l ∧ l.length ≤ N := by
  obtain _ | n := n
  · exact h.elim
  simp only [DTy, Tryd.underlying30, go_sem] at h
  obtain ⟨xs, rfl, hl, hx⟩ := h
  obtain ⟨l, rfl, -⟩ := map_of fun x hx' => dty_bool (hx x hx')
  exact ⟨l, rfl, by simpa using hl⟩
theorem four_of {ds : List D} (h : ds.length = 4) : ∃ a b c d, ds = [a, b, c, d] := by
  match ds, h with
  | [a, b, c, d], _ => exact ⟨a, b, c, d, rfl⟩
theorem six_of {ds : List D} (h : ds.length = 6) : ∃ a b c d e f, ds = [a, b, c, d, e, f] := by
  match ds, h with
  | [a, b, c, d, e, f], _ => exact ⟨a, b, c, d, e, f, rfl⟩
theorem eight_of {ds : List D} (h : ds.length = 8) : ∃ a b c d e f g i, ds = [a, b, c, d, e, f, g, i] := by
  match ds, h with
  | [a, b, c, d, e, f, g, i], _ => exact ⟨a, b, c, d, e, f, g, i, rfl⟩
/-- Expressions and lists of expressions. -/
theorem dty_exs (n : Nat) : ∀ {x : D}, (DTy Tryd.prog reachBytes n 25 x → ∃ e : Ex, x = e.d ∧ e.Ok) ∧ (DTy Tryd.prog reachBytes n 23 x → ∃ l : List Ex, x = .sl 4 (l.map Ex.d) ∧ l.length ≤ reachBytes ∧ ∀ k ∈ l, k.Ok) := by
  induction n with
  | zero => exact ⟨fun h => h.elim, fun h => h.elim⟩
  | succ n ih =>
    intro x
    refine ⟨fun h => ?_, fun h => ?_⟩
    · simp only [DTy, Tryd.underlying25] at h
      obtain ⟨ds, rfl, hl, hx⟩ := h
      obtain ⟨a, b, c, d, rfl⟩ := four_of hl
      obtain ⟨o, rfl, -⟩ := dty_int (hx 0 _ a rfl rfl)
      obtain ⟨w, rfl, -⟩ := dty_int (hx 1 _ b rfl rfl)
      obtain ⟨m, rfl, -⟩ := dty_int (hx 2 _ c rfl rfl)
      obtain ⟨l, rfl, hll, hlk⟩ := ih.2 (hx 3 _ d rfl rfl)
      exact ⟨.mk o w m l, by rw [Ex.d_eq]; rfl, .mk hll hlk⟩
    · simp only [DTy, Tryd.underlying23, go_sem] at h
      obtain ⟨xs, rfl, hl, hx⟩ := h
      obtain ⟨l, rfl, hlk⟩ := map_of fun x hx' => ih.1 (hx x hx')
      exact ⟨l, rfl, by simpa using hl, hlk⟩
theorem dty_cel {N n : Nat} {x : D} (h : DTy Tryd.prog N n 45 x) : ∃ c, x = celD c ∧ True := by
  obtain _ | n := n
  · exact h.elim
  simp only [DTy, Tryd.underlying45] at h
  obtain ⟨ds, rfl, hl, hx⟩ := h
  obtain ⟨a, b, c, d, e, f, rfl⟩ := six_of hl
  obtain ⟨o, rfl, -⟩ := dty_str (hx 0 _ a rfl rfl)
  obtain ⟨w, rfl, -⟩ := dty_int (hx 1 _ b rfl rfl)
  obtain ⟨m, rfl, -⟩ := dty_int (hx 2 _ c rfl rfl)
  obtain ⟨m2, rfl, -⟩ := dty_int (hx 3 _ d rfl rfl)
  obtain ⟨m3, rfl, -⟩ := dty_bool (hx 4 _ e rfl rfl)
  obtain ⟨m4, rfl, -⟩ := dty_int (hx 5 _ f rfl rfl)
  exact ⟨⟨o, w, m, m2, m3, m4⟩, rfl, trivial⟩
theorem dty_cels {N n : Nat} {x : D} (h : DTy Tryd.prog N n 22 x) : ∃ l, x = celsD l ∧ l.length ≤ N := by
  obtain _ | n := n
  · exact h.elim
  simp only [DTy, Tryd.underlying22, go_sem] at h
  obtain ⟨xs, rfl, hl, hx⟩ := h
  obtain ⟨l, rfl, -⟩ := map_of fun x hx' => dty_cel (hx x hx')
  exact ⟨l, rfl, by simpa using hl⟩
theorem dty_cnd {n : Nat} {x : D} (h : DTy Tryd.prog reachBytes n 27 x) : ∃ c : Cnd, x = cndD c ∧ c.Ok := by
  obtain _ | n := n
  · exact h.elim
  simp only [DTy, Tryd.underlying27] at h
  obtain ⟨ds, rfl, hl, hx⟩ := h
  obtain ⟨a, b, c, d, e, f, g, i, rfl⟩ := eight_of hl
  obtain ⟨o, rfl, -⟩ := dty_str (hx 0 _ a rfl rfl)
  obtain ⟨w, rfl, -⟩ := dty_int (hx 1 _ b rfl rfl)
  obtain ⟨m, rfl, -⟩ := dty_int (hx 2 _ c rfl rfl)
  obtain ⟨m2, rfl, -⟩ := dty_int (hx 3 _ d rfl rfl)
  obtain ⟨m3, rfl, -⟩ := dty_int (hx 4 _ e rfl rfl)
  obtain ⟨m4, rfl, -⟩ := dty_int (hx 5 _ f rfl rfl)
  obtain ⟨y, rfl, hy⟩ := (dty_exs n).1 (hx 6 _ g rfl rfl)
  obtain ⟨z, rfl, hz⟩ := (dty_exs n).1 (hx 7 _ i rfl rfl)
  exact ⟨⟨o, w, m, m2, m3, m4, y, z⟩, by rw [Ex.d_eq y, Ex.d_eq z]; rfl, hy, hz⟩
end Go.Proofs.YtkjlefahpdconaaDoor
end PartR0

section PartE11
/- The program's Support: the closure that marks cells. -/
set_option linter.unusedSimpArgs false
set_option linter.unusedVariables false
set_option maxRecDepth 100000
namespace Go.Proofs.YtkjlefahpdconaaDoor
open Go Go.Ab

def markO (i k : Nat) (s : St) : St := match s[i]? with
  | some (some (.cells cs)) => s.set i (some (.cells (cs.set k (db true))))
  | _ => s
def markF (io inw : Nat) (n : Ex) (s : St) : St := if n.op = 3 then markO io n.n.toNat s else if n.op = 2 then markO inw n.n.toNat s else s
theorem markO_of {i k : Nat} {s : St} {cs : List A} (h : s[i]? = some (some (.cells cs))) : markO i k s = s.set i (some (.cells (cs.set k (db true)))) := by simp only [markO, h]
theorem splice_set {l : List A} {k : Nat} (h : k < l.length) (x : A) : l.take (k * 1) ++ x :: l.drop (k * 1 + 1) = l.set k x := by
  rw [Nat.mul_one, List.set_eq_take_append_cons_drop, if_pos h]
theorem markC_ac (n : Ex) (hop : n.op = 1 ∨ n.op = 2 ∨ n.op = 3) (hn : n.op ≠ 1 → 0 ≤ n.n ∧ n.n < 32) {io inw : Nat} (σ : St) (co cn : List A) (ho : σ[io]? = some (some (.cells co))) (hw : σ[inw]? = some (some (.cells cn))) (h1 : co.length = 32) (h2 : cn.length = 32)
    (G : Glob) (R : A → St → Prop) (h : ∀ r, R r (markF io inw n σ)) : AC Tryd.prog G 80 [.ea n.d 0, .ref io 0, .ref inw 0] σ R := by
  rw [Ex.d_eq]
  refine ac_enter' mixed Tryd.func80 rfl Tryd.ntmps80 (by simp only [go_sem]) fun hbd => ?_
  simp only [List.length_cons, List.length_nil, Nat.reduceAdd, Nat.reduceSub, List.replicate_succ, List.replicate_zero, List.cons_append, List.nil_append]
  rcases hop with o | o | o
  · have b3 : (n.op == 3) = false := by simp [o]
    have b2 : (n.op == 2) = false := by simp [o]
    simp only [go_sem, b3, b2, Tryd.results80]
    have := h (.tup [])
    rw [markF, if_neg (by omega), if_neg (by omega)] at this
    exact ⟨_, _, Weak.refl _ _ _ _, this⟩
  · have b3 : (n.op == 3) = false := by simp [o]
    have b2 : (n.op == 2) = true := by simp [o]
    simp only [go_sem, b3, b2, live_of hw, objK_of hw, Tryd.results80]
    have hb := hn (by omega)
    have hl : n.n.toNat < cn.length := by omega
    rw [splice_set hl]
    have := h (.tup [])
    rw [markF, if_neg (by omega), if_pos (by omega), markO_of hw] at this
    exact ⟨⟨by omega, by omega⟩, by omega, _, _, Weak.refl _ _ _ _, this⟩
  · have b3 : (n.op == 3) = true := by simp [o]
    simp only [go_sem, b3, live_of ho, objK_of ho, Tryd.results80]
    have hb := hn (by omega)
    have hl : n.n.toNat < co.length := by omega
    rw [splice_set hl]
    have := h (.tup [])
    rw [markF, if_pos (by omega), markO_of ho] at this
    exact ⟨⟨by omega, by omega⟩, by omega, _, _, Weak.refl _ _ _ _, this⟩
end Go.Proofs.YtkjlefahpdconaaDoor
end PartE11

section PartE12
/- The cells that are marked. -/
set_option linter.unusedSimpArgs false
set_option linter.unusedVariables false
set_option maxRecDepth 100000
namespace Go.Proofs.YtkjlefahpdconaaDoor
open Go Go.Ab

theorem lies_map {α : Type} (f : α → D) (hf : ∀ x, (f x).cells = [f x] ∧ (f x).one = true) (l : List α) : Lies (l.map fun x => A.d (f x)) 1 0 (l.map f) := by
  have e : flat (l.map f) = l.map fun x => A.d (f x) := by
    induction l with
    | nil => rfl
    | cons x l ih => rw [List.map_cons, flat_cons, ih, (hf x).1]; rfl
  rw [← e]
  refine lies_of fun x hx => ?_
  obtain ⟨y, _, rfl⟩ := List.mem_map.1 hx
  rw [(hf y).1]
  exact ⟨rfl, fun z hz => by simp at hz; rw [hz]; exact (hf y).2⟩
theorem lies_ints (l : List Int) : Lies (l.map fun x => A.d (iD x)) 1 0 (l.map iD) := lies_map iD (fun _ => ⟨rfl, rfl⟩) l
def ints (l : List Int) : Option Ob := some (.cells (l.map fun x => A.d (iD x)))
/-- The places of the true ones among the first j. -/
def idxL (bs : List Bool) (j : Nat) : List Int := ((List.range j).filter fun i => bs.getD i false).map Int.ofNat
theorem idxL_succ (bs : List Bool) (j : Nat) : idxL bs (j + 1) = idxL bs j ++ if bs.getD j false = true then [(j : Int)] else [] := by
  simp only [idxL, List.range_succ, List.filter_append, List.map_append]
  congr 1
  cases h : bs.getD j false
  · rw [List.filter_cons_of_neg (by rw [h]; simp)]; rfl
  · simp only [List.filter, h]; rfl
theorem idxL_len (bs : List Bool) (j : Nat) : (idxL bs j).length ≤ j := by
  simp only [idxL, List.length_map]
  exact Nat.le_trans (List.length_filter_le _ _) (by simp)
theorem toDs_map : ∀ l : List D, toDs (l.map .d) = some l
  | [] => rfl
  | x :: l => by simp only [List.map_cons, toDs, toDs_map l]; rfl
set_option maxHeartbeats 4000000 in
theorem members_ac (bs : List Bool) (hb : bs.length = 32) (σ : St) (G : Glob) (R : A → St → Prop) (h : R (.d (isD (idxL bs 32))) σ) : AC Tryd.prog G 81 [.d (.agg (bs.map D.bool))] σ R := by
  refine ac_enter mixed Tryd.func81 rfl Tryd.ntmps81 (by simp only [go_sem]) fun hbd => ?_
  simp only [List.length_cons, List.length_nil, Nat.reduceAdd, Nat.reduceSub, List.replicate_succ, List.replicate_zero, List.cons_append, List.nil_append]
  have htk : List.take 32 (List.map A.d (List.map D.bool bs)) = List.map A.d (List.map D.bool bs) := List.take_of_length_le (by simp [hb])
  simp only [go_sem, htk, toDs_map]
  refine ⟨by simp [hb], ?_⟩
  refine aw_loop (fun m fr st => ∃ j : Nat, j ≤ 32 ∧ m = 32 - j ∧ fr = [.any, .any, .any, .rs σ.length 1 0 (idxL bs j).length (some 3), .any, .any, .d (.agg (bs.map D.bool)), dn j, .any, .any, .any, .any, .any, .any, .any, .any, .any, .any] ∧ st = σ ++ [ints (idxL bs j)]) 32 _ ?_ ?_
  · exact ⟨_, _, (Weak.mask [3, 6, 7]).trans ((Weak.cut (Nat.le_refl _) hbd rfl).trans (Weak.empty 3 1 (some 3) rfl)), 0, by omega, rfl, by simp [maskN, idxL], by simp [ints, idxL]⟩
  rintro m fr st ⟨j, hj, hm, rfl, rfl⟩
  rcases Nat.lt_or_ge j 32 with hlt | hge
  · have hd : decide ((j : Int) < 32) = true := by simp; omega
    have e1 : List.getD (List.map D.bool bs) j default = .bool (bs.getD j false) := getD_mapD (by omega)
    have w2 := wrapS j (by omega)
    have hs := idxL_succ bs j
    have hln := idxL_len bs j
    cases hq : bs.getD j false with
    | true =>
      rw [hq] at e1 hs
      simp only [if_true] at hs
      simp only [go_sem, ints, hd, Nat.mul_one, e1, w2, List.length_map, Tryd.results81]
      refine ⟨⟨by omega, by omega, by omega⟩, ⟨by simp only [maxLen]; omega, by omega⟩, Wk.keep [3, 6, 7] [2] (by decide) (Nat.le_refl _) hbd ⟨32 - (j + 1), by omega, j + 1, hlt, rfl, ?_, ?_⟩⟩
      · rw [hs]; simp only [go_sem, List.length_append, List.length_cons, List.length_nil]
      · rw [hs]; simp only [go_sem, ints, List.map_append, List.map_cons, List.map_nil]
    | false =>
      rw [hq] at e1 hs
      simp only [Bool.false_eq_true, if_false, List.append_nil] at hs
      simp only [go_sem, hd, Nat.mul_one, e1, w2, List.length_map, Tryd.results81]
      refine ⟨⟨by omega, by omega, by omega⟩, Wk.mask [3, 6, 7] ⟨32 - (j + 1), by omega, j + 1, hlt, rfl, by rw [hs]; rfl, by rw [hs]⟩⟩
  · have hd : decide ((j : Int) < 32) = false := by simp; omega
    simp only [go_sem, hd, Tryd.results81]
    obtain rfl : j = 32 := by omega
    refine ret_frz 0 1 0 ((idxL bs 32).map iD) rfl (lies_ints _) ?_
    simp only [go_sem, List.length_map]
    exact ret_d hbd h
end Go.Proofs.YtkjlefahpdconaaDoor
end PartE12

section PartE13
/- The reference's Marked. -/
set_option linter.unusedSimpArgs false
set_option linter.unusedVariables false
set_option maxRecDepth 100000
namespace Go.Proofs.YtkjlefahpdconaaDoor
open Go Go.Ab

set_option maxHeartbeats 4000000 in
theorem marked_ac (bs : List Bool) (hb : bs.length ≤ 1000) (σ : St) (G : Glob) (R : A → St → Prop) (h : R (.d (isD (idxL bs bs.length))) σ) : AC Tryd.prog G 57 [.d (bsD bs)] σ R := by
  refine ac_enter mixed Tryd.func57 rfl Tryd.ntmps57 (by simp only [go_sem]) fun hbd => ?_
  simp only [List.length_cons, List.length_nil, Nat.reduceAdd, Nat.reduceSub, List.replicate_succ, List.replicate_zero, List.cons_append, List.nil_append]
  simp only [bsD, go_sem]
  refine aw_loop (fun m fr st => ∃ j : Nat, j ≤ bs.length ∧ m = bs.length - j ∧ fr = [.d (.sl 1 (bs.map D.bool)), .any, .any, .rs σ.length 1 0 (idxL bs j).length (some 3), dn j, .any, .any, .any, .any, .any, .any, .any, .any, .any, .any, .any, .any, .any, .any, .any] ∧ st = σ ++ [ints (idxL bs j)]) bs.length _ ?_ ?_
  · exact ⟨_, _, (Weak.mask [0, 3, 4]).trans (Weak.empty 3 1 (some 3) rfl), 0, by omega, rfl, by simp [maskN, idxL], by simp [ints, idxL]⟩
  rintro m fr st ⟨j, hj, hm, rfl, rfl⟩
  rcases Nat.lt_or_ge j bs.length with hlt | hge
  · have hd : decide ((j : Int) < (bs.length : Int)) = true := by simp; omega
    have e1 : List.getD (List.map D.bool bs) j default = .bool (bs.getD j false) := getD_mapD (by omega)
    have w2 := wrapS j (by omega)
    have hs := idxL_succ bs j
    have hln := idxL_len bs j
    cases hq : bs.getD j false with
    | true =>
      rw [hq] at e1 hs
      simp only [if_true] at hs
      simp only [go_sem, ints, hd, e1, w2, List.length_map, Tryd.results57]
      refine ⟨⟨by omega, by omega⟩, ⟨by first | rfl | (simp only [maxLen]; omega) | simp, by simp only [maxLen]; omega, by omega⟩, Wk.keep [0, 3, 4] [2] (by decide) (Nat.le_refl _) hbd ⟨bs.length - (j + 1), by omega, j + 1, hlt, rfl, ?_, ?_⟩⟩
      · rw [hs]; simp only [go_sem, List.length_append, List.length_cons, List.length_nil]
      · rw [hs]; simp only [go_sem, ints, List.map_append, List.map_cons, List.map_nil]
    | false =>
      rw [hq] at e1 hs
      simp only [Bool.false_eq_true, if_false, List.append_nil] at hs
      simp only [go_sem, hd, e1, w2, List.length_map, Tryd.results57]
      refine ⟨⟨by omega, by omega⟩, Wk.mask [0, 3, 4] ⟨bs.length - (j + 1), by omega, j + 1, hlt, rfl, by rw [hs]; rfl, by rw [hs]⟩⟩
  · have hd : decide ((j : Int) < (bs.length : Int)) = false := by simp; omega
    simp only [go_sem, hd, List.length_map, Tryd.results57]
    obtain rfl : j = bs.length := by omega
    refine ret_frz 0 1 0 ((idxL bs bs.length).map iD) rfl (lies_ints _) ?_
    simp only [go_sem, List.length_map]
    exact ret_d hbd h
end Go.Proofs.YtkjlefahpdconaaDoor
end PartE13
