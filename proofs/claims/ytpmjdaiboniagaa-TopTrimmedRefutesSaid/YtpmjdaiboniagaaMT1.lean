import Derived.Test.YtpmjdaiboniagaaFacts
import Derived.Test.YtpmjdaiboniagaaRows
import Derived.Test.YtpmjdaiboniagaaAbPlain
import Derived.Stop.Joined

section PartC1
/- Formulas, steps: what they are as data; plain functions. -/
namespace Go.Proofs.Ytpmjdaiboniagaa
open Go Go.Ab

theorem wrap64_id (x : Int) (h0 : -9223372036854775808 ≤ x) (h1 : x ≤ 9223372036854775807) : IntKind.i64.wrap x = x := by
  rw [IntKind.wrap_i64]; omega
theorem wrapS (j : Nat) (h : j < 9223372036854775807) : IntKind.i64.wrap ((j : Int) + 1) = ((j + 1 : Nat) : Int) := by
  rw [wrap64_id _ (by omega) (by omega)]; rfl
abbrev iD (n : Int) : D := .int .i64 n
abbrev di (n : Int) : A := .d (.int .i64 n)
abbrev dn (n : Nat) : A := .d (.int .i64 n)
abbrev db (b : Bool) : A := .d (.bool b)
def isD (l : List Int) : D := .sl 1 (l.map iD)
def clsD (c : List (List Int)) : D := .sl 1 (c.map isD)
def bsD (l : List Bool) : D := .sl 1 (l.map .bool)
structure Cnf where
  vars : Int
  cls : List (List Int)
structure Stp where
  lits : List Int
  hints : List Int
def cnfD (f : Cnf) : D := .agg [iD f.vars, clsD f.cls]
def stpD (s : Stp) : D := .agg [isD s.lits, isD s.hints]
def stpsD (l : List Stp) : D := .sl 2 (l.map stpD)
/-- A machine's integer. -/
def I64 (x : Int) : Prop := -9223372036854775808 ≤ x ∧ x ≤ 9223372036854775807
theorem getD_mapD {α : Type} {f : α → D} {l : List α} {j : Nat} {d : α} (h : j < l.length) : List.getD (l.map f) j default = f (l.getD j d) := by
  rw [List.getD_eq_getElem?_getD, List.getElem?_map, List.getD_eq_getElem?_getD, List.getElem?_eq_getElem h]; rfl
theorem drop_getD {α : Type} {l : List α} {j : Nat} (d : α) (h : j < l.length) : l.drop j = l.getD j d :: l.drop (j + 1) := by
  rw [List.drop_eq_getElem_cons h, List.getD_eq_getElem?_getD, List.getElem?_eq_getElem h]; rfl
theorem getD_mem {α : Type} {l : List α} {j : Nat} (d : α) (h : j < l.length) : l.getD j d ∈ l := by
  rw [List.getD_eq_getElem?_getD, List.getElem?_eq_getElem h]; exact List.getElem_mem h
theorem cells_isD (l : List Int) : (isD l).cells = [isD l] := rfl

/-- The variable of a literal (of the least integer: itself). -/
def absI (l : Int) : Int := if l < 0 then IntKind.i64.wrap (0 - l) else l
def litOk (vars l : Int) : Bool := !(l == 0 || decide (l > vars) || decide (l < -vars))
/-- Is a formula well-formed? -/
def validC (f : Cnf) : Bool := !(decide (f.vars < 0) || decide (f.vars > 8000) || decide ((40000 : Int) < f.cls.length)) && f.cls.all fun c => c.all (litOk f.vars)
theorem isD_getD {cls : List (List Int)} {j : Nat} (h : j < cls.length) : List.getD (cls.map isD) j default = .sl 1 ((cls.getD j []).map iD) := getD_mapD (f := isD) (d := []) h
theorem stpD_getD {l : List Stp} {j : Nat} (h : j < l.length) : List.getD (l.map stpD) j default = .agg [isD (l.getD j ⟨[], []⟩).lits, isD (l.getD j ⟨[], []⟩).hints] := getD_mapD (f := stpD) (d := ⟨[], []⟩) h
/-- Is a literal true? -/
def holdsL (v : List Bool) (l : Int) : Bool := (v.getD (l.natAbs - 1) false) == decide (0 < l)
def evalC (f : Cnf) (v : List Bool) : Bool := f.cls.all fun c => c.any (holdsL v)
theorem absI_of {l : Int} (h : -8000 ≤ l ∧ l ≤ 8000) : absI l = (l.natAbs : Nat) := by
  unfold absI
  split
  · rw [wrap64_id _ (by omega) (by omega)]; omega
  · omega
theorem litOk_iff {v l : Int} : litOk v l = true ↔ l ≠ 0 ∧ l ≤ v ∧ -v ≤ l := by
  simp only [litOk, Bool.not_eq_true', Bool.or_eq_false_iff, beq_eq_false_iff_ne, decide_eq_false_iff_not]; omega
theorem validC_iff {f : Cnf} : validC f = true ↔ (0 ≤ f.vars ∧ f.vars ≤ 8000 ∧ f.cls.length ≤ 40000) ∧ ∀ c ∈ f.cls, ∀ l ∈ c, l ≠ 0 ∧ l ≤ f.vars ∧ -f.vars ≤ l := by
  simp only [validC, Bool.and_eq_true, Bool.not_eq_true', Bool.or_eq_false_iff, decide_eq_false_iff_not, List.all_eq_true, litOk_iff]
  constructor <;> rintro ⟨h, k⟩ <;> exact ⟨by omega, k⟩
/-- Are a formula and steps small? -/
def smallC (f : Cnf) (l : List Stp) : Bool := !(decide ((40 : Int) < f.cls.length) || decide ((60 : Int) < l.length)) && (f.cls.all (fun c => !decide ((12 : Int) < c.length)) && l.all fun s => !(decide ((12 : Int) < s.lits.length) || decide ((40 : Int) < s.hints.length)))
theorem smallC_iff {f : Cnf} {l : List Stp} : smallC f l = true ↔ (f.cls.length ≤ 40 ∧ l.length ≤ 60) ∧ (∀ c ∈ f.cls, c.length ≤ 12) ∧ ∀ s ∈ l, s.lits.length ≤ 12 ∧ s.hints.length ≤ 40 := by
  simp only [smallC, Bool.and_eq_true, Bool.not_eq_true', Bool.or_eq_false_iff, decide_eq_false_iff_not, List.all_eq_true]
  constructor
  · rintro ⟨h, k, m⟩
    exact ⟨by omega, fun c hc => by have := k c hc; omega, fun s hs => by have := m s hs; omega⟩
  · rintro ⟨h, k, m⟩
    exact ⟨by omega, fun c hc => by have := k c hc; omega, fun s hs => by have := m s hs; omega⟩
/-- The literals of a step, one by one. -/
def litsFrom (vars : Int) : List Int → List Int → Bool
  | _, [] => true
  | pre, l :: r => !(decide (absI l < 1) || decide (vars < absI l)) && (!(pre.any fun x => absI x == absI l) && litsFrom vars (pre ++ [l]) r)
def hintsOk (num : Int) (hints : List Int) : Bool := hints.all fun h => !(decide (h < 0) || decide (num ≤ h))
def stepOk (vars num : Int) (s : Stp) : Bool := litsFrom vars [] s.lits && hintsOk num s.hints
def stepsOk (vars : Int) : Nat → List Stp → Bool
  | _, [] => true
  | n, s :: r => stepOk vars n s && stepsOk vars (n + 1) r
def clauseAt (cls : List (List Int)) (l : List Stp) (n : Nat) : List Int := if n < cls.length then cls.getD n [] else (l.getD (n - cls.length) ⟨[], []⟩).lits
/-- The open literal of a unit clause, or 0. -/
def unitS (T : List Int) : List Int → Int → Int
  | [], o => o
  | l :: c, o => if l ∈ T then 0 else if -l ∈ T ∨ l = o then unitS T c o else if o ≠ 0 then 0 else unitS T c l
def falsS (T c : List Int) : Bool := c.all fun l => decide (-l ∈ T)
/-- Is a step justified, as the reference has it? -/
def justR (cl : Nat → List Int) (T : List Int) : List Int → Bool
  | [] => false
  | [h] => falsS T (cl h.toNat)
  | h :: hs => let u := unitS T (cl h.toNat) 0
    if u = 0 then false else justR cl (T ++ [u]) hs
theorem justR_two (cl : Nat → List Int) (T : List Int) (h y : Int) (r : List Int) : justR cl T (h :: y :: r) = if unitS T (cl h.toNat) 0 = 0 then false else justR cl (T ++ [unitS T (cl h.toNat) 0]) (y :: r) := rfl
/-- Formulas and steps of a size that is gone through. -/
structure Fine (f : Cnf) (l : List Stp) : Prop where
  vars : I64 f.vars
  cls : f.cls.length ≤ 1000
  len : ∀ c ∈ f.cls, c.length ≤ reachBytes
  steps : l.length ≤ 1000
  lits : ∀ s ∈ l, s.lits.length ≤ 1000 ∧ s.hints.length ≤ 1000 ∧ ∀ x ∈ s.lits, I64 x
def negs (l : List Int) : List Int := l.map fun x => -x
def goodR (f : Cnf) (before : List Stp) (s : Stp) : Bool := stepOk f.vars ((f.cls.length + before.length : Nat) : Int) s && justR (clauseAt f.cls before) (negs s.lits) s.hints
/-- The first step that is not good, from k on. -/
def chkFrom (good : List Stp → Stp → Bool) (l : List Stp) : Nat → List Stp → Int × Int
  | _, [] => (-1, 0)
  | k, s :: r => if good (l.take k) s then chkFrom good l (k + 1) r else ((k : Int), 260)
def chk (good : List Stp → Stp → Bool) (f : Cnf) (l : List Stp) : Int × Int := if !validC f then (-1, 210) else if (20000 : Int) < l.length then (-1, 2) else chkFrom good l 0 l
theorem absI_range {l v : Int} (hl : I64 l) (h1 : ¬ absI l < 1) (h2 : ¬ v < absI l) : -v ≤ l ∧ l ≤ v ∧ l ≠ 0 := by
  unfold absI at h1 h2
  unfold I64 at hl
  split at h1
  · rename_i h0
    rw [if_pos h0] at h2
    by_cases hm : l = -9223372036854775808
    · subst hm
      rw [IntKind.wrap_i64] at h1; omega
    · rw [wrap64_id _ (by omega) (by omega)] at h1 h2; omega
  · rename_i h0
    rw [if_neg h0] at h2; omega
theorem litsFrom_range {v : Int} : ∀ {pre l : List Int}, (∀ x ∈ l, I64 x) → litsFrom v pre l = true → ∀ x ∈ l, -v ≤ x ∧ x ≤ v ∧ x ≠ 0
  | _, [], _, _, x, hx => by cases hx
  | pre, y :: l, hw, h, x, hx => by
    simp only [litsFrom, Bool.and_eq_true, Bool.not_eq_true', Bool.or_eq_false_iff, decide_eq_false_iff_not] at h
    rcases List.mem_cons.1 hx with rfl | hx
    · exact absI_range (hw _ (by simp)) h.1.1 h.1.2
    · exact litsFrom_range (fun z hz => hw z (by simp [hz])) h.2.2 x hx
theorem hintsOk_range {n : Int} {l : List Int} (h : hintsOk n l = true) : ∀ x ∈ l, 0 ≤ x ∧ x < n := fun x hx => by
  have := List.all_eq_true.1 h x hx
  simp only [Bool.not_eq_true', Bool.or_eq_false_iff, decide_eq_false_iff_not] at this
  omega
theorem clauseAt_all {cls : List (List Int)} {l : List Stp} {p : List Int → Prop} (h0 : p []) (h1 : ∀ c ∈ cls, p c) (h2 : ∀ s ∈ l, p s.lits) (n : Nat) : p (clauseAt cls l n) := by
  unfold clauseAt
  split
  · rename_i h; exact h1 _ (getD_mem [] h)
  · rcases Nat.lt_or_ge (n - cls.length) l.length with h | h
    · exact h2 _ (getD_mem _ h)
    · rw [List.getD_eq_getElem?_getD, List.getElem?_eq_none h]; exact h0
end Go.Proofs.Ytpmjdaiboniagaa
end PartC1

section PartRB
/- What the rows of this seat share: the start; data of the laws' types. -/
set_option maxRecDepth 100000
namespace Go.Proofs.Ytpmjdaiboniagaa
open Go Go.Ab Go.RowKit Go.ChangeShapes Go.WideShapes
theorem own : ownKnob Try.prog.godebug = none := by kernel_rfl
theorem i64_of_wf {z : Int} (h : (Lit.int .i64 z).wf = true) : I64 z := by
  have h1 : IntKind.min .i64 = -9223372036854775808 := rfl
  have h2 : IntKind.max .i64 = 9223372036854775807 := rfl
  simp only [Lit.wf, Bool.and_eq_true, decide_eq_true_eq, h1, h2] at h
  exact h
theorem map_of {α : Type} {f : α → D} {p : α → Prop} : ∀ {xs : List D}, (∀ x ∈ xs, ∃ y, x = f y ∧ p y) → ∃ l : List α, xs = l.map f ∧ ∀ y ∈ l, p y
  | [], _ => ⟨[], rfl, fun y hy => by cases hy⟩
  | x :: xs, h => by
    obtain ⟨y, rfl, hy⟩ := h x (by simp)
    obtain ⟨l, rfl, hl⟩ := map_of (f := f) (p := p) (xs := xs) fun z hz => h z (by simp [hz])
    exact ⟨y :: l, rfl, fun z hz => by rcases List.mem_cons.1 hz with rfl | hz; exact hy; exact hl z hz⟩
theorem dty_int {N n : Nat} {x : D} (h : DTy Try.prog N n 3 x) : ∃ z, x = iD z ∧ I64 z := by
  obtain _ | n := n
  · exact h.elim
  simp only [DTy, Try.underlying3] at h
  obtain ⟨z, rfl, hw⟩ := h
  exact ⟨z, rfl, i64_of_wf hw⟩
theorem dty_bool {N n : Nat} {x : D} (h : DTy Try.prog N n 4 x) : ∃ b, x = .bool b ∧ True := by
  obtain _ | n := n
  · exact h.elim
  simp only [DTy, Try.underlying4] at h
  obtain ⟨b, rfl⟩ := h
  exact ⟨b, rfl, trivial⟩
theorem dty_u8' {N n : Nat} {x : D} (h : DTy Try.prog N n 5 x) : ∃ b : Nat, x = .int .u8 b ∧ b ≤ 255 := by
  obtain _ | n := n
  · exact h.elim
  simp only [DTy, Try.underlying5] at h
  obtain ⟨z, rfl, hw⟩ := h
  obtain ⟨m, rfl, hm⟩ := nat_of_wf_u8 hw
  exact ⟨m, rfl, hm⟩
theorem dty_ints {N n : Nat} {x : D} (h : DTy Try.prog N n 25 x) : ∃ l, x = isD l ∧ l.length ≤ N ∧ ∀ y ∈ l, I64 y := by
  obtain _ | n := n
  · exact h.elim
  simp only [DTy, Try.underlying25, go_sem] at h
  obtain ⟨xs, rfl, hl, hx⟩ := h
  obtain ⟨l, rfl, hl2⟩ := map_of fun x hx' => dty_int (hx x hx')
  exact ⟨l, rfl, by simpa using hl, hl2⟩
theorem dty_bools {N n : Nat} {x : D} (h : DTy Try.prog N n 35 x) : ∃ l, x = bsD l ∧ l.length ≤ N := by
  obtain _ | n := n
  · exact h.elim
  simp only [DTy, Try.underlying35, go_sem] at h
  obtain ⟨xs, rfl, hl, hx⟩ := h
  obtain ⟨l, rfl, -⟩ := map_of fun x hx' => dty_bool (hx x hx')
  exact ⟨l, rfl, by simpa using hl⟩
theorem dty_cls {N n : Nat} {x : D} (h : DTy Try.prog N n 22 x) : ∃ c, x = clsD c ∧ c.length ≤ N ∧ ∀ l ∈ c, l.length ≤ N ∧ ∀ y ∈ l, I64 y := by
  obtain _ | n := n
  · exact h.elim
  simp only [DTy, Try.underlying22, go_sem] at h
  obtain ⟨xs, rfl, hl, hx⟩ := h
  obtain ⟨c, rfl, hc⟩ := map_of fun x hx' => dty_ints (hx x hx')
  exact ⟨c, rfl, by simpa using hl, hc⟩
theorem two_of {ds : List D} (h : ds.length = 2) : ∃ a b, ds = [a, b] := by
  match ds, h with
  | [a, b], _ => exact ⟨a, b, rfl⟩
theorem dty_cnf {N n : Nat} {x : D} (h : DTy Try.prog N n 24 x) : ∃ f, x = cnfD f ∧ I64 f.vars ∧ f.cls.length ≤ N ∧ ∀ l ∈ f.cls, l.length ≤ N ∧ ∀ y ∈ l, I64 y := by
  obtain _ | n := n
  · exact h.elim
  simp only [DTy, Try.underlying24] at h
  obtain ⟨ds, rfl, hl, hx⟩ := h
  obtain ⟨a, b, rfl⟩ := two_of hl
  obtain ⟨v, rfl, hv⟩ := dty_int (hx 0 _ a rfl rfl)
  obtain ⟨c, rfl, hc⟩ := dty_cls (hx 1 _ b rfl rfl)
  exact ⟨⟨v, c⟩, rfl, hv, hc⟩
theorem dty_stp {N n : Nat} {x : D} (h : DTy Try.prog N n 50 x) : ∃ s, x = stpD s ∧ (s.lits.length ≤ N ∧ ∀ y ∈ s.lits, I64 y) ∧ (s.hints.length ≤ N ∧ ∀ y ∈ s.hints, I64 y) := by
  obtain _ | n := n
  · exact h.elim
  simp only [DTy, Try.underlying50] at h
  obtain ⟨ds, rfl, hl, hx⟩ := h
  obtain ⟨a, b, rfl⟩ := two_of hl
  obtain ⟨v, rfl, hv⟩ := dty_ints (hx 0 _ a rfl rfl)
  obtain ⟨c, rfl, hc⟩ := dty_ints (hx 1 _ b rfl rfl)
  exact ⟨⟨v, c⟩, rfl, hv, hc⟩
theorem dty_stps {N n : Nat} {x : D} (h : DTy Try.prog N n 44 x) : ∃ l, x = stpsD l ∧ l.length ≤ N ∧ ∀ s ∈ l, (s.lits.length ≤ N ∧ ∀ y ∈ s.lits, I64 y) ∧ (s.hints.length ≤ N ∧ ∀ y ∈ s.hints, I64 y) := by
  obtain _ | n := n
  · exact h.elim
  simp only [DTy, Try.underlying44, go_sem] at h
  obtain ⟨xs, rfl, hl, hx⟩ := h
  obtain ⟨l, rfl, hl2⟩ := map_of fun x hx' => dty_stp (hx x hx')
  exact ⟨l, rfl, by simpa using hl, hl2⟩
end Go.Proofs.Ytpmjdaiboniagaa
end PartRB

section PartC7
/- Sorting few integers, in place. -/
set_option linter.unusedSimpArgs false
set_option maxRecDepth 100000
namespace Go.Proofs.Ytpmjdaiboniagaa
open Go Go.Ab

theorem nan_ac (x : Int) (σ : St) (G : Glob) (R : A → St → Prop) (h : R (db false) σ) : AC Try.prog G 119 [di x] σ R := by
  refine ac_enter mixed Try.func119 rfl Try.ntmps119 (by simp only [go_sem]) fun hbd => ?_
  simp only [List.length_cons, List.length_nil, Nat.reduceAdd, Nat.reduceSub, List.replicate_succ, List.replicate_zero, List.cons_append, List.nil_append]
  simp only [go_sem, Try.results119, bne_self_eq_false]
  exact ret_d0 h
theorem less_ac (x y : Int) (σ : St) (G : Glob) (R : A → St → Prop) (h : R (db (decide (x < y))) σ) : AC Try.prog G 109 [di x, di y] σ R := by
  refine ac_enter mixed Try.func109 rfl Try.ntmps109 (by simp only [go_sem]) fun hbd => ?_
  simp only [List.length_cons, List.length_nil, Nat.reduceAdd, Nat.reduceSub, List.replicate_succ, List.replicate_zero, List.cons_append, List.nil_append]
  simp only [go_sem]
  refine ac' (nan_ac _ _ _ _ ?_)
  simp only [go_sem]
  refine ex' (.bool false) ⟨fun hc => Bool.noConfusion hc, ?_⟩
  simp only [go_sem, Try.results109]
  exact ret_d0 h
abbrev ints (l : List Int) : Option Ob := some (.cells (l.map fun x => A.d (iD x)))
theorem getD_mapA {l : List Int} {j : Nat} (h : j < l.length) : List.getD (l.map fun x => A.d (iD x)) j .any = A.d (iD (l.getD j 0)) := by
  rw [List.getD_eq_getElem?_getD, List.getElem?_map, List.getD_eq_getElem?_getD, List.getElem?_eq_getElem h]; rfl
end Go.Proofs.Ytpmjdaiboniagaa
end PartC7

section PartC8
/- Insertion sort. -/
set_option linter.unusedSimpArgs false
set_option maxRecDepth 100000
namespace Go.Proofs.Ytpmjdaiboniagaa
open Go Go.Ab

theorem objK_set {σ : St} {id : Nat} {cs : List A} {k : List A → Prop} (h : id < σ.length) : objK (σ.set id (some (.cells cs))) id k = k cs := by
  simp only [objK, List.getElem?_set, if_pos h, if_true]
theorem live_set {σ : St} {id : Nat} {o : Ob} (h : id < σ.length) : liveId (σ.set id (some o)) id = true := by
  simp only [liveId, List.getElem?_set, if_pos h, if_true]
theorem set_same {σ : St} {id : Nat} {o : Option Ob} (h : σ[id]? = some o) : σ.set id o = σ := by
  apply List.ext_getElem?
  intro k
  rw [List.getElem?_set]
  split
  · rename_i e; subst e
    rw [if_pos (List.getElem?_eq_some_iff.1 h).1, h]
  · rfl
theorem splice_ints {l : List Int} {j : Nat} (x : Int) (h : j < l.length) : (l.map fun x => A.d (iD x)).take j ++ [A.d (iD x)] ++ (l.map fun x => A.d (iD x)).drop (j + 1) = (l.set j x).map fun x => A.d (iD x) := by
  rw [← List.map_take, ← List.map_drop, List.set_eq_take_append_cons_drop, if_pos h]
  simp
theorem splice_ints' {l : List Int} {j : Nat} (x : Int) (h : j < l.length) : (l.map fun x => A.d (iD x)).take j ++ A.d (iD x) :: (l.map fun x => A.d (iD x)).drop (j + 1) = (l.set j x).map fun x => A.d (iD x) := by
  rw [← splice_ints x h]; simp
theorem set_getD {l : List Int} {j k : Nat} {x : Int} (h : j < l.length) : (l.set j x).getD k 0 = if k = j then x else l.getD k 0 := by
  rw [List.getD_eq_getElem?_getD, List.getElem?_set, List.getD_eq_getElem?_getD]
  split
  · rename_i e; subst e; simp [h]
  · rename_i e; rw [if_neg (fun e' => e e'.symm)]
/-- Neighbours change places. -/
theorem swap_perm : ∀ {l : List Int} {j : Nat}, j + 1 < l.length → ((l.set (j + 1) (l.getD j 0)).set j (l.getD (j + 1) 0)).Perm l
  | [], j, h => by simp at h
  | [x], j, h => by simp at h
  | x :: y :: l, 0, _ => by simpa [List.getD] using List.Perm.swap x y l
  | x :: y :: l, j + 1, h => by
    have := swap_perm (l := y :: l) (j := j) (by simpa using h)
    simpa [List.getD] using this.cons x
/-- Sorting the cells of an object of the caller's, in place. -/
theorem insort_ac (l : List Int) (hl : l.length ≤ 12) (σ : St) (id : Nat) (w : Option TypeId) (hσ : σ[id]? = some (ints l)) (G : Glob) (R : A → St → Prop)
    (h : ∀ (r : A) (l' : List Int), l'.Perm l → (∀ p q, p < q → q < l.length → l'.getD p 0 ≤ l'.getD q 0) → R r (σ.set id (ints l'))) : AC Try.prog G 103 [.rs id 1 0 l.length w, dn 0, dn l.length] σ R := by
  refine ac_enter mixed Try.func103 rfl Try.ntmps103 (by simp only [go_sem]) fun hbd => ?_
  simp only [List.length_cons, List.length_nil, Nat.reduceAdd, Nat.reduceSub, List.replicate_succ, List.replicate_zero, List.cons_append, List.nil_append]
  have w1 : IntKind.i64.wrap (0 + 1) = ((1 : Nat) : Int) := by rw [wrap64_id _ (by omega) (by omega)]; rfl
  have hid : id < σ.length := (List.getElem?_eq_some_iff.1 hσ).1
  simp only [go_sem, w1]
  refine aw_loop (fun m fr st => ∃ (i : Nat) (l' : List Int), 1 ≤ i ∧ m = l.length - i ∧ l'.Perm l ∧ (∀ p q, p < q → q < i → l'.getD p 0 ≤ l'.getD q 0) ∧ st = σ.set id (ints l') ∧ fr = [.rs id 1 0 l.length w, dn 0, dn l.length, .any, .any, .any, dn i, .any, .any, .any, .any, .any, .any, .any, .any, .any, .any, .any, .any, .any, .any, .any, .any, .any, .any, .any, .any, .any, .any, .any, .any, .any, .any, .any, .any, .any, .any, .any, .any, .any, .any, .any, .any, .any, .any, .any, .any, .any, .any]) (l.length - 1) _
    (Wk.mask [0, 1, 2, 6] ⟨1, l, by omega, rfl, .refl _, fun p q h1 h2 => by omega, (set_same hσ).symm, rfl⟩) ?_
  rintro m fr st ⟨i, l', hi, hm, hp, hs, rfl, rfl⟩
  rcases Nat.lt_or_ge i l.length with hlt | hge
  · have hd : decide ((i : Int) < (l.length : Int)) = true := decide_eq_true (by omega)
    have w2 := wrapS i (by omega)
    simp only [go_sem, hd, w2]
    refine aw_loop (fun m fr st => ∃ (j : Nat) (l' : List Int), j ≤ i ∧ m = j ∧ l'.Perm l ∧ (∀ p q, p < q → q ≤ i → q ≠ j → l'.getD p 0 ≤ l'.getD q 0) ∧ st = σ.set id (ints l') ∧ fr = [.rs id 1 0 l.length w, dn 0, dn l.length, .any, .any, .any, dn i, dn j, .any, .any, .any, .any, .any, .any, .any, .any, .any, .any, .any, .any, .any, .any, .any, .any, .any, .any, .any, .any, .any, .any, .any, .any, .any, .any, .any, .any, .any, .any, .any, .any, .any, .any, .any, .any, .any, .any, .any, .any, .any]) i _
      (Wk.mask [0, 1, 2, 6, 7] ⟨i, l', by omega, rfl, hp, fun p q h1 h2 h3 => hs p q h1 (by omega), rfl, rfl⟩) ?_
    clear hs hp
    rintro m' fr st ⟨j, l'', hj, rfl, hp, hs, rfl, rfl⟩
    have hlen : l''.length = l.length := hp.length_eq
    rcases Nat.eq_zero_or_pos m' with h0 | h0
    · subst h0
      have d0 : decide (((0 : Nat) : Int) < ((0 : Nat) : Int)) = false := rfl
      simp only [go_sem, objK_set hid, live_set hid, d0]
      refine ex' (.bool false) ⟨fun hc => Bool.noConfusion hc, ?_⟩
      simp only [go_sem, w2]
      exact Wk.mask [0, 1, 2, 6] ⟨l.length - (i + 1), by omega, i + 1, l'', by omega, rfl, hp, fun p q h1 h2 => hs p q h1 (by omega) (by omega), rfl, rfl⟩
    · have d0 : decide (((0 : Nat) : Int) < (m' : Int)) = true := decide_eq_true (by omega)
      have w3 : IntKind.i64.wrap ((m' : Int) - 1) = ((m' - 1 : Nat) : Int) := by rw [wrap64_id _ (by omega) (by omega)]; omega
      have e1 : List.getD (l''.map fun x => A.d (iD x)) m' .any = A.d (iD (l''.getD m' 0)) := getD_mapA (by omega)
      have e2 : List.getD (l''.map fun x => A.d (iD x)) (m' - 1) .any = A.d (iD (l''.getD (m' - 1) 0)) := getD_mapA (by omega)
      simp only [go_sem, objK_set hid, live_set hid, d0, w3, e1, e2, Nat.mul_one, Nat.zero_add, List.length_map]
      refine ⟨by omega, by omega, by omega, by omega, ex' (.bool (decide (l''.getD m' 0 < l''.getD (m' - 1) 0))) ⟨fun hc => ?_, ?_⟩⟩
      · simp only [go_sem, e1, e2]
        refine ac' (less_ac _ _ _ _ _ ?_)
        exact ⟨rfl, rfl⟩
      simp only [go_sem, objK_set hid, live_set hid, w3, e1, e2, Nat.mul_one, Nat.zero_add, List.length_map, List.set_set]
      refine ⟨fun hc => ⟨⟨by omega, by omega⟩, by omega, ⟨by omega, by omega⟩, by omega, ⟨by omega, by omega⟩, by omega, ⟨by omega, by omega⟩, by simp only [List.length_take, List.length_drop, List.length_map]; omega, ?_⟩, fun hc => ?_⟩
      · obtain ⟨j, rfl⟩ : ∃ j, m' = j + 1 := ⟨m' - 1, by omega⟩
        simp only [decide_eq_true_eq, Nat.add_sub_cancel] at hc
        refine Wk.mask [0, 1, 2, 6, 7] ⟨j, by omega, j, (l''.set (j + 1) (l''.getD j 0)).set j (l''.getD (j + 1) 0), by omega, rfl, (swap_perm (by omega)).trans hp, fun p q h1 h2 h3 => ?_, ?_, rfl⟩
        · have gk : ∀ k, ((l''.set (j + 1) (l''.getD j 0)).set j (l''.getD (j + 1) 0)).getD k 0 = if k = j then l''.getD (j + 1) 0 else if k = j + 1 then l''.getD j 0 else l''.getD k 0 := fun k => by
            rw [set_getD (by simp; omega), set_getD (by omega)]
          rw [gk p, gk q]
          by_cases q1 : q = j + 1
          · rw [if_neg (show ¬ q = j by omega), if_pos q1]
            by_cases p1 : p = j
            · rw [if_pos p1]; omega
            · rw [if_neg p1, if_neg (show ¬ p = j + 1 by omega)]; exact hs p j (by omega) (by omega) (by omega)
          · rw [if_neg (show ¬ q = j from h3), if_neg q1]
            by_cases p1 : p = j
            · rw [if_pos p1]; exact hs (j + 1) q (by omega) h2 q1
            · by_cases p2 : p = j + 1
              · rw [if_neg p1, if_pos p2]; exact hs j q (by omega) h2 q1
              · rw [if_neg p1, if_neg p2]; exact hs p q h1 h2 q1
        · simp only [Nat.add_sub_cancel]
          rw [splice_ints' _ (by omega), splice_ints' _ (by simp; omega)]
      · simp only [w2]
        simp only [decide_eq_false_iff_not] at hc
        refine Wk.mask [0, 1, 2, 6] ⟨l.length - (i + 1), by omega, i + 1, l'', by omega, rfl, hp, fun p q h1 h2 => ?_, rfl, rfl⟩
        by_cases hq : q = m'
        · subst hq
          by_cases hp1 : p = q - 1
          · subst hp1; omega
          · have := hs p (q - 1) (by omega) (by omega) (by omega); omega
        · exact hs p q h1 (by omega) hq
  · have hd : decide ((i : Int) < (l.length : Int)) = false := decide_eq_false (by omega)
    simp only [go_sem, hd, Try.results103]
    exact ⟨_, _, Weak.refl _ _ _ _, h _ l' hp fun p q h1 h2 => hs p q h1 (by omega)⟩
end Go.Proofs.Ytpmjdaiboniagaa
end PartC8

section PartU1
/- Heaps of integers, as lists. -/
set_option linter.unusedSimpArgs false
set_option linter.unusedVariables false
namespace Go.Proofs.Ytpmjdaiboniagaa
open Go Go.Ab

def swapL (l : List Int) (i j : Nat) : List Int := (l.set i (l.getD j 0)).set j (l.getD i 0)
theorem swapL_len (l : List Int) (i j : Nat) : (swapL l i j).length = l.length := by simp [swapL]
theorem swapL_getD {l : List Int} {i j k : Nat} (hi : i < l.length) (hj : j < l.length) : (swapL l i j).getD k 0 = if k = j then l.getD i 0 else if k = i then l.getD j 0 else l.getD k 0 := by
  unfold swapL
  rw [set_getD (by simpa using hj), set_getD hi]
theorem list_range (l : List Int) : l = (List.range l.length).map fun i => l.getD i 0 := by
  apply List.ext_getElem?
  intro k
  rcases Nat.lt_or_ge k l.length with hk | hk
  · simp [List.getD_eq_getElem?_getD, hk]
  · simp [hk]
theorem perm_of_getD {l m : List Int} (hl : l.length = m.length) (π : Nat → Nat) (h1 : ∀ i, i < l.length → π i < l.length) (h2 : ∀ i, i < l.length → π (π i) = i) (h : ∀ i, i < l.length → l.getD i 0 = m.getD (π i) 0) : l.Perm m := by
  have e1 := list_range l
  have e2 := list_range m
  rw [← hl] at e2
  have e3 : ((List.range l.length).map fun i => l.getD i 0) = ((List.range l.length).map π).map fun i => m.getD i 0 := by
    rw [List.map_map]
    exact List.map_congr_left fun i hi => h i (List.mem_range.1 hi)
  rw [e1, e2]
  rw [e3]
  refine List.Perm.map _ ?_
  refine (List.perm_ext_iff_of_nodup ?_ List.nodup_range).2 fun a => ?_
  · refine List.pairwise_map.2 (List.Pairwise.imp_of_mem (fun {x y} hx hy hne hxy => hne ?_) List.nodup_range)
    rw [← h2 x (List.mem_range.1 hx), hxy, h2 y (List.mem_range.1 hy)]
  · simp only [List.mem_map, List.mem_range]
    exact ⟨fun ⟨i, hi, e⟩ => e ▸ h1 i hi, fun ha => ⟨π a, h1 a ha, h2 a ha⟩⟩
theorem swapL_perm {l : List Int} {i j : Nat} (hi : i < l.length) (hj : j < l.length) : (swapL l i j).Perm l := by
  refine perm_of_getD (swapL_len l i j) (fun k => if k = j then i else if k = i then j else k) (fun k hk => ?_) (fun k hk => ?_) fun k hk => ?_
  · rw [swapL_len] at hk ⊢
    split
    · exact hi
    split
    · exact hj
    · exact hk
  · by_cases h1 : k = j
    · subst h1
      by_cases h2 : i = k
      · subst h2; simp
      · simp [h2]
    · by_cases h2 : k = i
      · subst h2; simp [h1]
      · simp [h1, h2]
  · rw [swapL_getD hi hj]
    split
    · rfl
    split <;> rfl
/-- Each element but the first is no less than its parent; of the first n. -/
def HeapN (l : List Int) (n : Nat) : Prop := ∀ k, 0 < k → k < n → l.getD ((k - 1) / 2) 0 ≤ l.getD k 0
/-- A heap but for the place j, which may be too small. -/
def UpH (l : List Int) (n j : Nat) : Prop := (∀ k, 0 < k → k < n → k ≠ j → l.getD ((k - 1) / 2) 0 ≤ l.getD k 0) ∧ ∀ k, 0 < k → k < n → (k - 1) / 2 = j → 0 < j → l.getD ((j - 1) / 2) 0 ≤ l.getD k 0
/-- A heap but for the place i, which may be too great. -/
def DownH (l : List Int) (n i : Nat) : Prop := (∀ k, 0 < k → k < n → (k - 1) / 2 ≠ i → l.getD ((k - 1) / 2) 0 ≤ l.getD k 0) ∧ ∀ k, 0 < k → k < n → (k - 1) / 2 = i → 0 < i → l.getD ((i - 1) / 2) 0 ≤ l.getD k 0
theorem HeapN.first {l : List Int} {n : Nat} (h : HeapN l n) : ∀ k, k < n → l.getD 0 0 ≤ l.getD k 0 := by
  intro k
  induction k using Nat.strongRecOn with
  | _ k ih =>
    intro hk
    rcases Nat.eq_zero_or_pos k with rfl | h0
    · exact Int.le_refl _
    · exact Int.le_trans (ih _ (by omega) (by omega)) (h k h0 hk)
theorem UpH.done {l : List Int} {n j : Nat} (h : UpH l n j) (hj : j = 0 ∨ l.getD ((j - 1) / 2) 0 ≤ l.getD j 0) : HeapN l n := fun k h0 hk => by
  by_cases e : k = j
  · subst e
    rcases hj with hj | hj
    · omega
    · exact hj
  · exact h.1 k h0 hk e
theorem UpH.swap {l : List Int} {n j : Nat} (h : UpH l n j) (hn : n ≤ l.length) (h0 : 0 < j) (hj : j < n) (hlt : l.getD j 0 < l.getD ((j - 1) / 2) 0) : UpH (swapL l ((j - 1) / 2) j) n ((j - 1) / 2) := by
  have hp : (j - 1) / 2 < l.length := by omega
  have hjl : j < l.length := by omega
  refine ⟨fun k k0 hk hne => ?_, fun k k0 hk hpar p0 => ?_⟩
  · rw [swapL_getD hp hjl, swapL_getD hp hjl]
    by_cases e : k = j
    · subst e
      rw [if_pos rfl, if_neg (by omega), if_pos rfl]; omega
    · rw [if_neg e, if_neg hne]
      by_cases e1 : (k - 1) / 2 = j
      · rw [if_pos e1]; exact h.2 k k0 hk e1 h0
      · rw [if_neg e1]
        by_cases e2 : (k - 1) / 2 = (j - 1) / 2
        · rw [if_pos e2]
          have := h.1 k k0 hk e
          rw [e2] at this
          omega
        · rw [if_neg e2]; exact h.1 k k0 hk e
  · rw [swapL_getD hp hjl, swapL_getD hp hjl, if_neg (by omega), if_neg (by omega)]
    have h1 := h.1 ((j - 1) / 2) p0 (by omega) (by omega)
    by_cases e : k = j
    · rw [if_pos e]; exact h1
    · rw [if_neg e, if_neg (by omega)]
      have h2 := h.1 k k0 hk e
      rw [hpar] at h2
      omega
theorem DownH.done {l : List Int} {n i : Nat} (h : DownH l n i) (hi : ∀ k, 0 < k → k < n → (k - 1) / 2 = i → l.getD i 0 ≤ l.getD k 0) : HeapN l n := fun k h0 hk => by
  by_cases e : (k - 1) / 2 = i
  · rw [e]; exact hi k h0 hk e
  · exact h.1 k h0 hk e
theorem DownH.swap {l : List Int} {n i j : Nat} (h : DownH l n i) (hn : n ≤ l.length) (h0 : 0 < j) (hj : j < n) (hp : (j - 1) / 2 = i) (hmin : ∀ k, 0 < k → k < n → (k - 1) / 2 = i → l.getD j 0 ≤ l.getD k 0) (hlt : l.getD j 0 < l.getD i 0) : DownH (swapL l i j) n j := by
  have hil : i < l.length := by omega
  have hjl : j < l.length := by omega
  refine ⟨fun k k0 hk hne => ?_, fun k k0 hk hpar _ => ?_⟩
  · rw [swapL_getD hil hjl, swapL_getD hil hjl, if_neg hne]
    by_cases e1 : (k - 1) / 2 = i
    · rw [if_pos e1]
      by_cases e2 : k = j
      · rw [if_pos e2]; omega
      · rw [if_neg e2, if_neg (by omega)]; exact hmin k k0 hk e1
    · rw [if_neg e1]
      by_cases e2 : k = j
      · subst e2; exact (e1 hp).elim
      · rw [if_neg e2]
        by_cases e3 : k = i
        · rw [if_pos e3]
          subst e3
          exact h.2 j h0 hj hp k0
        · rw [if_neg e3]; exact h.1 k k0 hk e1
  · rw [swapL_getD hil hjl, swapL_getD hil hjl, hp, if_neg (by omega), if_pos rfl, if_neg (by omega), if_neg (by omega)]
    have := h.1 k k0 hk (by omega)
    rw [hpar] at this
    exact this
end Go.Proofs.Ytpmjdaiboniagaa
end PartU1

section PartC9
/- slices.Sort of at most twelve integers. -/
set_option linter.unusedSimpArgs false
set_option maxRecDepth 100000
namespace Go.Proofs.Ytpmjdaiboniagaa
open Go Go.Ab

theorem len64_ac (x : Nat) (hx : x ≤ 12) (σ : St) (G : Glob) (R : A → St → Prop) (h : ∀ n, R (di n) σ) : AC Try.prog G 113 [.d (.int .u64 x)] σ R := by
  refine ac_enter mixed Try.func113 rfl Try.ntmps113 (by simp only [go_sem]) fun hbd => ?_
  simp only [List.length_cons, List.length_nil, Nat.reduceAdd, Nat.reduceSub, List.replicate_succ, List.replicate_zero, List.cons_append, List.nil_append]
  have d1 : decide ((4294967296 : Int) ≤ (x : Int)) = false := decide_eq_false (by omega)
  have d2 : decide ((65536 : Int) ≤ (x : Int)) = false := decide_eq_false (by omega)
  have d3 : decide ((256 : Int) ≤ (x : Int)) = false := decide_eq_false (by omega)
  have w1 : IntKind.u8.wrap (x : Int) = (x : Int) := by rw [IntKind.wrap_u8]; omega
  simp only [go_sem, d1, d2, d3, w1, Try.results113]
  exact ⟨⟨by omega, Int.ofNat_lt.2 (Nat.lt_of_le_of_lt hx (by decide))⟩, ret_d0 (h _)⟩
theorem bitlen_ac (x : Nat) (hx : x ≤ 12) (σ : St) (G : Glob) (R : A → St → Prop) (h : ∀ n, R (di n) σ) : AC Try.prog G 102 [.d (.int .u64 x)] σ R := by
  refine ac_enter mixed Try.func102 rfl Try.ntmps102 (by simp only [go_sem]) fun hbd => ?_
  simp only [List.length_cons, List.length_nil, Nat.reduceAdd, Nat.reduceSub, List.replicate_succ, List.replicate_zero, List.cons_append, List.nil_append]
  simp only [go_sem]
  refine ac' (len64_ac x hx _ _ _ fun n => ?_)
  simp only [go_sem, Try.results102]
  exact ret_d0 (h _)
theorem pdq_ac (l : List Int) (hl : l.length ≤ 12) (n : Int) (σ : St) (id : Nat) (w : Option TypeId) (hσ : σ[id]? = some (ints l)) (G : Glob) (R : A → St → Prop)
    (h : ∀ (r : A) (l' : List Int), l'.Perm l → (∀ p q, p < q → q < l.length → l'.getD p 0 ≤ l'.getD q 0) → R r (σ.set id (ints l'))) : AC Try.prog G 101 [.rs id 1 0 l.length w, dn 0, dn l.length, di n] σ R := by
  refine ac_enter mixed Try.func101 rfl Try.ntmps101 (by simp only [go_sem]) fun hbd => ?_
  simp only [List.length_cons, List.length_nil, Nat.reduceAdd, Nat.reduceSub, List.replicate_succ, List.replicate_zero, List.cons_append, List.nil_append]
  have w1 : IntKind.i64.wrap ((l.length : Int) - ((0 : Nat) : Int)) = (l.length : Int) := by rw [wrap64_id _ (by omega) (by omega)]; omega
  have d1 : decide ((l.length : Int) ≤ 12) = true := decide_eq_true (by omega)
  simp only [go_sem]
  refine aw_loop (fun m fr st => st = σ ∧ fr = [.rs id 1 0 l.length w, dn 0, dn l.length, di n, .any, .any, .any, .any, db true, db true, .any, .any, .any, .any, .any, .any, .any, .any, .any, .any, .any, .any, .any, .any, .any, .any, .any, .any, .any, .any, .any, .any, .any, .any, .any, .any, .any, .any, .any, .any, .any, .any, .any, .any, .any, .any, .any, .any, .any, .any, .any, .any, .any, .any, .any, .any, .any, .any, .any, .any, .any, .any, .any, .any, .any, .any, .any, .any, .any, .any, .any, .any, .any, .any, .any, .any, .any, .any, .any, .any, .any, .any, .any, .any, .any, .any, .any, .any, .any, .any, .any, .any, .any, .any, .any, .any, .any, .any, .any, .any, .any, .any, .any, .any, .any, .any, .any, .any, .any, .any, .any, .any, .any, .any, .any, .any, .any, .any, .any, .any, .any, .any, .any, .any, .any, .any, .any, .any, .any, .any, .any, .any, .any, .any]) 0 _ (Wk.mask [0, 1, 2, 3, 8, 9] ⟨rfl, rfl⟩) ?_
  rintro m fr st ⟨rfl, rfl⟩
  simp only [go_sem, w1, d1, Try.results101]
  refine ac' (insort_ac l hl _ _ _ hσ _ _ fun r l' hp hs => ?_)
  simp only [go_sem, Try.results101]
  exact ⟨_, _, Weak.refl _ _ _ _, h _ l' hp hs⟩
theorem sort_ac (l : List Int) (hl : l.length ≤ 12) (σ : St) (id : Nat) (w : Option TypeId) (hσ : σ[id]? = some (ints l)) (G : Glob) (R : A → St → Prop)
    (h : ∀ (r : A) (l' : List Int), l'.Perm l → (∀ p q, p < q → q < l.length → l'.getD p 0 ≤ l'.getD q 0) → R r (σ.set id (ints l'))) : AC Try.prog G 94 [.rs id 1 0 l.length w] σ R := by
  refine ac_enter mixed Try.func94 rfl Try.ntmps94 (by simp only [go_sem]) fun hbd => ?_
  simp only [List.length_cons, List.length_nil, Nat.reduceAdd, Nat.reduceSub, List.replicate_succ, List.replicate_zero, List.cons_append, List.nil_append]
  have w1 : IntKind.u64.wrap (l.length : Int) = (l.length : Int) := by rw [IntKind.wrap_u64]; omega
  have hlive := live_of hσ
  simp only [go_sem, w1, hlive]
  refine ac' (bitlen_ac l.length hl _ _ _ fun n => ?_)
  simp only [go_sem]
  refine ac' (pdq_ac l hl n _ _ _ hσ _ _ fun r l' hp hs => ?_)
  simp only [go_sem, Try.results94]
  exact ⟨_, _, Weak.refl _ _ _ _, h _ l' hp hs⟩
end Go.Proofs.Ytpmjdaiboniagaa
end PartC9

section PartC2
/- The reference's functions of layer 21, evaluated. -/
set_option linter.unusedSimpArgs false
namespace Go.Proofs.Ytpmjdaiboniagaa
open Go Go.Ab

theorem has_ac (c : List Int) (l : Int) (hc : c.length ≤ reachBytes) (σ : St) (G : Glob) (R : A → St → Prop) (h : R (db (decide (l ∈ c))) σ) : AC Try.prog G 49 [.d (isD c), di l] σ R := by
  refine ac_enter mixed Try.func49 rfl Try.ntmps49 (by simp only [go_sem]) fun hbd => ?_
  simp only [List.length_cons, List.length_nil, Nat.reduceAdd, Nat.reduceSub, List.replicate_succ, List.replicate_zero, List.cons_append, List.nil_append]
  simp only [isD, go_sem]
  refine aw_loop (fun m fr st => ∃ j : Nat, j ≤ c.length ∧ m = c.length - j ∧ R (db (decide (l ∈ c.drop j))) σ ∧ fr = [.d (.sl 1 (c.map iD)), di l, .any, .any, .any, dn j, .any, .any, .any, .any, .any, .any, .any, .any, .any, .any, .any, .any] ∧ st = σ) c.length _
    (Wk.mask [0, 1, 5] ⟨0, by omega, rfl, h, rfl, rfl⟩) ?_
  rintro m fr σ ⟨j, hj, hm, hR, rfl, rfl⟩
  rcases Nat.lt_or_ge j c.length with hlt | hge
  · have hd : decide ((j : Int) < (c.length : Int)) = true := by simp; omega
    have e1 : List.getD (List.map iD c) j default = iD (c.getD j 0) := getD_mapD hlt
    have w2 := wrapS j (by simp only [reachBytes] at hc; omega)
    rw [drop_getD 0 hlt] at hR
    simp only [go_sem, List.length_map, hd, e1, w2, Try.results49]
    refine ⟨⟨by omega, by omega⟩, fun he => ret_d0 ?_, fun hne => Wk.mask [0, 1, 5] ⟨c.length - (j + 1), by omega, j + 1, hlt, rfl, ?_, rfl, rfl⟩⟩
    · simp at he; simpa [he] using hR
    · have : ¬ l = c.getD j 0 := fun e => by simp [e] at hne
      simpa only [List.mem_cons, this, false_or] using hR
  · have hd : decide ((j : Int) < (c.length : Int)) = false := by simp; omega
    simp only [go_sem, List.length_map, hd, Try.results49]
    refine ret_d0 ?_
    rw [List.drop_eq_nil_of_le hge] at hR; simpa using hR
theorem abs_ac (l : Int) (σ : St) (G : Glob) (R : A → St → Prop) (h : R (di (absI l)) σ) : AC Try.prog G 71 [di l] σ R := by
  refine ac_enter mixed Try.func71 rfl Try.ntmps71 (by simp only [go_sem]) fun hbd => ?_
  simp only [List.length_cons, List.length_nil, Nat.reduceAdd, Nat.reduceSub, List.replicate_succ, List.replicate_zero, List.cons_append, List.nil_append]
  simp only [go_sem, Try.results71]
  refine ⟨fun hc => ret_d0 ?_, fun hc => ret_d0 ?_⟩
  · rw [absI, if_pos (by simpa using hc)] at h; exact h
  · rw [absI, if_neg (by simpa using hc)] at h; exact h
theorem var_ac (l : Int) (σ : St) (G : Glob) (R : A → St → Prop) (h : R (di (absI l)) σ) : AC Try.prog G 83 [di l] σ R := by
  refine ac_enter mixed Try.func83 rfl Try.ntmps83 (by simp only [go_sem]) fun hbd => ?_
  simp only [List.length_cons, List.length_nil, Nat.reduceAdd, Nat.reduceSub, List.replicate_succ, List.replicate_zero, List.cons_append, List.nil_append]
  simp only [go_sem, Try.results83]
  refine ⟨fun hc => ret_d0 ?_, fun hc => ret_d0 ?_⟩
  · rw [absI, if_pos (by simpa using hc)] at h; exact h
  · rw [absI, if_neg (by simpa using hc)] at h; exact h
theorem true_ac (l : Int) (v : List Bool) (hl : l ≠ 0 ∧ -8000 ≤ l ∧ l ≤ 8000) (σ : St) (G : Glob) (R : A → St → Prop) (h : R (db (holdsL v l)) σ) : AC Try.prog G 61 [di l, .d (bsD v)] σ R := by
  refine ac_enter mixed Try.func61 rfl Try.ntmps61 (by simp only [go_sem]) fun hbd => ?_
  simp only [List.length_cons, List.length_nil, Nat.reduceAdd, Nat.reduceSub, List.replicate_succ, List.replicate_zero, List.cons_append, List.nil_append]
  simp only [bsD, go_sem]
  refine ac' (abs_ac _ _ _ _ ?_)
  rw [absI_of (by omega)]
  have w1 : IntKind.i64.wrap ((l.natAbs : Int) - 1) = ((l.natAbs - 1 : Nat) : Int) := by rw [wrap64_id _ (by omega) (by omega)]; omega
  rcases Nat.lt_or_ge v.length l.natAbs with hgt | hle
  · have d1 : decide ((l.natAbs : Int) ≤ (v.length : Int)) = false := by simp; omega
    simp only [go_sem, List.length_map, d1]
    refine ex' (iD 0) ⟨fun hc => Bool.noConfusion hc, ?_⟩
    simp only [go_sem, List.length_map, w1, Try.results61]
    refine ret_d0 ?_
    rw [holdsL, List.getD_eq_getElem?_getD, List.getElem?_eq_none (by omega)] at h
    exact h
  · have d1 : decide ((l.natAbs : Int) ≤ (v.length : Int)) = true := by simp; omega
    have e1 : List.getD (List.map D.bool v) (l.natAbs - 1) default = .bool (v.getD (l.natAbs - 1) false) := getD_mapD (by omega)
    simp only [go_sem, List.length_map, d1]
    refine ex' (iD (l.natAbs : Nat)) ⟨fun hc => ?_, ?_⟩
    · simp only [go_sem]
      refine ac' (abs_ac _ _ _ _ ?_)
      rw [absI_of (by omega)]
      exact ⟨rfl, rfl⟩
    simp only [go_sem, List.length_map, w1, e1, Try.results61]
    refine ⟨⟨by omega, by omega⟩, ret_d0 h⟩
theorem holds_ac (c : List Int) (v : List Bool) (hc : c.length ≤ reachBytes) (hl : ∀ l ∈ c, l ≠ 0 ∧ -8000 ≤ l ∧ l ≤ 8000) (σ : St) (G : Glob) (R : A → St → Prop) (h : R (db (c.any (holdsL v))) σ) :
    AC Try.prog G 45 [.d (isD c), .d (bsD v)] σ R := by
  refine ac_enter mixed Try.func45 rfl Try.ntmps45 (by simp only [go_sem]) fun hbd => ?_
  simp only [List.length_cons, List.length_nil, Nat.reduceAdd, Nat.reduceSub, List.replicate_succ, List.replicate_zero, List.cons_append, List.nil_append]
  simp only [isD, go_sem]
  refine aw_loop (fun m fr st => ∃ j : Nat, j ≤ c.length ∧ m = c.length - j ∧ R (db ((c.drop j).any (holdsL v))) σ ∧ fr = [.d (.sl 1 (c.map iD)), .d (bsD v), .any, .any, .any, dn j, .any, .any, .any, .any, .any, .any, .any, .any, .any, .any, .any, .any] ∧ st = σ) c.length _
    (Wk.mask [0, 1, 5] ⟨0, by omega, rfl, h, rfl, rfl⟩) ?_
  rintro m fr σ ⟨j, hj, hm, hR, rfl, rfl⟩
  rcases Nat.lt_or_ge j c.length with hlt | hge
  · have hd : decide ((j : Int) < (c.length : Int)) = true := by simp; omega
    have e1 : List.getD (List.map iD c) j default = iD (c.getD j 0) := getD_mapD hlt
    have w2 := wrapS j (by simp only [reachBytes] at hc; omega)
    rw [drop_getD 0 hlt, List.any_cons] at hR
    simp only [go_sem, List.length_map, hd, e1, w2, Try.results45]
    refine ⟨⟨by omega, by omega⟩, ac' (true_ac _ _ (hl _ (getD_mem 0 hlt)) _ _ _ ?_)⟩
    simp only [go_sem, w2, Try.results45]
    refine ⟨fun he => ret_d0 ?_, fun hne => Wk.mask [0, 1, 5] ⟨c.length - (j + 1), by omega, j + 1, hlt, rfl, ?_, rfl, rfl⟩⟩
    · simpa only [he, Bool.true_or] using hR
    · simpa only [hne, Bool.false_or] using hR
  · have hd : decide ((j : Int) < (c.length : Int)) = false := by simp; omega
    simp only [go_sem, List.length_map, hd, Try.results45]
    refine ret_d0 ?_
    rw [List.drop_eq_nil_of_le hge] at hR; simpa using hR
theorem rvalid_ac (f : Cnf) (hv : I64 f.vars) (hn : f.cls.length ≤ reachBytes) (hc : ∀ c ∈ f.cls, c.length ≤ reachBytes) (σ : St) (G : Glob) (R : A → St → Prop) (h : R (db (validC f)) σ) : AC Try.prog G 43 [.d (cnfD f)] σ R := by
  obtain ⟨vars, cls⟩ := f
  refine ac_enter mixed Try.func43 rfl Try.ntmps43 (by simp only [go_sem]) fun hbd => ?_
  simp only [List.length_cons, List.length_nil, Nat.reduceAdd, Nat.reduceSub, List.replicate_succ, List.replicate_zero, List.cons_append, List.nil_append]
  simp only [cnfD, clsD, go_sem, List.length_map, Try.results43]
  simp only [reachBytes] at hv hn hc
  refine ⟨fun he => ret_d hbd ?_, fun he => ?_⟩
  · rw [validC, he] at h; exact h
  rw [validC, he] at h
  simp only [Bool.not_false, Bool.true_and] at h
  have h0 : 0 ≤ vars ∧ vars ≤ 8000 := by simp only [Bool.or_eq_false_iff, decide_eq_false_iff_not] at he; omega
  have w1 : IntKind.i64.wrap (0 - vars) = -vars := by rw [wrap64_id _ (by omega) (by omega)]; omega
  refine aw_loop (fun m fr st => ∃ j : Nat, j ≤ cls.length ∧ m = cls.length - j ∧ R (db ((cls.drop j).all fun c => c.all (litOk vars))) σ ∧ fr = [.any, .ref σ.length 0, .any, dn j, .any, .any, .any, .any, .any, .any, .any, .any, .any, .any, .any, .any, .any, .any, .any, .any, .any, .any, .any, .any, .any, .any, .any, .any, .any, .any, .any, .any, .any, .any, .any, .any, .any, .any, .any, .any, .any, .any, .any, .any, .any, .any, .any, .any, .any, .any, .any, .any, .any, .any, .any, .any, .any, .any, .any, .any] ∧ st = σ ++ [some (Ob.cells [A.d (iD vars), A.d (D.sl 1 (List.map isD cls))])]) cls.length _
    (Wk.mask [1, 3] ⟨0, by omega, rfl, h, rfl, rfl⟩) ?_
  rintro m fr st ⟨j, hj, hm, hR, rfl, rfl⟩
  rcases Nat.lt_or_ge j cls.length with hlt | hge
  · have hd : decide ((j : Int) < (cls.length : Int)) = true := by simp; omega
    have e1 := isD_getD hlt
    have w2 := wrapS j (by omega)
    have hcj := hc _ (getD_mem [] hlt)
    rw [drop_getD [] hlt, List.all_cons] at hR
    generalize hcc : cls.getD j [] = c at hR e1 hcj
    generalize hrest : ((cls.drop (j + 1)).all fun c => c.all (litOk vars)) = rest at hR
    simp only [go_sem, List.length_map, hd, e1, w2]
    refine aw_loop (fun m fr st => ∃ k : Nat, k ≤ c.length ∧ m = c.length - k ∧ R (db ((c.drop k).all (litOk vars) && rest)) σ ∧ fr = [.any, .ref σ.length 0, .any, dn j, dn k, .any, .any, .any, .any, .any, .any, .any, .any, .any, .any, .any, .any, .any, .any, .any, .any, .any, .any, .any, .any, .any, .any, .any, .any, .any, .any, .any, .any, .any, .any, .any, .any, .any, .any, .any, .any, .any, .any, .any, .any, .any, .any, .any, .any, .any, .any, .any, .any, .any, .any, .any, .any, .any, .any, .any] ∧ st = σ ++ [some (Ob.cells [A.d (iD vars), A.d (D.sl 1 (List.map isD cls))])]) c.length _
      (Wk.mask [1, 3, 4] ⟨0, by omega, rfl, hR, rfl, rfl⟩) ?_
    clear hR
    rintro m fr st ⟨k, hk, hm, hR, rfl, rfl⟩
    rcases Nat.lt_or_ge k c.length with klt | kge
    · have kd : decide ((k : Int) < (c.length : Int)) = true := by simp; omega
      have e2 : List.getD (List.map iD c) k default = iD (c.getD k 0) := getD_mapD klt
      have w3 := wrapS k (by omega)
      rw [drop_getD 0 klt, List.all_cons] at hR
      simp only [go_sem, List.length_map, kd, e1, e2, w1, w3, Try.results43]
      refine ⟨⟨by omega, by omega⟩, ⟨by omega, by omega⟩, ⟨by omega, by omega⟩, fun hb => ret_d hbd ?_, fun hb => Wk.mask [1, 3, 4] ⟨c.length - (k + 1), by omega, k + 1, klt, rfl, ?_, rfl, rfl⟩⟩
      · rw [litOk, show (decide (c.getD k 0 > vars)) = decide (vars < c.getD k 0) from rfl, hb] at hR; simpa using hR
      · rw [litOk, show (decide (c.getD k 0 > vars)) = decide (vars < c.getD k 0) from rfl, hb] at hR; simpa using hR
    · have kd : decide ((k : Int) < (c.length : Int)) = false := by simp; omega
      simp only [go_sem, List.length_map, kd, e1, w2]
      rw [List.drop_eq_nil_of_le kge, List.all_nil, Bool.true_and, ← hrest] at hR
      exact ⟨⟨by omega, by omega⟩, Wk.mask [1, 3] ⟨cls.length - (j + 1), by omega, j + 1, hlt, rfl, hR, rfl, rfl⟩⟩
  · have hd : decide ((j : Int) < (cls.length : Int)) = false := by simp; omega
    simp only [go_sem, List.length_map, hd, Try.results43]
    refine ret_d hbd ?_
    rw [List.drop_eq_nil_of_le hge] at hR; exact hR
theorem cvalid_ac (f : Cnf) (hv : I64 f.vars) (hn : f.cls.length ≤ reachBytes) (hc : ∀ c ∈ f.cls, c.length ≤ reachBytes) (σ : St) (G : Glob) (R : A → St → Prop) (h : R (db (validC f)) σ) : AC Try.prog G 62 [.d (cnfD f)] σ R := by
  obtain ⟨vars, cls⟩ := f
  refine ac_enter mixed Try.func62 rfl Try.ntmps62 (by simp only [go_sem]) fun hbd => ?_
  simp only [List.length_cons, List.length_nil, Nat.reduceAdd, Nat.reduceSub, List.replicate_succ, List.replicate_zero, List.cons_append, List.nil_append]
  simp only [cnfD, clsD, go_sem, List.length_map, Try.results62]
  simp only [reachBytes] at hv hn hc
  refine ⟨fun he => ret_d hbd ?_, fun he => ?_⟩
  · rw [validC, he] at h; exact h
  rw [validC, he] at h
  simp only [Bool.not_false, Bool.true_and] at h
  have h0 : 0 ≤ vars ∧ vars ≤ 8000 := by simp only [Bool.or_eq_false_iff, decide_eq_false_iff_not] at he; omega
  have w1 : IntKind.i64.wrap (0 - vars) = -vars := by rw [wrap64_id _ (by omega) (by omega)]; omega
  refine aw_loop (fun m fr st => ∃ j : Nat, j ≤ cls.length ∧ m = cls.length - j ∧ R (db ((cls.drop j).all fun c => c.all (litOk vars))) σ ∧ fr = [.any, .ref σ.length 0, .any, .any, .any, .any, .any, .any, .any, .any, .any, .any, .any, .any, .any, .any, .any, .any, .any, .any, .any, .any, .d (.sl 1 (cls.map isD)), dn cls.length, dn j, .any, .any, .any, .any, .any, .any, .any, .any, .any, .any, .any, .any, .any, .any, .any, .any, .any, .any, .any, .any, .any, .any, .any, .any, .any, .any] ∧ st = σ ++ [some (Ob.cells [A.d (iD vars), A.d (D.sl 1 (List.map isD cls))])]) cls.length _
    (Wk.mask [1, 22, 23, 24] ⟨0, by omega, rfl, h, rfl, rfl⟩) ?_
  rintro m fr st ⟨j, hj, hm, hR, rfl, rfl⟩
  rcases Nat.lt_or_ge j cls.length with hlt | hge
  · have hd : decide ((j : Int) < (cls.length : Int)) = true := by simp; omega
    have e1 := isD_getD hlt
    have w2 := wrapS j (by omega)
    have hcj := hc _ (getD_mem [] hlt)
    rw [drop_getD [] hlt, List.all_cons] at hR
    generalize hcc : cls.getD j [] = c at hR e1 hcj
    generalize hrest : ((cls.drop (j + 1)).all fun c => c.all (litOk vars)) = rest at hR
    simp only [go_sem, List.length_map, hd, e1, w2]
    refine ⟨⟨by omega, by omega⟩, ?_⟩
    refine aw_loop (fun m fr st => ∃ k : Nat, k ≤ c.length ∧ m = c.length - k ∧ R (db ((c.drop k).all (litOk vars) && rest)) σ ∧ fr = [.any, .ref σ.length 0, .any, .any, .any, .any, .any, .any, .any, .any, .any, .any, .any, .any, .any, .any, .any, .any, .any, .any, .any, .any, .d (.sl 1 (cls.map isD)), dn cls.length, dn j, .any, .any, .any, .d (.sl 1 (c.map iD)), dn c.length, dn k, .any, .any, .any, .any, .any, .any, .any, .any, .any, .any, .any, .any, .any, .any, .any, .any, .any, .any, .any, .any] ∧ st = σ ++ [some (Ob.cells [A.d (iD vars), A.d (D.sl 1 (List.map isD cls))])]) c.length _
      (Wk.mask [1, 22, 23, 24, 28, 29, 30] ⟨0, by omega, rfl, hR, rfl, rfl⟩) ?_
    clear hR
    rintro m fr st ⟨k, hk, hm, hR, rfl, rfl⟩
    rcases Nat.lt_or_ge k c.length with klt | kge
    · have kd : decide ((k : Int) < (c.length : Int)) = true := by simp; omega
      have e2 : List.getD (List.map iD c) k default = iD (c.getD k 0) := getD_mapD klt
      have w3 := wrapS k (by omega)
      rw [drop_getD 0 klt, List.all_cons] at hR
      simp only [go_sem, List.length_map, kd, e1, e2, w1, w3, Try.results62]
      refine ⟨⟨by omega, by omega⟩, fun hb => ret_d hbd ?_, fun hb => Wk.mask [1, 22, 23, 24, 28, 29, 30] ⟨c.length - (k + 1), by omega, k + 1, klt, rfl, ?_, rfl, rfl⟩⟩
      · rw [litOk, show (decide (c.getD k 0 > vars)) = decide (vars < c.getD k 0) from rfl, hb] at hR; simpa using hR
      · rw [litOk, show (decide (c.getD k 0 > vars)) = decide (vars < c.getD k 0) from rfl, hb] at hR; simpa using hR
    · have kd : decide ((k : Int) < (c.length : Int)) = false := by simp; omega
      simp only [go_sem, List.length_map, kd, e1, w2]
      rw [List.drop_eq_nil_of_le kge, List.all_nil, Bool.true_and, ← hrest] at hR
      exact Wk.mask [1, 22, 23, 24] ⟨cls.length - (j + 1), by omega, j + 1, hlt, rfl, hR, rfl, rfl⟩
  · have hd : decide ((j : Int) < (cls.length : Int)) = false := by simp; omega
    simp only [go_sem, List.length_map, hd, Try.results62]
    refine ret_d hbd ?_
    rw [List.drop_eq_nil_of_le hge] at hR; exact hR
end Go.Proofs.Ytpmjdaiboniagaa
end PartC2

section PartC3
/- The reference's functions of layers 25 and 26, evaluated. -/
set_option linter.unusedSimpArgs false
namespace Go.Proofs.Ytpmjdaiboniagaa
open Go Go.Ab

theorem rstep_ac (vars num : Int) (s : Stp) (h1 : s.lits.length ≤ reachBytes) (h2 : s.hints.length ≤ reachBytes) (σ : St) (G : Glob) (R : A → St → Prop) (h : R (db (stepOk vars num s)) σ) : AC Try.prog G 66 [di vars, di num, .d (stpD s)] σ R := by
  obtain ⟨lits, hints⟩ := s
  refine ac_enter mixed Try.func66 rfl Try.ntmps66 (by simp only [go_sem]) fun hbd => ?_
  simp only [List.length_cons, List.length_nil, Nat.reduceAdd, Nat.reduceSub, List.replicate_succ, List.replicate_zero, List.cons_append, List.nil_append]
  simp only [stpD, isD, go_sem, List.length_map, Try.results66]
  simp only [reachBytes] at h1 h2
  rw [stepOk] at h
  simp only at h
  generalize hH : hintsOk num hints = H at h
  refine aw_loop (fun m fr st => ∃ j : Nat, j ≤ lits.length ∧ m = lits.length - j ∧ R (db (litsFrom vars (lits.take j) (lits.drop j) && H)) σ ∧ fr = [di vars, di num, .any, .any, .any, .ref σ.length 0, .any, dn j, .any, .any, .any, .any, .any, .any, .any, .any, .any, .any, .any, .any, .any, .any, .any, .any, .any, .any, .any, .any, .any, .any, .any, .any, .any, .any, .any, .any, .any, .any, .any, .any, .any, .any, .any, .any, .any, .any, .any, .any, .any, .any, .any, .any, .any, .any, .any, .any, .any, .any, .any, .any, .any, .any, .any, .any, .any, .any] ∧ st = σ ++ [some (Ob.cells [A.d (.sl 1 (lits.map iD)), A.d (.sl 1 (hints.map iD))])]) lits.length _
    (Wk.mask [0, 1, 5, 7] ⟨0, by omega, rfl, h, rfl, rfl⟩) ?_
  clear h
  rintro m fr st ⟨j, hj, hm, hR, rfl, rfl⟩
  rcases Nat.lt_or_ge j lits.length with hlt | hge
  · have hd : decide ((j : Int) < (lits.length : Int)) = true := by simp; omega
    have e1 : List.getD (List.map iD lits) j default = iD (lits.getD j 0) := getD_mapD hlt
    have w2 := wrapS j (by omega)
    rw [drop_getD 0 hlt, litsFrom] at hR
    simp only [go_sem, List.length_map, hd, e1, w2]
    refine ⟨⟨by omega, by omega⟩, ac' (var_ac _ _ _ _ ?_)⟩
    simp only [go_sem, List.length_map, e1, w2, Try.results66]
    refine ⟨fun hb => ret_d hbd ?_, fun hb => ?_⟩
    · rw [hb] at hR; simpa using hR
    rw [hb] at hR
    simp only [Bool.not_false, Bool.true_and] at hR
    have htk : lits.take j ++ [lits.getD j 0] = lits.take (j + 1) := by
      rw [List.take_add_one, List.getD_eq_getElem?_getD, List.getElem?_eq_getElem hlt]; rfl
    rw [htk] at hR
    generalize hv : lits.getD j 0 = l at hR
    generalize hrest : litsFrom vars (lits.take (j + 1)) (lits.drop (j + 1)) = rest at hR
    refine aw_loop (fun m fr st => ∃ k : Nat, k ≤ j ∧ m = j - k ∧ R (db ((!((lits.take j).drop k).any fun x => absI x == absI l) && rest && H)) σ ∧ fr = [di vars, di num, .any, .any, .any, .ref σ.length 0, .any, dn j, di (absI l), dn k, .any, .any, .any, .any, .any, .any, .any, .any, .any, .any, .any, .any, .any, .any, .any, .any, .any, .any, .any, .any, .any, .any, .any, .any, .any, .any, .any, .any, .any, .any, .any, .any, .any, .any, .any, .any, .any, .any, .any, .any, .any, .any, .any, .any, .any, .any, .any, .any, .any, .any, .any, .any, .any, .any, .any, .any] ∧ st = σ ++ [some (Ob.cells [A.d (.sl 1 (lits.map iD)), A.d (.sl 1 (hints.map iD))])]) j _
      (Wk.mask [0, 1, 5, 7, 8, 9] ⟨0, by omega, rfl, hR, rfl, rfl⟩) ?_
    clear hR
    rintro m fr st ⟨k, hk, hm, hR, rfl, rfl⟩
    rcases Nat.lt_or_ge k j with klt | kge
    · have kd : decide ((k : Int) < (j : Int)) = true := by simp; omega
      have e2 : List.getD (List.map iD lits) k default = iD (lits.getD k 0) := getD_mapD (by omega)
      have w3 := wrapS k (by omega)
      have e3 : (lits.take j).getD k 0 = lits.getD k 0 := by simp [List.getD_eq_getElem?_getD, klt]
      rw [drop_getD 0 (by rw [List.length_take]; omega), List.any_cons, e3] at hR
      simp only [go_sem, List.length_map, kd, e2, w3]
      refine ⟨⟨by omega, by omega⟩, ac' (var_ac _ _ _ _ ?_)⟩
      simp only [go_sem, List.length_map, e2, w3, Try.results66]
      refine ⟨fun hb => ret_d hbd ?_, fun hb => Wk.mask [0, 1, 5, 7, 8, 9] ⟨j - (k + 1), by omega, k + 1, klt, rfl, ?_, rfl, rfl⟩⟩
      · rw [hb] at hR; simpa using hR
      · rw [hb, Bool.false_or] at hR; exact hR
    · have kd : decide ((k : Int) < (j : Int)) = false := by simp; omega
      simp only [go_sem, List.length_map, kd, w2]
      rw [List.drop_eq_nil_of_le (by rw [List.length_take]; omega)] at hR
      simp only [List.any_nil, Bool.not_false, Bool.true_and, ← hrest] at hR
      exact Wk.mask [0, 1, 5, 7] ⟨lits.length - (j + 1), by omega, j + 1, hlt, rfl, hR, rfl, rfl⟩
  · have hd : decide ((j : Int) < (lits.length : Int)) = false := by simp; omega
    rw [List.drop_eq_nil_of_le hge, litsFrom, Bool.true_and, ← hH, hintsOk] at hR
    simp only [go_sem, List.length_map, hd]
    refine aw_loop (fun m fr st => ∃ k : Nat, k ≤ hints.length ∧ m = hints.length - k ∧ R (db ((hints.drop k).all fun h => !(decide (h < 0) || decide (num ≤ h)))) σ ∧ fr = [.any, di num, .any, .any, .any, .ref σ.length 0, .any, .any, .any, .any, dn k, .any, .any, .any, .any, .any, .any, .any, .any, .any, .any, .any, .any, .any, .any, .any, .any, .any, .any, .any, .any, .any, .any, .any, .any, .any, .any, .any, .any, .any, .any, .any, .any, .any, .any, .any, .any, .any, .any, .any, .any, .any, .any, .any, .any, .any, .any, .any, .any, .any, .any, .any, .any, .any, .any, .any] ∧ st = σ ++ [some (Ob.cells [A.d (.sl 1 (lits.map iD)), A.d (.sl 1 (hints.map iD))])]) hints.length _
      (Wk.mask [1, 5, 10] ⟨0, by omega, rfl, hR, rfl, rfl⟩) ?_
    clear hR
    rintro m fr st ⟨k, hk, hm, hR, rfl, rfl⟩
    rcases Nat.lt_or_ge k hints.length with klt | kge
    · have kd : decide ((k : Int) < (hints.length : Int)) = true := by simp; omega
      have e2 : List.getD (List.map iD hints) k default = iD (hints.getD k 0) := getD_mapD (by omega)
      have w3 := wrapS k (by omega)
      rw [drop_getD 0 klt, List.all_cons] at hR
      simp only [go_sem, List.length_map, kd, e2, w3, Try.results66]
      refine ⟨⟨by omega, by omega⟩, fun _ => ⟨by omega, by omega⟩, fun hb => ret_d hbd ?_, fun hb => Wk.mask [1, 5, 10] ⟨hints.length - (k + 1), by omega, k + 1, klt, rfl, ?_, rfl, rfl⟩⟩
      · rw [hb] at hR; simpa using hR
      · rw [hb] at hR; simpa using hR
    · have kd : decide ((k : Int) < (hints.length : Int)) = false := by simp; omega
      simp only [go_sem, List.length_map, kd, Try.results66]
      refine ret_d hbd ?_
      rw [List.drop_eq_nil_of_le kge] at hR; exact hR
theorem clause_ac (f : Cnf) (l : List Stp) (n : Nat) (h1 : f.cls.length ≤ reachBytes) (h2 : l.length ≤ reachBytes) (hn : n < f.cls.length + l.length) (σ : St) (G : Glob) (R : A → St → Prop) (h : R (.d (isD (clauseAt f.cls l n))) σ) : AC Try.prog G 84 [.d (cnfD f), .d (stpsD l), dn n] σ R := by
  obtain ⟨vars, cls⟩ := f
  refine ac_enter mixed Try.func84 rfl Try.ntmps84 (by simp only [go_sem]) fun hbd => ?_
  simp only [List.length_cons, List.length_nil, Nat.reduceAdd, Nat.reduceSub, List.replicate_succ, List.replicate_zero, List.cons_append, List.nil_append]
  simp only [reachBytes] at h1 h2
  simp only at hn h1
  rcases Nat.lt_or_ge n cls.length with hlt | hge
  · have hd : decide ((n : Int) < (cls.length : Int)) = true := by simp; omega
    have e1 := isD_getD hlt
    simp only [cnfD, clsD, stpsD, go_sem, List.length_map, hd, e1, Try.results84]
    rw [clauseAt, if_pos hlt] at h
    exact ⟨⟨by omega, by omega⟩, ret_d hbd h⟩
  · have hd : decide ((n : Int) < (cls.length : Int)) = false := by simp; omega
    have w1 : IntKind.i64.wrap ((n : Int) - (cls.length : Int)) = ((n - cls.length : Nat) : Int) := by rw [wrap64_id _ (by omega) (by omega)]; omega
    have e1 := stpD_getD (l := l) (j := n - cls.length) (by omega)
    simp only [cnfD, clsD, stpsD, go_sem, List.length_map, hd, w1, e1, Try.results84]
    rw [clauseAt, if_neg (by simp only; omega)] at h
    exact ⟨⟨by omega, by omega⟩, ret_d hbd h⟩
theorem fals_ac (T c : List Int) (h1 : T.length ≤ reachBytes) (h2 : c.length ≤ reachBytes) (hl : ∀ l ∈ c, -8000 ≤ l ∧ l ≤ 8000) (σ : St) (G : Glob) (R : A → St → Prop) (h : R (db (falsS T c)) σ) : AC Try.prog G 85 [.ea (.agg [isD T]) 0, .d (isD c)] σ R := by
  refine ac_enter mixed Try.func85 rfl Try.ntmps85 (by simp only [go_sem]) fun hbd => ?_
  simp only [List.length_cons, List.length_nil, Nat.reduceAdd, Nat.reduceSub, List.replicate_succ, List.replicate_zero, List.cons_append, List.nil_append]
  simp only [isD, go_sem, List.length_map]
  rw [falsS] at h
  refine aw_loop (fun m fr st => ∃ j : Nat, j ≤ c.length ∧ m = c.length - j ∧ R (db ((c.drop j).all fun l => decide (-l ∈ T))) σ ∧ fr = [.ea (.agg [.sl 1 (T.map iD)]) 0, .d (.sl 1 (c.map iD)), .any, .any, .any, dn j, .any, .any, .any, .any, .any, .any, .any, .any, .any, .any, .any, .any, .any, .any, .any, .any, .any] ∧ st = σ) c.length _
    (Wk.mask [0, 1, 5] ⟨0, by omega, rfl, h, rfl, rfl⟩) ?_
  clear h
  rintro m fr σ ⟨j, hj, hm, hR, rfl, rfl⟩
  rcases Nat.lt_or_ge j c.length with hlt | hge
  · have hd : decide ((j : Int) < (c.length : Int)) = true := by simp; omega
    have e1 : List.getD (List.map iD c) j default = iD (c.getD j 0) := getD_mapD hlt
    have w2 := wrapS j (by simp only [reachBytes] at h2; omega)
    have w4 : IntKind.i64.wrap (0 - c.getD j 0) = -(c.getD j 0) := by
      have := hl _ (getD_mem 0 hlt)
      rw [wrap64_id _ (by omega) (by omega)]; omega
    rw [drop_getD 0 hlt, List.all_cons] at hR
    simp only [go_sem, List.length_map, hd, e1, w2, w4, Try.results85]
    refine ⟨⟨by omega, by omega⟩, ac' (has_ac T _ h1 _ _ _ ?_)⟩
    simp only [go_sem, w2, Try.results85]
    refine ⟨fun he => ret_d0 ?_, fun hne => Wk.mask [0, 1, 5] ⟨c.length - (j + 1), by omega, j + 1, hlt, rfl, ?_, rfl, rfl⟩⟩
    · simp at he; simpa [he] using hR
    · simp at hne; simpa [hne] using hR
  · have hd : decide ((j : Int) < (c.length : Int)) = false := by simp; omega
    simp only [go_sem, List.length_map, hd, Try.results85]
    refine ret_d0 ?_
    rw [List.drop_eq_nil_of_le hge] at hR; exact hR
theorem unit_ac (T c : List Int) (h1 : T.length ≤ reachBytes) (h2 : c.length ≤ reachBytes) (hl : ∀ l ∈ c, -8000 ≤ l ∧ l ≤ 8000) (σ : St) (G : Glob) (R : A → St → Prop) (h : R (di (unitS T c 0)) σ) : AC Try.prog G 86 [.ea (.agg [isD T]) 0, .d (isD c)] σ R := by
  refine ac_enter mixed Try.func86 rfl Try.ntmps86 (by simp only [go_sem]) fun hbd => ?_
  simp only [List.length_cons, List.length_nil, Nat.reduceAdd, Nat.reduceSub, List.replicate_succ, List.replicate_zero, List.cons_append, List.nil_append]
  simp only [isD, go_sem, List.length_map]
  refine aw_loop (fun m fr st => ∃ (j : Nat) (o : Int), j ≤ c.length ∧ m = c.length - j ∧ R (di (unitS T (c.drop j) o)) σ ∧ fr = [.ea (.agg [.sl 1 (T.map iD)]) 0, .d (.sl 1 (c.map iD)), .any, .any, .any, di o, dn j, .any, .any, .any, .any, .any, .any, .any, .any, .any, .any, .any, .any, .any, .any, .any, .any, .any, .any, .any, .any, .any, .any, .any, .any, .any, .any, .any, .any, .any, .any, .any, .any, .any, .any, .any, .any, .any, .any, .any, .any] ∧ st = σ) c.length _
    (Wk.mask [0, 1, 5, 6] ⟨0, 0, by omega, rfl, h, rfl, rfl⟩) ?_
  clear h
  rintro m fr σ ⟨j, o, hj, hm, hR, rfl, rfl⟩
  rcases Nat.lt_or_ge j c.length with hlt | hge
  · have hd : decide ((j : Int) < (c.length : Int)) = true := by simp; omega
    have e1 : List.getD (List.map iD c) j default = iD (c.getD j 0) := getD_mapD hlt
    have w2 := wrapS j (by simp only [reachBytes] at h2; omega)
    have w4 : IntKind.i64.wrap (0 - c.getD j 0) = -(c.getD j 0) := by
      have := hl _ (getD_mem 0 hlt)
      rw [wrap64_id _ (by omega) (by omega)]; omega
    rw [drop_getD 0 hlt, unitS] at hR
    simp only [go_sem, List.length_map, hd, e1, w2, w4, Try.results86]
    refine ⟨⟨by omega, by omega⟩, ac' (has_ac T _ h1 _ _ _ ?_)⟩
    simp only [go_sem, List.length_map, e1, w2, w4, Try.results86]
    refine ⟨fun he => ret_d0 ?_, fun hne => ⟨⟨by omega, by omega⟩, ac' (has_ac T _ h1 _ _ _ ?_)⟩⟩
    · rw [if_pos (by simpa using he)] at hR; exact hR
    rw [if_neg (by simpa using hne)] at hR
    simp only [go_sem, List.length_map, e1, w2, w4, Try.results86]
    refine ⟨fun _ => ⟨by omega, by omega⟩, fun hb => Wk.mask [0, 1, 5, 6] ⟨c.length - (j + 1), by omega, j + 1, o, hlt, rfl, ?_, rfl, rfl⟩, fun hb => ⟨fun ho => ret_d0 ?_, fun ho => ⟨⟨by omega, by omega⟩, Wk.mask [0, 1, 5, 6] ⟨c.length - (j + 1), by omega, j + 1, _, hlt, rfl, ?_, rfl, rfl⟩⟩⟩⟩
    · rw [if_pos (by simpa using hb)] at hR; exact hR
    · rw [if_neg (by simpa using hb), if_pos (by simpa using ho)] at hR; exact hR
    · rw [if_neg (by simpa using hb), if_neg (by simpa using ho)] at hR; exact hR
  · have hd : decide ((j : Int) < (c.length : Int)) = false := by simp; omega
    simp only [go_sem, List.length_map, hd, Try.results86]
    refine ret_d0 ?_
    rw [List.drop_eq_nil_of_le hge] at hR; exact hR
end Go.Proofs.Ytpmjdaiboniagaa
end PartC3

section PartC4
/- The reference's justification and lists. -/
set_option linter.unusedSimpArgs false
set_option maxRecDepth 100000
namespace Go.Proofs.Ytpmjdaiboniagaa
open Go Go.Ab

def boxC (f : Cnf) : Option Ob := some (.cells [.d (iD f.vars), .d (clsD f.cls)])
def boxS (s : Stp) : Option Ob := some (.cells [.d (isD s.lits), .d (isD s.hints)])
theorem views_ints {τ : St} {id : Nat} {T : List Int} (w : Option TypeId) (h : τ[id]? = some (some (.cells (T.map fun x => A.d (iD x))))) : Views τ (.rs id 1 0 T.length w) (.d (isD T)) :=
  Views.rs h (by simp) (fun i x hx => by
    rw [List.getElem?_map, Option.map_eq_some_iff] at hx
    obtain ⟨a, _, rfl⟩ := hx; rfl) fun i x j y hx hy => by
    rw [List.getElem?_map, Option.map_eq_some_iff] at hx
    obtain ⟨a, ha, rfl⟩ := hx
    match j with
    | 0 =>
      have e : iD a = y := by simpa [D.cells] using hy
      subst e
      exact ⟨rfl, _, by simp only [Nat.zero_add, Nat.mul_one, Nat.add_zero, List.getElem?_map, ha, Option.map_some], Views.d _⟩
    | j + 1 => simp [D.cells] at hy
theorem views_assign {τ : St} {id id2 : Nat} {T : List Int} {w : Option TypeId} (h1 : τ[id]? = some (some (.cells [.rs id2 1 0 T.length w]))) (h2 : τ[id2]? = some (some (.cells (T.map fun x => A.d (iD x))))) : Views τ (.ref id 0) (.ea (.agg [isD T]) 0) :=
  Views.ref h1 fun j y hy => by
    match j with
    | 0 =>
      have e : isD T = y := by simpa using hy
      subst e
      exact ⟨rfl, _, rfl, views_ints w h2⟩
    | j + 1 => simp at hy
theorem at_own {σ l : St} (j : Nat) {o : Option Ob} (h : l[j]? = some o) : (σ ++ l)[σ.length + j]? = some o := by rw [List.getElem?_append_right (by omega), Nat.add_sub_cancel_left]; exact h
theorem just_ac (f : Cnf) (l : List Stp) (s : Stp) (h1 : f.cls.length ≤ 100000) (h2 : l.length ≤ 100000) (h3 : s.lits.length ≤ 100000) (h4 : s.hints.length ≤ 100000) (h5 : ∀ x ∈ s.lits, -8000 ≤ x ∧ x ≤ 8000)
    (h6 : ∀ x ∈ s.hints, 0 ≤ x ∧ x < f.cls.length + l.length) (h7 : ∀ n, (clauseAt f.cls l n).length ≤ reachBytes ∧ ∀ x ∈ clauseAt f.cls l n, -8000 ≤ x ∧ x ≤ 8000) (σ : St) (G : Glob) (R : A → St → Prop)
    (h : R (db (justR (clauseAt f.cls l) (negs s.lits) s.hints)) σ) : AC Try.prog G 67 [.d (cnfD f), .d (stpsD l), .d (stpD s)] σ R := by
  obtain ⟨lits, hints⟩ := s
  obtain ⟨vars, cls⟩ := f
  refine ac_enter mixed Try.func67 rfl Try.ntmps67 (by simp only [go_sem]) fun hbd => ?_
  simp only [List.length_cons, List.length_nil, Nat.reduceAdd, Nat.reduceSub, List.replicate_succ, List.replicate_zero, List.cons_append, List.nil_append]
  simp only [cnfD, clsD, stpD, isD, go_sem, List.length_map]
  simp only at h1 h2 h3 h4 h5 h6 h7
  refine aw_loop (fun m fr st => ∃ j : Nat, j ≤ lits.length ∧ m = lits.length - j ∧ fr = [.any, .d (stpsD l), .any, .ref σ.length 0, .any, .ref (σ.length + 1) 0, .any, .ref (σ.length + 2) 0, dn j, .any, .any, .any, .any, .any, .any, .any, .any, .any, .any, .any, .any, .any, .any, .any, .any, .any, .any, .any, .any, .any, .any, .any, .any, .any, .any, .any, .any, .any, .any, .any, .any, .any, .any, .any, .any, .any, .any, .any, .any, .any, .any, .any, .any, .any, .any, .any, .any, .any, .any, .any, .any, .any, .any, .any, .any, .any, .any, .any, .any, .any, .any, .any, .any, .any, .any] ∧
    st = σ ++ [some (.cells [.d (iD vars), .d (.sl 1 (cls.map isD))]), some (.cells [.d (.sl 1 (lits.map iD)), .d (.sl 1 (hints.map iD))]), some (.cells [.rs (σ.length + 3) 1 0 j (some 3)]), some (.cells ((lits.take j).map fun x => A.d (iD (-x))))]) lits.length _
    ⟨_, _, (Weak.mask [1, 3, 5, 7, 8]).trans (Weak.emptyIn (σ := σ) 2 0 1 (some 3) rfl rfl), 0, by omega, rfl, rfl, rfl⟩ ?_
  rintro m fr st ⟨j, hj, hm, rfl, rfl⟩
  rcases Nat.lt_or_ge j lits.length with hlt | hge
  · have hd : decide ((j : Int) < (lits.length : Int)) = true := by simp; omega
    have e1 : List.getD (List.map iD lits) j default = iD (lits.getD j 0) := getD_mapD hlt
    have w2 := wrapS j (by omega)
    have w4 : IntKind.i64.wrap (0 - lits.getD j 0) = -(lits.getD j 0) := by
      have := h5 _ (getD_mem 0 hlt)
      rw [wrap64_id _ (by omega) (by omega)]; omega
    simp only [go_sem, List.length_map, hd, e1, w2, w4]
    refine ⟨⟨by omega, by omega⟩, ⟨by rw [List.length_take]; omega, by simp only [maxLen]; omega, by omega⟩, ?_⟩
    refine Wk.keep [1, 3, 5, 7, 8] [0, 1, 2, 5] (by decide) (Nat.le_refl _) hbd ⟨lits.length - (j + 1), by omega, j + 1, hlt, rfl, ?_, ?_⟩
    · simp only [go_sem]
    · have htk : lits.take (j + 1) = lits.take j ++ [lits.getD j 0] := by
        rw [List.take_add_one, List.getD_eq_getElem?_getD, List.getElem?_eq_getElem hlt]; rfl
      simp only [go_sem, htk, List.map_append, List.map_cons, List.map_nil]
  · have hd : decide ((j : Int) < (lits.length : Int)) = false := by simp; omega
    have htk : lits.take j = lits := List.take_of_length_le hge
    simp only [go_sem, List.length_map, hd, htk]
    have hj' : j = lits.length := by omega
    subst hj'
    clear hm hj hge htk hd
    refine aw_loop (fun m fr st => ∃ (k : Nat) (T : List Int), k ≤ hints.length ∧ m = hints.length - k ∧ T.length ≤ 100000 + k ∧ R (db (justR (clauseAt cls l) T (hints.drop k))) σ ∧ fr = [.any, .d (stpsD l), .any, .ref σ.length 0, .any, .ref (σ.length + 1) 0, .any, .ref (σ.length + 2) 0, .any, dn k, .any, .any, .any, .any, .any, .any, .any, .any, .any, .any, .any, .any, .any, .any, .any, .any, .any, .any, .any, .any, .any, .any, .any, .any, .any, .any, .any, .any, .any, .any, .any, .any, .any, .any, .any, .any, .any, .any, .any, .any, .any, .any, .any, .any, .any, .any, .any, .any, .any, .any, .any, .any, .any, .any, .any, .any, .any, .any, .any, .any, .any, .any, .any, .any, .any] ∧
      st = σ ++ [some (.cells [.d (iD vars), .d (.sl 1 (cls.map isD))]), some (.cells [.d (.sl 1 (lits.map iD)), .d (.sl 1 (hints.map iD))]), some (.cells [.rs (σ.length + 3) 1 0 T.length (some 3)]), some (.cells (T.map fun x => A.d (iD x)))]) hints.length _
      (Wk.mask [1, 3, 5, 7, 9] ⟨0, lits.map fun x => -x, by omega, rfl, by rw [List.length_map]; omega, h, rfl, by rw [List.length_map, List.map_map]; rfl⟩) ?_
    clear h
    rintro m fr st ⟨k, T, hk, hm, hT, hR, rfl, rfl⟩
    rcases Nat.lt_or_ge k hints.length with klt | kge
    · have kd : decide ((k : Int) < (hints.length : Int)) = true := by simp; omega
      have hx := h6 _ (getD_mem 0 klt)
      obtain ⟨n, hn⟩ : ∃ n : Nat, hints.getD k 0 = (n : Int) := ⟨(hints.getD k 0).toNat, by omega⟩
      have e2 : List.getD (List.map iD hints) k default = iD (n : Int) := by rw [← hn]; exact getD_mapD klt
      have w3 := wrapS k (by omega)
      have w5 : IntKind.i64.wrap ((hints.length : Int) - 1) = ((hints.length - 1 : Nat) : Int) := by rw [wrap64_id _ (by omega) (by omega)]; omega
      obtain ⟨hcl, hcx⟩ := h7 n
      rw [drop_getD 0 klt, hn] at hR
      simp only [go_sem, List.length_map, kd, e2, w3]
      refine ⟨⟨by omega, by omega⟩, ac' (clause_ac ⟨vars, cls⟩ l n (by simp only [reachBytes]; omega) (by simp only [reachBytes]; omega) (by simp only; omega) _ _ _ ?_)⟩
      simp only
      obtain ⟨c, hc⟩ : ∃ c, clauseAt cls l n = c := ⟨_, rfl⟩
      rw [hc] at hcl hcx ⊢
      rcases Nat.lt_or_ge (k + 1) hints.length with hmore | hlast
      · have kd2 : ((k : Int) == ((hints.length - 1 : Nat) : Int)) = false := by simp; omega
        obtain ⟨y, r, hyr⟩ : ∃ y r, hints.drop (k + 1) = y :: r := ⟨_, _, drop_getD 0 hmore⟩
        rw [hyr, justR_two, Int.toNat_natCast, hc] at hR
        simp only [go_sem, List.length_map, w5, kd2]
        refine ac' (ac_pure (di (unitS T c 0)) rfl (views2 (views_assign (at_own 2 rfl) (at_own 3 rfl)) (Views.d _)) (unit_ac T c (by simp only [reachBytes]; omega) hcl hcx [] G _ rfl) ?_)
        simp only [go_sem, List.length_map, Try.results67]
        refine ⟨fun he => ret_d hbd ?_, fun hne => ⟨?_, ?_⟩⟩
        · simp at he; simpa [he] using hR
        · exact ⟨by omega, by simp only [maxLen]; omega, by omega⟩
        · simp only [w3]
          refine Wk.keep [1, 3, 5, 7, 9] [0, 1, 2, 5] (by decide) (Nat.le_refl _) hbd ⟨hints.length - (k + 1), by omega, k + 1, T ++ [unitS T c 0], klt, rfl, by rw [List.length_append, List.length_singleton]; omega, ?_, ?_, ?_⟩
          · rw [hyr]
            rw [if_neg (by simpa using hne)] at hR; exact hR
          · simp only [go_sem]
          · simp only [go_sem, List.map_append, List.map_cons, List.map_nil]
      · have kd2 : ((k : Int) == ((hints.length - 1 : Nat) : Int)) = true := by simp; omega
        rw [List.drop_eq_nil_of_le hlast, justR, Int.toNat_natCast, hc] at hR
        simp only [go_sem, List.length_map, w5, kd2]
        refine ac' (ac_pure (db (falsS T c)) rfl (views2 (views_assign (at_own 2 rfl) (at_own 3 rfl)) (Views.d _)) (fals_ac T c (by simp only [reachBytes]; omega) hcl hcx [] G _ rfl) ?_)
        simp only [go_sem, Try.results67]
        exact ret_d hbd hR
    · have kd : decide ((k : Int) < (hints.length : Int)) = false := by simp; omega
      simp only [go_sem, List.length_map, kd, Try.results67]
      refine ret_d hbd ?_
      rw [List.drop_eq_nil_of_le kge, justR] at hR; exact hR
end Go.Proofs.Ytpmjdaiboniagaa
end PartC4

section PartC10
/- slices.Compact, and the literals of a step. -/
set_option linter.unusedSimpArgs false
set_option maxRecDepth 100000
namespace Go.Proofs.Ytpmjdaiboniagaa
open Go Go.Ab

/-- Compact of a sorted slice: all of it if no neighbours are the same, fewer otherwise. -/
theorem compact_ac (l : List Int) (hl : l.length ≤ 12) (σ : St) (id : Nat) (w : Option TypeId) (hσ : σ[id]? = some (ints l)) (G : Glob) (R : A → St → Prop)
    (h1 : (∀ k, k + 1 < l.length → l.getD k 0 ≠ l.getD (k + 1) 0) → R (.rs id 1 0 l.length w) σ)
    (h2 : ∀ k, k + 1 < l.length → l.getD k 0 = l.getD (k + 1) 0 → ∀ (n : Nat) (cs : List A), n < l.length → n ≤ cs.length → R (.rs id 1 0 n w) (σ.set id (some (.cells cs)))) : AC Try.prog G 95 [.rs id 1 0 l.length w] σ R := by
  refine ac_enter mixed Try.func95 rfl Try.ntmps95 (by simp only [go_sem]) fun hbd => ?_
  simp only [List.length_cons, List.length_nil, Nat.reduceAdd, Nat.reduceSub, List.replicate_succ, List.replicate_zero, List.cons_append, List.nil_append]
  have hlive := live_of hσ
  rcases Nat.lt_or_ge l.length 2 with hlt | hge
  · have d1 : decide ((l.length : Int) < 2) = true := decide_eq_true (by omega)
    simp only [go_sem, hlive, d1, Try.results95]
    exact ⟨_, _, Weak.refl _ _ _ _, h1 fun k hk => by omega⟩
  · have d1 : decide ((l.length : Int) < 2) = false := decide_eq_false (by omega)
    simp only [go_sem, hlive, d1, Try.results95]
    refine aw_loop (fun m fr st => ∃ k : Nat, 1 ≤ k ∧ k ≤ l.length ∧ m = l.length - k ∧ (∀ q, q + 1 < k → l.getD q 0 ≠ l.getD (q + 1) 0) ∧ st = σ ∧ fr = [.rs id 1 0 l.length w, .any, .any, dn k, .any, .any, .any, .any, .any, .any, .any, .any, .any, .any, .any, .any, .any, .any, .any, .any, .any, .any, .any, .any, .any, .any, .any, .any, .any, .any, .any, .any, .any, .any, .any, .any, .any, .any, .any, .any, .any, .any, .any, .any, .any, .any, .any, .any, .any, .any, .any, .any, .any, .any, .any, .any, .any, .any, .any, .any, .any]) (l.length - 1) _
      (Wk.mask [0, 3] ⟨1, by omega, by omega, rfl, fun q hq => by omega, rfl, rfl⟩) ?_
    rintro m fr st ⟨k, hk, hk2, hm, hne, rfl, rfl⟩
    rcases Nat.lt_or_ge k l.length with klt | kge
    · have kd : decide ((k : Int) < (l.length : Int)) = true := decide_eq_true (by omega)
      have w2 := wrapS k (by omega)
      have w3 : IntKind.i64.wrap ((k : Int) - 1) = ((k - 1 : Nat) : Int) := by rw [wrap64_id _ (by omega) (by omega)]; omega
      have e1 : List.getD (l.map fun x => A.d (iD x)) k .any = A.d (iD (l.getD k 0)) := getD_mapA (by omega)
      have e2 : List.getD (l.map fun x => A.d (iD x)) (k - 1) .any = A.d (iD (l.getD (k - 1) 0)) := getD_mapA (by omega)
      have w4 : ((l.length : Int) - (k : Int)).toNat = l.length - k := by omega
      have hid : id < st.length := (List.getElem?_eq_some_iff.1 hσ).1
      simp only [go_sem, hlive, objK_of hσ, kd, w2, w3, w4, e1, e2, Nat.mul_one, Nat.zero_add, List.length_map]
      refine ⟨⟨by omega, by omega⟩, klt, ⟨by omega, by omega⟩, by omega, fun he => ⟨⟨by omega, by omega, by omega⟩, ?_⟩, fun hn => ?_⟩
      · have hdup := h2 (k - 1) (by omega) (by rw [Nat.sub_add_cancel hk]; simpa using (beq_iff_eq.1 he).symm)
        refine aw_loop (fun m fr s => ∃ (j n : Nat) (l' : List Int), 1 ≤ j ∧ j ≤ l.length - k ∧ m = l.length - k - j ∧ k ≤ n ∧ n < k + j ∧ l'.length = l.length ∧ s = st.set id (ints l') ∧
          fr = [.rs id 1 0 l.length w, .any, .any, dn n, .rs id 1 k (l.length - k) none, dn j, .any, .any, .any, .any, .any, .any, .any, .any, .any, .any, .any, .any, .any, .any, .any, .any, .any, .any, .any, .any, .any, .any, .any, .any, .any, .any, .any, .any, .any, .any, .any, .any, .any, .any, .any, .any, .any, .any, .any, .any, .any, .any, .any, .any, .any, .any, .any, .any, .any, .any, .any, .any, .any, .any, .any]) (l.length - k - 1) _
          (Wk.mask [0, 3, 4, 5] ⟨1, k, l, by omega, by omega, rfl, by omega, by omega, rfl, (set_same hσ).symm, rfl⟩) ?_
        rintro m' fr s ⟨j, n, l', hj, hj2, hm', hn1, hn2, hl', rfl, rfl⟩
        rcases Nat.lt_or_ge j (l.length - k) with jlt | jge
        · have jd : decide ((j : Int) < ((l.length - k : Nat) : Int)) = true := decide_eq_true (by omega)
          have w5 : IntKind.i64.wrap ((j : Int) - 1) = ((j - 1 : Nat) : Int) := by rw [wrap64_id _ (by omega) (by omega)]; omega
          have w6 := wrapS j (by omega)
          have w7 := wrapS n (by omega)
          have e3 : List.getD (l'.map fun x => A.d (iD x)) (k + j) .any = A.d (iD (l'.getD (k + j) 0)) := getD_mapA (by omega)
          have e4 : List.getD (l'.map fun x => A.d (iD x)) (k + (j - 1)) .any = A.d (iD (l'.getD (k + (j - 1)) 0)) := getD_mapA (by omega)
          simp only [go_sem, live_set hid, objK_set hid, jd, w5, w6, w7, e3, e4, Nat.mul_one, Nat.zero_add, List.length_map, List.set_set]
          refine ⟨⟨by omega, by omega⟩, by omega, ⟨by omega, by omega⟩, by omega, fun hne => ⟨⟨by omega, by omega⟩, by omega, ⟨by omega, by omega⟩, by omega, ?_⟩, fun heq => ?_⟩
          · rw [splice_ints' _ (by omega)]
            exact Wk.mask [0, 3, 4, 5] ⟨l.length - k - (j + 1), by omega, j + 1, n + 1, _, by omega, by omega, rfl, by omega, by omega, by rw [List.length_set]; exact hl', rfl, rfl⟩
          · exact Wk.mask [0, 3, 4, 5] ⟨l.length - k - (j + 1), by omega, j + 1, n, l', by omega, by omega, rfl, by omega, by omega, hl', rfl, rfl⟩
        · have jd : decide ((j : Int) < ((l.length - k : Nat) : Int)) = false := decide_eq_false (by omega)
          have w8 : ((l.length : Int) - (n : Int)).toNat = l.length - n := by omega
          simp only [go_sem, live_set hid, objK_set hid, jd, w8, Nat.mul_one, Nat.zero_add, List.length_map, List.set_set, Try.results95]
          refine ⟨⟨by omega, by omega, by omega⟩, ⟨by omega, by omega⟩, ⟨by omega, by omega⟩, _, _, Weak.refl _ _ _ _, hdup n _ (by omega) ?_⟩
          simp only [List.length_append, List.length_take, List.length_map, List.length_replicate]; omega
      · refine Wk.mask [0, 3] ⟨l.length - (k + 1), by omega, k + 1, by omega, by omega, rfl, fun q hq => ?_, rfl, rfl⟩
        by_cases hq' : q + 1 = k
        · subst hq'
          simp only [Nat.add_sub_cancel] at hn
          intro e; rw [e] at hn; simp at hn
        · exact hne q (by omega)
    · have kd : decide ((k : Int) < (l.length : Int)) = false := decide_eq_false (by omega)
      simp only [go_sem, hlive, kd, Try.results95]
      exact ⟨_, _, Weak.refl _ _ _ _, h1 fun q hq => hne q (by omega)⟩
theorem litsFrom_iff {v : Int} : ∀ {l pre : List Int}, litsFrom v pre l = true ↔ (∀ x ∈ l, 1 ≤ absI x ∧ absI x ≤ v) ∧ (l.map absI).Nodup ∧ ∀ x ∈ l, ∀ y ∈ pre, absI y ≠ absI x
  | [], pre => by simp [litsFrom]
  | x :: l, pre => by
    simp only [litsFrom, Bool.and_eq_true, Bool.not_eq_true', Bool.or_eq_false_iff, decide_eq_false_iff_not, List.any_eq_false, beq_iff_eq, litsFrom_iff (l := l), List.map_cons, List.nodup_cons, List.mem_cons, List.mem_append, List.mem_map, forall_eq_or_imp]
    constructor
    · rintro ⟨h1, h2, h3, h4, h5⟩
      refine ⟨⟨by omega, h3⟩, ⟨?_, h4⟩, h2, fun y hy z hz => h5 y hy z (.inl hz)⟩
      rintro ⟨y, hy, e⟩
      exact h5 y hy x (.inr (by simp)) e.symm
    · rintro ⟨⟨h1, h3⟩, ⟨h6, h4⟩, h2, h5⟩
      refine ⟨by omega, h2, h3, h4, fun y hy z hz => ?_⟩
      rcases hz with hz | hz
      · exact h5 y hy z hz
      · simp only [List.not_mem_nil, or_false] at hz
        subst hz
        exact fun e => h6 ⟨y, hy, e.symm⟩
/-- Sorted, and no neighbours are the same: nothing twice. -/
theorem nodup_of_sorted {l : List Int} (h : ∀ p q, p < q → q < l.length → l.getD p 0 ≤ l.getD q 0) (hn : ∀ k, k + 1 < l.length → l.getD k 0 ≠ l.getD (k + 1) 0) : l.Nodup := by
  refine List.pairwise_iff_getElem.2 fun i j hi hj hij => ?_
  have e1 : l.getD i 0 = l[i] := by rw [List.getD_eq_getElem?_getD, List.getElem?_eq_getElem hi]; rfl
  have e2 : l.getD j 0 = l[j] := by rw [List.getD_eq_getElem?_getD, List.getElem?_eq_getElem hj]; rfl
  rw [← e1, ← e2]
  have h1 := hn i (by omega)
  have h2 := h i (i + 1) (by omega) (by omega)
  by_cases e : j = i + 1
  · subst e; exact h1
  · have h3 := h (i + 1) j (by omega) hj
    omega
theorem dup_of {l : List Int} {k : Nat} (hk : k + 1 < l.length) (he : l.getD k 0 = l.getD (k + 1) 0) : ¬ l.Nodup := fun h => by
  have := List.pairwise_iff_getElem.1 h k (k + 1) (by omega) hk (by omega)
  have e1 : l.getD k 0 = l[k] := by rw [List.getD_eq_getElem?_getD, List.getElem?_eq_getElem (by omega)]; rfl
  have e2 : l.getD (k + 1) 0 = l[k + 1] := by rw [List.getD_eq_getElem?_getD, List.getElem?_eq_getElem hk]; rfl
  rw [e1, e2] at he
  exact this he
theorem vlits_ac (lits : List Int) (vars : Int) (hl : lits.length ≤ 12) (σ : St) (G : Glob) (R : A → St → Prop) (h : R (db (litsFrom vars [] lits)) σ) : AC Try.prog G 87 [.d (isD lits), di vars] σ R := by
  refine ac_enter mixed Try.func87 rfl Try.ntmps87 (by simp only [go_sem]) fun hbd => ?_
  simp only [List.length_cons, List.length_nil, Nat.reduceAdd, Nat.reduceSub, List.replicate_succ, List.replicate_zero, List.cons_append, List.nil_append]
  simp only [isD, go_sem, List.length_map]
  refine ⟨⟨by omega, by omega⟩, ?_⟩
  refine aw_loop (fun m fr st => ∃ j : Nat, j ≤ lits.length ∧ m = lits.length - j ∧ (∀ x ∈ lits.take j, 1 ≤ absI x ∧ absI x ≤ vars) ∧ fr = [.d (.sl 1 (lits.map iD)), di vars, .any, .any, .any, .rs σ.length 1 0 j (some 3), .any, .any, .any, .any, .any, .d (.sl 1 (lits.map iD)), dn lits.length, dn j, .any, .any, .any, .any, .any, .any, .any, .any, .any, .any, .any, .any, .any, .any, .any, .any, .any, .any, .any, .any, .any, .any, .any, .any, .any, .any, .any] ∧
    st = σ ++ [ints ((lits.take j).map absI)]) lits.length _ (Wk.mask [0, 1, 5, 11, 12, 13] ⟨0, by omega, rfl, by simp, rfl, rfl⟩) ?_
  rintro m fr st ⟨j, hj, hm, hall, rfl, rfl⟩
  rcases Nat.lt_or_ge j lits.length with hlt | hge
  · have hd : decide ((j : Int) < (lits.length : Int)) = true := decide_eq_true (by omega)
    have e1 : List.getD (List.map iD lits) j default = iD (lits.getD j 0) := getD_mapD hlt
    have w2 := wrapS j (by omega)
    have htk : lits.take (j + 1) = lits.take j ++ [lits.getD j 0] := by
      rw [List.take_add_one, List.getD_eq_getElem?_getD, List.getElem?_eq_getElem hlt]; rfl
    have hmem := getD_mem 0 hlt
    simp only [go_sem, List.length_map, hd, e1, w2]
    generalize lits.getD j 0 = l at htk hmem
    refine ⟨⟨by omega, by omega⟩, ?_⟩
    refine ⟨fun hneg => ?_, fun hneg => ?_⟩
    all_goals
      have ea : absI l = if l < 0 then IntKind.i64.wrap (0 - l) else l := rfl
      first | rw [if_pos (of_decide_eq_true hneg)] at ea | rw [if_neg (of_decide_eq_false hneg)] at ea
      clear hneg
      simp only [go_sem, Try.results87]
      refine ⟨fun hb => ret_d hbd ?_, fun hb => ⟨⟨by rw [List.length_take]; omega, by simp only [maxLen]; omega, by omega⟩, Wk.keep [0, 1, 5, 11, 12, 13] [2] (by decide) (Nat.le_refl _) hbd ⟨lits.length - (j + 1), by omega, j + 1, hlt, rfl, ?_, ?_, ?_⟩⟩⟩
      · have hf : litsFrom vars [] lits = false := by
          cases hf : litsFrom vars [] lits with
          | false => rfl
          | true =>
            have := (litsFrom_iff.1 hf).1 _ hmem
            rw [ea] at this
            simp only [Bool.or_eq_true, decide_eq_true_eq] at hb
            omega
        rw [hf] at h; exact h
      · intro x hx
        rw [htk] at hx
        simp only [Bool.or_eq_false_iff, decide_eq_false_iff_not] at hb
        rcases List.mem_append.1 hx with hx | hx
        · exact hall x hx
        · simp only [List.mem_cons, List.not_mem_nil, or_false] at hx
          subst hx; rw [ea]; omega
      · simp only [go_sem]
      · simp only [go_sem, htk, List.map_append, List.map_cons, List.map_nil, ints]; rw [ea]
  · have hd : decide ((j : Int) < (lits.length : Int)) = false := decide_eq_false (by omega)
    have htk : lits.take j = lits := List.take_of_length_le hge
    have hj' : j = lits.length := by omega
    subst hj'
    rw [htk] at hall
    have hll : (lits.map absI).length = lits.length := List.length_map ..
    simp only [go_sem, List.length_map, hd, htk]
    rw [← hll]
    refine ac' (sort_ac (lits.map absI) (by omega) _ σ.length (some 3) (at_own 0 rfl) _ _ fun r l' hp hs => ?_)
    have hl' : l'.length = lits.length := by rw [hp.length_eq, hll]
    simp only [go_sem]
    rw [hll, ← hl']
    refine ac' (compact_ac l' (by omega) _ σ.length (some 3) (at_own 0 rfl) _ _ (fun hn => ?_) (fun k hk he n cs hn1 hn2 => ?_))
    · have hnd : l'.Nodup := nodup_of_sorted (fun p q h1 h2 => hs p q h1 (by omega)) hn
      simp only [go_sem, List.length_map, hl', Try.results87]
      refine ret_d hbd ?_
      have hf : litsFrom vars [] lits = true := litsFrom_iff.2 ⟨hall, hp.nodup_iff.1 hnd, fun _ _ _ hy => by cases hy⟩
      rw [hf] at h
      rwa [beq_self_eq_true]
    · simp only [go_sem, List.length_map, Try.results87]
      refine ret_d hbd ?_
      have hf : litsFrom vars [] lits = false := by
        cases hf : litsFrom vars [] lits with
        | false => rfl
        | true => exact (dup_of hk he (hp.nodup_iff.2 (litsFrom_iff.1 hf).2.1)).elim
      rw [hf] at h
      rwa [show ((n : Int) == (lits.length : Int)) = false by simp; omega]
end Go.Proofs.Ytpmjdaiboniagaa
end PartC10
