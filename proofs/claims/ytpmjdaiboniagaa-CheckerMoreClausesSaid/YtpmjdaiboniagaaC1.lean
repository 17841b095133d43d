/- Formulas, steps: what they are as data; plain functions. -/
import Derived.Test.YtpmjdaiboniagaaFacts
namespace Go.Proofs.Ytpmjdaiboniagaa
open Go Go.Ab

theorem wrap64_id (x : Int) (h0 : -9223372036854775808 ≤ x) (h1 : x ≤ 9223372036854775807) : IntKind.i64.wrap x = x := by
  rw [IntKind.wrap_i64]; omega
theorem wrapS (j : Nat) (h : j < 9223372036854775807) : IntKind.i64.wrap ((j : Int) + 1) = ((j + 1 : Nat) : Int) := by
  rw [wrap64_id _ (by omega) (by omega)]; rfl
abbrev iD (n : Int) : D := .int .i64 n
abbrev di (n : Int) : A := .d (.int .i64 n)
abbrev dn (n : Nat) : A := .d (.int .i64 n)
abbrev db (b : Bool) : A := .d (.bool b)
def isD (l : List Int) : D := .sl 1 (l.map iD)
def clsD (c : List (List Int)) : D := .sl 1 (c.map isD)
def bsD (l : List Bool) : D := .sl 1 (l.map .bool)
structure Cnf where
  vars : Int
  cls : List (List Int)
structure Stp where
  lits : List Int
  hints : List Int
def cnfD (f : Cnf) : D := .agg [iD f.vars, clsD f.cls]
def stpD (s : Stp) : D := .agg [isD s.lits, isD s.hints]
def stpsD (l : List Stp) : D := .sl 2 (l.map stpD)
/-- A machine's integer. -/
def I64 (x : Int) : Prop := -9223372036854775808 ≤ x ∧ x ≤ 9223372036854775807
theorem getD_mapD {α : Type} {f : α → D} {l : List α} {j : Nat} {d : α} (h : j < l.length) : List.getD (l.map f) j default = f (l.getD j d) := by
  rw [List.getD_eq_getElem?_getD, List.getElem?_map, List.getD_eq_getElem?_getD, List.getElem?_eq_getElem h]; rfl
theorem drop_getD {α : Type} {l : List α} {j : Nat} (d : α) (h : j < l.length) : l.drop j = l.getD j d :: l.drop (j + 1) := by
  rw [List.drop_eq_getElem_cons h, List.getD_eq_getElem?_getD, List.getElem?_eq_getElem h]; rfl
theorem getD_mem {α : Type} {l : List α} {j : Nat} (d : α) (h : j < l.length) : l.getD j d ∈ l := by
  rw [List.getD_eq_getElem?_getD, List.getElem?_eq_getElem h]; exact List.getElem_mem h
theorem cells_isD (l : List Int) : (isD l).cells = [isD l] := rfl

/-- The variable of a literal (of the least integer: itself). -/
def absI (l : Int) : Int := if l < 0 then IntKind.i64.wrap (0 - l) else l
def litOk (vars l : Int) : Bool := !(l == 0 || decide (l > vars) || decide (l < -vars))
/-- Is a formula well-formed? -/
def validC (f : Cnf) : Bool := !(decide (f.vars < 0) || decide (f.vars > 8000) || decide ((40000 : Int) < f.cls.length)) && f.cls.all fun c => c.all (litOk f.vars)
theorem isD_getD {cls : List (List Int)} {j : Nat} (h : j < cls.length) : List.getD (cls.map isD) j default = .sl 1 ((cls.getD j []).map iD) := getD_mapD (f := isD) (d := []) h
theorem stpD_getD {l : List Stp} {j : Nat} (h : j < l.length) : List.getD (l.map stpD) j default = .agg [isD (l.getD j ⟨[], []⟩).lits, isD (l.getD j ⟨[], []⟩).hints] := getD_mapD (f := stpD) (d := ⟨[], []⟩) h
/-- Is a literal true? -/
def holdsL (v : List Bool) (l : Int) : Bool := (v.getD (l.natAbs - 1) false) == decide (0 < l)
def evalC (f : Cnf) (v : List Bool) : Bool := f.cls.all fun c => c.any (holdsL v)
theorem absI_of {l : Int} (h : -8000 ≤ l ∧ l ≤ 8000) : absI l = (l.natAbs : Nat) := by
  unfold absI
  split
  · rw [wrap64_id _ (by omega) (by omega)]; omega
  · omega
theorem litOk_iff {v l : Int} : litOk v l = true ↔ l ≠ 0 ∧ l ≤ v ∧ -v ≤ l := by
  simp only [litOk, Bool.not_eq_true', Bool.or_eq_false_iff, beq_eq_false_iff_ne, decide_eq_false_iff_not]; omega
theorem validC_iff {f : Cnf} : validC f = true ↔ (0 ≤ f.vars ∧ f.vars ≤ 8000 ∧ f.cls.length ≤ 40000) ∧ ∀ c ∈ f.cls, ∀ l ∈ c, l ≠ 0 ∧ l ≤ f.vars ∧ -f.vars ≤ l := by
  simp only [validC, Bool.and_eq_true, Bool.not_eq_true', Bool.or_eq_false_iff, decide_eq_false_iff_not, List.all_eq_true, litOk_iff]
  constructor <;> rintro ⟨h, k⟩ <;> exact ⟨by omega, k⟩
/-- Are a formula and steps small? -/
def smallC (f : Cnf) (l : List Stp) : Bool := !(decide ((40 : Int) < f.cls.length) || decide ((60 : Int) < l.length)) && (f.cls.all (fun c => !decide ((12 : Int) < c.length)) && l.all fun s => !(decide ((12 : Int) < s.lits.length) || decide ((40 : Int) < s.hints.length)))
theorem smallC_iff {f : Cnf} {l : List Stp} : smallC f l = true ↔ (f.cls.length ≤ 40 ∧ l.length ≤ 60) ∧ (∀ c ∈ f.cls, c.length ≤ 12) ∧ ∀ s ∈ l, s.lits.length ≤ 12 ∧ s.hints.length ≤ 40 := by
  simp only [smallC, Bool.and_eq_true, Bool.not_eq_true', Bool.or_eq_false_iff, decide_eq_false_iff_not, List.all_eq_true]
  constructor
  · rintro ⟨h, k, m⟩
    exact ⟨by omega, fun c hc => by have := k c hc; omega, fun s hs => by have := m s hs; omega⟩
  · rintro ⟨h, k, m⟩
    exact ⟨by omega, fun c hc => by have := k c hc; omega, fun s hs => by have := m s hs; omega⟩
/-- The literals of a step, one by one. -/
def litsFrom (vars : Int) : List Int → List Int → Bool
  | _, [] => true
  | pre, l :: r => !(decide (absI l < 1) || decide (vars < absI l)) && (!(pre.any fun x => absI x == absI l) && litsFrom vars (pre ++ [l]) r)
def hintsOk (num : Int) (hints : List Int) : Bool := hints.all fun h => !(decide (h < 0) || decide (num ≤ h))
def stepOk (vars num : Int) (s : Stp) : Bool := litsFrom vars [] s.lits && hintsOk num s.hints
def stepsOk (vars : Int) : Nat → List Stp → Bool
  | _, [] => true
  | n, s :: r => stepOk vars n s && stepsOk vars (n + 1) r
def clauseAt (cls : List (List Int)) (l : List Stp) (n : Nat) : List Int := if n < cls.length then cls.getD n [] else (l.getD (n - cls.length) ⟨[], []⟩).lits
/-- The open literal of a unit clause, or 0. -/
def unitS (T : List Int) : List Int → Int → Int
  | [], o => o
  | l :: c, o => if l ∈ T then 0 else if -l ∈ T ∨ l = o then unitS T c o else if o ≠ 0 then 0 else unitS T c l
def falsS (T c : List Int) : Bool := c.all fun l => decide (-l ∈ T)
/-- Is a step justified, as the reference has it? -/
def justR (cl : Nat → List Int) (T : List Int) : List Int → Bool
  | [] => false
  | [h] => falsS T (cl h.toNat)
  | h :: hs => let u := unitS T (cl h.toNat) 0
    if u = 0 then false else justR cl (T ++ [u]) hs
theorem justR_two (cl : Nat → List Int) (T : List Int) (h y : Int) (r : List Int) : justR cl T (h :: y :: r) = if unitS T (cl h.toNat) 0 = 0 then false else justR cl (T ++ [unitS T (cl h.toNat) 0]) (y :: r) := rfl
/-- Formulas and steps of a size that is gone through. -/
structure Fine (f : Cnf) (l : List Stp) : Prop where
  vars : I64 f.vars
  cls : f.cls.length ≤ 1000
  len : ∀ c ∈ f.cls, c.length ≤ reachBytes
  steps : l.length ≤ 1000
  lits : ∀ s ∈ l, s.lits.length ≤ 1000 ∧ s.hints.length ≤ 1000 ∧ ∀ x ∈ s.lits, I64 x
def negs (l : List Int) : List Int := l.map fun x => -x
def goodR (f : Cnf) (before : List Stp) (s : Stp) : Bool := stepOk f.vars ((f.cls.length + before.length : Nat) : Int) s && justR (clauseAt f.cls before) (negs s.lits) s.hints
/-- The first step that is not good, from k on. -/
def chkFrom (good : List Stp → Stp → Bool) (l : List Stp) : Nat → List Stp → Int × Int
  | _, [] => (-1, 0)
  | k, s :: r => if good (l.take k) s then chkFrom good l (k + 1) r else ((k : Int), 260)
def chk (good : List Stp → Stp → Bool) (f : Cnf) (l : List Stp) : Int × Int := if !validC f then (-1, 210) else if (20000 : Int) < l.length then (-1, 2) else chkFrom good l 0 l
theorem absI_range {l v : Int} (hl : I64 l) (h1 : ¬ absI l < 1) (h2 : ¬ v < absI l) : -v ≤ l ∧ l ≤ v ∧ l ≠ 0 := by
  unfold absI at h1 h2
  unfold I64 at hl
  split at h1
  · rename_i h0
    rw [if_pos h0] at h2
    by_cases hm : l = -9223372036854775808
    · subst hm
      rw [IntKind.wrap_i64] at h1; omega
    · rw [wrap64_id _ (by omega) (by omega)] at h1 h2; omega
  · rename_i h0
    rw [if_neg h0] at h2; omega
theorem litsFrom_range {v : Int} : ∀ {pre l : List Int}, (∀ x ∈ l, I64 x) → litsFrom v pre l = true → ∀ x ∈ l, -v ≤ x ∧ x ≤ v ∧ x ≠ 0
  | _, [], _, _, x, hx => by cases hx
  | pre, y :: l, hw, h, x, hx => by
    simp only [litsFrom, Bool.and_eq_true, Bool.not_eq_true', Bool.or_eq_false_iff, decide_eq_false_iff_not] at h
    rcases List.mem_cons.1 hx with rfl | hx
    · exact absI_range (hw _ (by simp)) h.1.1 h.1.2
    · exact litsFrom_range (fun z hz => hw z (by simp [hz])) h.2.2 x hx
theorem hintsOk_range {n : Int} {l : List Int} (h : hintsOk n l = true) : ∀ x ∈ l, 0 ≤ x ∧ x < n := fun x hx => by
  have := List.all_eq_true.1 h x hx
  simp only [Bool.not_eq_true', Bool.or_eq_false_iff, decide_eq_false_iff_not] at this
  omega
theorem clauseAt_all {cls : List (List Int)} {l : List Stp} {p : List Int → Prop} (h0 : p []) (h1 : ∀ c ∈ cls, p c) (h2 : ∀ s ∈ l, p s.lits) (n : Nat) : p (clauseAt cls l n) := by
  unfold clauseAt
  split
  · rename_i h; exact h1 _ (getD_mem [] h)
  · rcases Nat.lt_or_ge (n - cls.length) l.length with h | h
    · exact h2 _ (getD_mem _ h)
    · rw [List.getD_eq_getElem?_getD, List.getElem?_eq_none h]; exact h0
end Go.Proofs.Ytpmjdaiboniagaa
