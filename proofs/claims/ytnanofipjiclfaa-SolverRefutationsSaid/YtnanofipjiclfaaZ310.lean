import Derived.Test.YtnanofipjiclfaaRows
import Derived.Test.YtnanofipjiclfaaAbPlain
import Derived.Test.YtnanofipjiclfaaZ37
import Derived.Stop.Joined
import Derived.Test.YtnanofipjiclfaaRA
import Derived.Test.YtnanofipjiclfaaZ39

section PartRB
/- What the rows of this seat share: the start; data of the laws' types. -/
set_option maxRecDepth 100000
set_option linter.unusedSimpArgs false
set_option linter.unusedVariables false
namespace Go.Proofs.Ytnanofipjiclfaa
open Go Go.Ab Go.RowKit Go.ChangeShapes Go.WideShapes
theorem own : ownKnob Try.prog.godebug = none := by kernel_rfl
theorem i64_of_wf {z : Int} (h : (Lit.int .i64 z).wf = true) : -9223372036854775808 ≤ z ∧ z ≤ 9223372036854775807 := by
  have h1 : IntKind.min .i64 = -9223372036854775808 := rfl
  have h2 : IntKind.max .i64 = 9223372036854775807 := rfl
  simp only [Lit.wf, Bool.and_eq_true, decide_eq_true_eq, h1, h2] at h
  exact h
theorem map_of {α : Type} {f : α → D} {p : α → Prop} : ∀ {xs : List D}, (∀ x ∈ xs, ∃ y, x = f y ∧ p y) → ∃ l : List α, xs = l.map f ∧ ∀ y ∈ l, p y
  | [], _ => ⟨[], rfl, fun y hy => by cases hy⟩
  | x :: xs, h => by
    obtain ⟨y, rfl, hy⟩ := h x (by simp)
    obtain ⟨l, rfl, hl⟩ := map_of (f := f) (p := p) (xs := xs) fun z hz => h z (by simp [hz])
    exact ⟨y :: l, rfl, fun z hz => by rcases List.mem_cons.1 hz with rfl | hz; exact hy; exact hl z hz⟩
theorem dty_int {N n : Nat} {x : D} (h : DTy Try.prog N n 3 x) : ∃ z, x = iD z ∧ -9223372036854775808 ≤ z ∧ z ≤ 9223372036854775807 := by
  obtain _ | n := n
  · exact h.elim
  simp only [DTy, Try.underlying3] at h
  obtain ⟨z, rfl, hw⟩ := h
  exact ⟨z, rfl, i64_of_wf hw⟩
theorem dty_bool {N n : Nat} {x : D} (h : DTy Try.prog N n 4 x) : ∃ b, x = .bool b ∧ True := by
  obtain _ | n := n
  · exact h.elim
  simp only [DTy, Try.underlying4] at h
  obtain ⟨b, rfl⟩ := h
  exact ⟨b, rfl, trivial⟩
theorem dty_ints {N n : Nat} {x : D} (h : DTy Try.prog N n 28 x) : ∃ l, x = isD l ∧ l.length ≤ N ∧ ∀ y ∈ l, -9223372036854775808 ≤ y ∧ y ≤ 9223372036854775807 := by
  obtain _ | n := n
  · exact h.elim
  simp only [DTy, Try.underlying28, go_sem] at h
  obtain ⟨xs, rfl, hl, hx⟩ := h
  obtain ⟨l, rfl, hl2⟩ := map_of fun x hx' => dty_int (hx x hx')
  exact ⟨l, rfl, by simpa using hl, hl2⟩
theorem three_of {ds : List D} (h : ds.length = 3) : ∃ a b c, ds = [a, b, c] := by
  match ds, h with
  | [a, b, c], _ => exact ⟨a, b, c, rfl⟩
theorem dty_cal {N n : Nat} {x : D} (h : DTy Try.prog N n 30 x) : ∃ c, x = calD c ∧ c.lits.length ≤ N ∧ (-9223372036854775808 ≤ c.fuel ∧ c.fuel ≤ 9223372036854775807) := by
  obtain _ | n := n
  · exact h.elim
  simp only [DTy, Try.underlying30] at h
  obtain ⟨ds, rfl, hl, hx⟩ := h
  obtain ⟨a, b, c, rfl⟩ := three_of hl
  obtain ⟨v, rfl, -⟩ := dty_bool (hx 0 _ a rfl rfl)
  obtain ⟨l, rfl, hl2, -⟩ := dty_ints (hx 1 _ b rfl rfl)
  obtain ⟨f, rfl, hf⟩ := dty_int (hx 2 _ c rfl rfl)
  exact ⟨⟨v, l, f⟩, rfl, hl2, hf⟩
theorem dty_cals {N n : Nat} {x : D} (h : DTy Try.prog N n 22 x) : ∃ l, x = calsD l ∧ l.length ≤ N ∧ ∀ c ∈ l, c.lits.length ≤ N ∧ (-9223372036854775808 ≤ c.fuel ∧ c.fuel ≤ 9223372036854775807) := by
  obtain _ | n := n
  · exact h.elim
  simp only [DTy, Try.underlying22, go_sem] at h
  obtain ⟨xs, rfl, hl, hx⟩ := h
  obtain ⟨l, rfl, h2⟩ := map_of fun x hx' => dty_cal (hx x hx')
  exact ⟨l, rfl, by simpa using hl, h2⟩
end Go.Proofs.Ytnanofipjiclfaa
end PartRB

section PartR3
/- SolverRefutations: the law answers true for every input, and leaves its input as it was. No condition. -/
set_option maxRecDepth 100000
set_option linter.unusedSimpArgs false
set_option linter.unusedVariables false
namespace Go.Proofs.Ytnanofipjiclfaa
open Go Go.Ab Go.RowKit Go.ChangeShapes Go.WideShapes
theorem liftedSolverRefutations (os : Os) (started : os.Started) (H : Type) (enc : TypeId × Value → H) :
    ReturnsInHanded {} Try.checked os 3 .any (Rows.solverRefutationsSpec.pre6 enc Try.prog Try.f3 [] false) (Rows.solverRefutationsSpec.post enc Try.prog Try.f3 false true false false) := by
  refine returns_plain (C := Try.checked) own started (by kernel_rfl) Try.func3 (ChangeSpec.witness6 (enc := enc) (C := Try.checked) false ⟨#[], #[.int .i64 0, .slice none 0 0], []⟩ 8 (by kernel_rfl) (by kernel_rfl) (by kernel_rfl) (by kernel_rfl)) ?_
  intro W base args ds gs before hval hW hz
  refine calls_true (G := ⟨fun _ => none, fun _ _ => False⟩) (S := [3, 4, 22, 27, 28, 30]) (tb := 4) hW hval (by kernel_rfl) (by rw [Try.params3]; kernel_rfl) (by kernel_rfl) (by rw [Try.params3]; kernel_rfl) rfl (by kernel_rfl) Try.underlying4 (fun ds hds => ?_) (fun g x h => by cases h) hz (fun xs hx => ?_)
  · rw [Try.params3] at hds
    match ds, hds with
    | [d0, d1], _ => rfl
  · skip
    rw [Try.params3] at hx
    generalize args.toList = vs at hx
    cases hx with
    | cons h0 _ hx =>
      obtain ⟨n0, h0⟩ := h0
      obtain ⟨x0, rfl, k0⟩ := dty_int h0
      cases hx with
      | cons h1 _ hx =>
        obtain ⟨n1, h1⟩ := h1
        obtain ⟨x1, rfl, k1⟩ := dty_cals h1
        cases hx
        exact law3_ac x0 x1 (Nat.le_trans k1.1 (by decide)) [] _ _ (fun _ => rfl)
theorem closedSolverRefutations : joinedFacts Try.prog 3 Try.f3 Rows.solverRefutationsSpec Rows.solverRefutationsRow = true := by
  rw [joinedFacts, mayEnter, liftsFinal, makes]
  kernel_rfl
theorem solverRefutations_holds : Rows.SolverRefutationsSaid :=
  OpenClaim.holds_of_wide 3 Try.f3 rfl rfl rfl rfl rfl rfl rfl ⟨rfl, rfl, rfl, rfl, rfl⟩ rfl rfl rfl rfl rfl (by kernel_rfl) Try.func3 closedSolverRefutations
    (of_decide_eq_true (by kernel_rfl)) (by unfold Func.isWrapper; first | (rw [if_pos (by decide +kernel)]; kernel_rfl) | (rw [if_neg (by decide +kernel)]; exact ⟨rfl, rfl⟩))
    (fun os started H enc _ => liftedSolverRefutations os started H enc)
#print axioms solverRefutations_holds
end Go.Proofs.Ytnanofipjiclfaa
end PartR3
