import Derived.Test.YtnanofipjiclfaaRows
import Derived.Test.YtnanofipjiclfaaAbPlain
import Derived.Test.YtnanofipjiclfaaZ67
import Derived.Stop.Joined
import Derived.Test.YtnanofipjiclfaaRA
import Derived.Test.YtnanofipjiclfaaZ610

section PartRB
/- What the rows of this seat share: the start; data of the laws' types. -/
set_option maxRecDepth 100000
set_option linter.unusedSimpArgs false
set_option linter.unusedVariables false
namespace Go.Proofs.Ytnanofipjiclfaa
open Go Go.Ab Go.RowKit Go.ChangeShapes Go.WideShapes
theorem own : ownKnob Try.prog.godebug = none := by kernel_rfl
theorem nat_of_wf_u8' {z : Int} (h : (Lit.int .u8 z).wf = true) : ∃ m : Nat, z = m ∧ m ≤ 255 := by
  have h1 : IntKind.min .u8 = 0 := rfl
  have h2 : IntKind.max .u8 = 255 := rfl
  simp only [Lit.wf, Bool.and_eq_true, decide_eq_true_eq, h1, h2] at h
  exact ⟨z.toNat, by omega, by omega⟩
theorem dty_u8' {N n : Nat} {x : D} (h : DTy Try.prog N n 5 x) : ∃ b : Nat, x = .int .u8 b ∧ b ≤ 255 := by
  obtain _ | n := n
  · exact h.elim
  simp only [DTy, Try.underlying5] at h
  obtain ⟨z, rfl, hw⟩ := h
  obtain ⟨m, rfl, hm⟩ := nat_of_wf_u8' hw
  exact ⟨m, rfl, hm⟩
end Go.Proofs.Ytnanofipjiclfaa
end PartRB

section PartR6
/- SolverPigeons: the law answers true for every input, and leaves its input as it was. No condition. -/
set_option maxRecDepth 100000
set_option linter.unusedSimpArgs false
set_option linter.unusedVariables false
namespace Go.Proofs.Ytnanofipjiclfaa
open Go Go.Ab Go.RowKit Go.ChangeShapes Go.WideShapes
theorem liftedSolverPigeons (os : Os) (started : os.Started) (H : Type) (enc : TypeId × Value → H) :
    ReturnsInHanded {} Try.checked os 6 .any (Rows.solverPigeonsSpec.pre6 enc Try.prog Try.f6 [] false) (Rows.solverPigeonsSpec.post enc Try.prog Try.f6 false true false false) := by
  refine returns_plain (C := Try.checked) own started (by kernel_rfl) Try.func6 (ChangeSpec.witness6 (enc := enc) (C := Try.checked) false ⟨#[], #[.int .u8 0], []⟩ 8 (by kernel_rfl) (by kernel_rfl) (by kernel_rfl) (by kernel_rfl)) ?_
  intro W base args ds gs before hval hW hz
  refine calls_true (G := ⟨fun _ => none, fun _ _ => False⟩) (S := [4, 5]) (tb := 4) hW hval (by kernel_rfl) (by rw [Try.params6]; kernel_rfl) (by kernel_rfl) (by rw [Try.params6]; kernel_rfl) rfl (by kernel_rfl) Try.underlying4 (fun ds hds => ?_) (fun g x h => by cases h) hz (fun xs hx => ?_)
  · rw [Try.params6] at hds
    match ds, hds with
    | [d0], _ => rfl
  · skip
    rw [Try.params6] at hx
    generalize args.toList = vs at hx
    cases hx with
    | cons h0 _ hx =>
      obtain ⟨n0, h0⟩ := h0
      obtain ⟨x0, rfl, k0⟩ := dty_u8' h0
      cases hx
      exact law6_ac x0 k0 [] _ _ (fun _ => rfl)
theorem closedSolverPigeons : joinedFacts Try.prog 6 Try.f6 Rows.solverPigeonsSpec Rows.solverPigeonsRow = true := by
  rw [joinedFacts, mayEnter, liftsFinal, makes]
  kernel_rfl
theorem solverPigeons_holds : Rows.SolverPigeonsSaid :=
  OpenClaim.holds_of_wide 6 Try.f6 rfl rfl rfl rfl rfl rfl rfl ⟨rfl, rfl, rfl, rfl, rfl⟩ rfl rfl rfl rfl rfl (by kernel_rfl) Try.func6 closedSolverPigeons
    (of_decide_eq_true (by kernel_rfl)) (by unfold Func.isWrapper; first | (rw [if_pos (by decide +kernel)]; kernel_rfl) | (rw [if_neg (by decide +kernel)]; exact ⟨rfl, rfl⟩))
    (fun os started H enc _ => liftedSolverPigeons os started H enc)
#print axioms solverPigeons_holds
end Go.Proofs.Ytnanofipjiclfaa
end PartR6
