/- CheckerMoreClauses: the law answers true for every input, and leaves its input as it was. No condition. -/
import Derived.Test.YtpmjdaiboniagaaRA
import Derived.Test.YtpmjdaiboniagaaRB
import Derived.Test.YtpmjdaiboniagaaC30
set_option maxRecDepth 100000
set_option linter.unusedSimpArgs false
set_option linter.unusedVariables false
namespace Go.Proofs.Ytpmjdaiboniagaa
open Go Go.Ab Go.RowKit Go.ChangeShapes Go.WideShapes
theorem liftedCheckerMoreClauses (os : Os) (started : os.Started) (H : Type) (enc : TypeId × Value → H) :
    ReturnsInHanded {} Try.checked os 13 .any (Rows.checkerMoreClausesSpec.pre6 enc Try.prog Try.f13 [] false) (Rows.checkerMoreClausesSpec.post enc Try.prog Try.f13 false true false false) := by
  refine returns_plain (C := Try.checked) own started (by kernel_rfl) Try.func13 (ChangeSpec.witness6 (enc := enc) (C := Try.checked) false ⟨#[], #[.agg #[.int .i64 0, .slice none 0 0], .slice none 0 0, .slice none 0 0], []⟩ 8 (by kernel_rfl) (by kernel_rfl) (by kernel_rfl) (by kernel_rfl)) ?_
  intro W base args ds gs before hval hW hz
  refine calls_true (G := fun _ => none) (S := [3, 25, 22, 24, 44, 50]) (tb := 4) hW hval (by kernel_rfl) (by rw [Try.params13]; kernel_rfl) (by kernel_rfl) (by rw [Try.params13]; kernel_rfl) rfl (by kernel_rfl) Try.underlying4 (fun ds hds => ?_) (fun g x h => by cases h) hz (fun xs hx => ?_)
  · rw [Try.params13] at hds
    match ds, hds with
    | [d0, d1, d2], _ => rfl
  · skip
    rw [Try.params13] at hx
    generalize args.toList = vs at hx
    cases hx with
    | cons h0 _ hx =>
      obtain ⟨n0, h0⟩ := h0
      obtain ⟨x0, rfl, k0⟩ := dty_cnf h0
      cases hx with
      | cons h1 _ hx =>
        obtain ⟨n1, h1⟩ := h1
        obtain ⟨x1, rfl, k1⟩ := dty_stps h1
        cases hx with
        | cons h2 _ hx =>
          obtain ⟨n2, h2⟩ := h2
          obtain ⟨x2, rfl, k2⟩ := dty_cls h2
          cases hx
          exact law13_ac x0 x1 x2 k0.2.1 k1.1 (fun c hc => (k0.2.2 c hc).1) k2.1 (fun c hc => (k2.2 c hc).1) k0.1 (fun s hs => (k1.2 s hs).1.2) (fun s hs => (k1.2 s hs).2.2) [] _ _ rfl
theorem closedCheckerMoreClauses : joinedFacts Try.prog 13 Try.f13 Rows.checkerMoreClausesSpec Rows.checkerMoreClausesRow = true := by
  rw [joinedFacts, mayEnter, liftsFinal, makes]
  kernel_rfl
theorem checkerMoreClauses_holds : Rows.CheckerMoreClausesSaid :=
  OpenClaim.holds_of_wide 13 Try.f13 rfl rfl rfl rfl rfl rfl rfl ⟨rfl, rfl, rfl, rfl, rfl⟩ rfl rfl rfl rfl rfl (by kernel_rfl) Try.func13 closedCheckerMoreClauses
    (of_decide_eq_true (by kernel_rfl)) (by unfold Func.isWrapper; first | (rw [if_pos (by decide +kernel)]; kernel_rfl) | (rw [if_neg (by decide +kernel)]; exact ⟨rfl, rfl⟩))
    (fun os started H enc _ => liftedCheckerMoreClauses os started H enc)
#print axioms checkerMoreClauses_holds
end Go.Proofs.Ytpmjdaiboniagaa
