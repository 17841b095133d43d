/- LexerFirstError: the law answers true for every input, and leaves its input as it was. Its condition: the laid table holds what the text of the program lays (tied by the card). -/
import Derived.Test.YtaapoadjgfoieaaDoorT8
import Derived.Test.YtaapoadjgfoieaaDoorR0
import Derived.Test.YtaapoadjgfoieaaDoorCards
import Derived.Test.YtaapoadjgfoieaaDoorTie
set_option maxRecDepth 100000
set_option linter.unusedSimpArgs false
set_option linter.unusedVariables false
namespace Go.Proofs.YtaapoadjgfoieaaDoor
open Go Go.Ab Go.RowKit Go.ChangeShapes Go.WideShapes
theorem liftedLexerFirstError (os : Os) (started : os.Started) (H : Type) (enc : TypeId × Value → H) :
    ReturnsInHanded {} Tryd.checked os 7 .any (fun w args => (Rows.lexerFirstErrorSpec.pre enc Tryd.prog Tryd.f7 [] false w args ∧ laidMetH Tryd.prog laid1 w) ∧ sizedMet enc Tryd.prog Tryd.f7 (OpenSpec.ofChange Rows.lexerFirstErrorSpec) false w args)
      (Rows.lexerFirstErrorSpec.post enc Tryd.prog Tryd.f7 false true false false) := by
  refine returnsInHanded_of_change_and (C := Tryd.checked) (X := fun w _ => laidMetH Tryd.prog laid1 w) (fun _ _ _ hh h => h.of_heap hh) own started (by kernel_rfl) Tryd.func7
    (ChangeSpec.witness_shaped (enc := enc) (C := Tryd.checked) (os := os) (X := fun w _ => laidMetH Tryd.prog laid1 w) false (World.doorLaid Tryd.prog 400 os) #[.string ⟨#[]⟩] 8 rfl (World.shaped_of_RefB (by kernel_rfl) (by kernel_rfl)) (by kernel_rfl) (by kernel_rfl) (by kernel_rfl) (door_met os _)) ?_
  intro W base args ds gs before hval hW _ hz hL _
  refine calls_true (G := globs) (S := [9]) (tb := 4) hW hval (by kernel_rfl) (by rw [Tryd.params7]; kernel_rfl) (by kernel_rfl) (by rw [Tryd.params7]; kernel_rfl) rfl (by kernel_rfl) Tryd.underlying4 (fun ds hds => ?_) (globs_rep hL) hz (fun xs hx => ?_)
  · rw [Tryd.params7] at hds
    match ds, hds with
    | [d0], _ => rfl
  · skip
    rw [Tryd.params7] at hx
    generalize args.toList = vs at hx
    cases hx with
    | cons h0 _ hx =>
      obtain ⟨n0, h0⟩ := h0
      obtain _ | n0 := n0
      · exact h0.elim
      simp only [DTy, Tryd.underlying9] at h0
      obtain ⟨x0, rfl, hl0⟩ := h0
      cases hx
      exact law7_ac x0 [] globs rfl _ rfl
theorem lexerFirstError_said : Rows.LexerFirstErrorSaid :=
  OpenClaim.holds_of_wide 7 Tryd.f7 rfl rfl rfl rfl rfl rfl rfl ⟨rfl, rfl, rfl, rfl, rfl⟩ rfl rfl rfl rfl rfl (by kernel_rfl) Tryd.func7 (by kernel_rfl)
    (of_decide_eq_true (by kernel_rfl)) (by unfold Func.isWrapper; first | (rw [if_pos (by decide +kernel)]; kernel_rfl) | (rw [if_neg (by decide +kernel)]; exact ⟨rfl, rfl⟩))
    (fun os started H enc _ => liftedLexerFirstError os started H enc)
theorem lexerFirstError_holds : Rows.LexerFirstErrorCardSaid :=
  Claim7.holds_tied_plain_at .later [] [.data] true (true, "9fe6de2c956adbeeefd64925d630ad7d573b074506a07eb6d1b693546ac9ea40") false
    lexerFirstError_said (fun _ h => by cases h) (by kernel_rfl) (fun _ h => by cases h) lexerFirstError_row_tie rfl ⟨rfl, rfl⟩ (by kernel_rfl) rfl
    (fun f fn hf hfn => by
      obtain rfl : f = 7 := Option.some.inj ((show Tryd.prog.funcNamed "relyguard/relyguardlaw01.LexerFirstError" = some 7 by kernel_rfl).symm.trans hf) |>.symm
      obtain rfl : fn = Tryd.f7 := (Option.some.inj (Tryd.func7.symm.trans hfn)).symm
      exact ⟨by kernel_rfl, fun j t ht => by
        rw [Tryd.params7] at ht
        have hm : t ∈ [9] := by simpa using Array.mem_of_getElem? ht
        have hall : ([9].all fun u => !Tryd.prog.wantsStandIn u) = true := by kernel_rfl
        exact (show Tryd.prog.wantsStandIn t = false by simpa using List.all_eq_true.1 hall t hm)⟩)
    (by kernel_rfl)
#print axioms lexerFirstError_holds
end Go.Proofs.YtaapoadjgfoieaaDoor
