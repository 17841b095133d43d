/- LexerLongest: the law answers true for every input, and leaves its input as it was. Its condition: the laid table holds what the text of the program lays (tied by the card). -/
import Derived.Test.YtaapoadjgfoieaaDoorT8
import Derived.Test.YtaapoadjgfoieaaDoorR0
import Derived.Test.YtaapoadjgfoieaaDoorCards
import Derived.Test.YtaapoadjgfoieaaDoorTie
set_option maxRecDepth 100000
set_option linter.unusedSimpArgs false
set_option linter.unusedVariables false
namespace Go.Proofs.YtaapoadjgfoieaaDoor
open Go Go.Ab Go.RowKit Go.ChangeShapes Go.WideShapes
theorem liftedLexerLongest (os : Os) (started : os.Started) (H : Type) (enc : TypeId × Value → H) :
    ReturnsInHanded {} Tryd.checked os 8 .any (fun w args => (Rows.lexerLongestSpec.pre enc Tryd.prog Tryd.f8 [] false w args ∧ laidMetH Tryd.prog laid1 w) ∧ sizedMet enc Tryd.prog Tryd.f8 (OpenSpec.ofChange Rows.lexerLongestSpec) false w args)
      (Rows.lexerLongestSpec.post enc Tryd.prog Tryd.f8 false true false false) := by
  refine returnsInHanded_of_change_and (C := Tryd.checked) (X := fun w _ => laidMetH Tryd.prog laid1 w) (fun _ _ _ hh h => h.of_heap hh) own started (by kernel_rfl) Tryd.func8
    (ChangeSpec.witness_shaped (enc := enc) (C := Tryd.checked) (os := os) (X := fun w _ => laidMetH Tryd.prog laid1 w) false (World.doorLaid Tryd.prog 400 os) #[.string ⟨#[]⟩, .int .u16 0] 8 rfl (World.shaped_of_RefB (by kernel_rfl) (by kernel_rfl)) (by kernel_rfl) (by kernel_rfl) (by kernel_rfl) (door_met os _)) ?_
  intro W base args ds gs before hval hW _ hz hL _
  refine calls_true (G := globs) (S := [9, 37]) (tb := 4) hW hval (by kernel_rfl) (by rw [Tryd.params8]; kernel_rfl) (by kernel_rfl) (by rw [Tryd.params8]; kernel_rfl) rfl (by kernel_rfl) Tryd.underlying4 (fun ds hds => ?_) (globs_rep hL) hz (fun xs hx => ?_)
  · rw [Tryd.params8] at hds
    match ds, hds with
    | [d0, d1], _ => rfl
  · skip
    rw [Tryd.params8] at hx
    generalize args.toList = vs at hx
    cases hx with
    | cons h0 _ hx =>
      obtain ⟨n0, h0⟩ := h0
      obtain _ | n0 := n0
      · exact h0.elim
      simp only [DTy, Tryd.underlying9] at h0
      obtain ⟨x0, rfl, hl0⟩ := h0
      cases hx with
      | cons h1 _ hx =>
        obtain ⟨n1, h1⟩ := h1
        obtain _ | n1 := n1
        · exact h1.elim
        simp only [DTy, Tryd.underlying37] at h1
        obtain ⟨z1, rfl, hw1⟩ := h1
        obtain ⟨x1, rfl, hl1⟩ := nat_of_wf_u16 hw1
        cases hx
        exact law8_ac x0 x1 hl1 [] globs rfl _ rfl
theorem lexerLongest_said : Rows.LexerLongestSaid :=
  OpenClaim.holds_of_wide 8 Tryd.f8 rfl rfl rfl rfl rfl rfl rfl ⟨rfl, rfl, rfl, rfl, rfl⟩ rfl rfl rfl rfl rfl (by kernel_rfl) Tryd.func8 (by kernel_rfl)
    (of_decide_eq_true (by kernel_rfl)) (by unfold Func.isWrapper; first | (rw [if_pos (by decide +kernel)]; kernel_rfl) | (rw [if_neg (by decide +kernel)]; exact ⟨rfl, rfl⟩))
    (fun os started H enc _ => liftedLexerLongest os started H enc)
theorem lexerLongest_holds : Rows.LexerLongestCardSaid :=
  Claim7.holds_tied_plain_at .later [] [.data] true (true, "9fe6de2c956adbeeefd64925d630ad7d573b074506a07eb6d1b693546ac9ea40") false
    lexerLongest_said (fun _ h => by cases h) (by kernel_rfl) (fun _ h => by cases h) lexerLongest_row_tie rfl ⟨rfl, rfl⟩ (by kernel_rfl) rfl
    (fun f fn hf hfn => by
      obtain rfl : f = 8 := Option.some.inj ((show Tryd.prog.funcNamed "relyguard/relyguardlaw01.LexerLongest" = some 8 by kernel_rfl).symm.trans hf) |>.symm
      obtain rfl : fn = Tryd.f8 := (Option.some.inj (Tryd.func8.symm.trans hfn)).symm
      exact ⟨by kernel_rfl, fun j t ht => by
        rw [Tryd.params8] at ht
        have hm : t ∈ [9, 37] := by simpa using Array.mem_of_getElem? ht
        have hall : ([9, 37].all fun u => !Tryd.prog.wantsStandIn u) = true := by kernel_rfl
        exact (show Tryd.prog.wantsStandIn t = false by simpa using List.all_eq_true.1 hall t hm)⟩)
    (by kernel_rfl)
#print axioms lexerLongest_holds
end Go.Proofs.YtaapoadjgfoieaaDoor
