/- What the rows of this seat share: the laid table, the start. -/
import Derived.Test.YtaapoadjgfoieaaDoorRows
import Derived.Test.YtaapoadjgfoieaaDoorAbRow
import Derived.Test.YtaapoadjgfoieaaDoorP1
import Derived.Stop.Joined
import Derived.SevenTiedAt
set_option maxRecDepth 100000
namespace Go.Proofs.YtaapoadjgfoieaaDoor
open Go Go.Ab Go.RowKit Go.ChangeShapes Go.WideShapes
theorem own : ownKnob Tryd.prog.godebug = none := by kernel_rfl
theorem gSyms : Tryd.prog.globalNamed "relyguard/lexer.symbols" = some 0 := by kernel_rfl
abbrev laid1 : List (String × DataW Unit) := [("relyguard/lexer.symbols", Rows.laid_relyguard_lexer_symbols)]
theorem door_met (os : Os) (args : Array Value) : laidMetH Tryd.prog laid1 ((World.doorLaid Tryd.prog 400 os).forCall (fun _ _ => 0) ⟨#[], args, []⟩).memory :=
  laidMetH_of_parts3 (fuel := 8) (laidMet_of_run' 8 (by kernel_rfl) (by kernel_rfl)) (by kernel_rfl) (by kernel_rfl)
abbrev symT : TypeId := 56
theorem tSyms : (Tryd.prog.globals[0]?).map (·.type) = some symT := by kernel_rfl
theorem closedG : closedT Tryd.prog [symT, 9] = true := by kernel_rfl
def globs : Glob := fun g => match g with | 0 => some (.agg (symsP.map .str)) | _ => none
theorem globs_rep {W : World} (h : laidMetH Tryd.prog laid1 W) : ∀ (g : Nat) (x : D), globs g = some x → RepA [] W (.ea x 0) (.pointer (some ⟨g, 0, none⟩)) := by
  rw [MakeChecks.laidMetH_plain _ _ _ (by kernel_rfl)] at h
  obtain ⟨ps, ⟨g0, t0, cs0, f0, p0, q0, hg0, ht0, hv0, hd0, _, _⟩, _, _⟩ := h
  obtain rfl := Option.some.inj (gSyms.symm.trans hg0)
  obtain rfl := Option.some.inj (tSyms.symm.trans ht0)
  intro g x hx
  match g with
  | 0 =>
    simp only [globs, Option.some.injEq] at hx
    subst hx
    have := laid_ea closedG (by simp) gSyms hv0 hd0 3
    have e : toD Tryd.prog (f0 + 3) symT Rows.laid_relyguard_lexer_symbols (H := Unit) = .agg (symsP.map .str) := by with_unfolding_all rfl
    rw [e] at this
    exact this
  | g + 1 => simp [globs] at hx
end Go.Proofs.YtaapoadjgfoieaaDoor
