import Derived.Test.YtnanofipjiclfaaRows
import Derived.Test.YtnanofipjiclfaaAbPlain
import Derived.Test.YtnanofipjiclfaaZ87
import Derived.Stop.Joined
import Derived.Test.YtnanofipjiclfaaZ810
import Derived.Test.YtnanofipjiclfaaRA

section PartRB
/- What the rows of this seat share: the start; data of the laws' types. -/
set_option maxRecDepth 100000
set_option linter.unusedSimpArgs false
set_option linter.unusedVariables false
namespace Go.Proofs.Ytnanofipjiclfaa
open Go Go.Ab Go.RowKit Go.ChangeShapes Go.WideShapes
theorem own : ownKnob Try.prog.godebug = none := by kernel_rfl
theorem i64_of_wf {z : Int} (h : (Lit.int .i64 z).wf = true) : -9223372036854775808 ≤ z ∧ z ≤ 9223372036854775807 := by
  have h1 : IntKind.min .i64 = -9223372036854775808 := rfl
  have h2 : IntKind.max .i64 = 9223372036854775807 := rfl
  simp only [Lit.wf, Bool.and_eq_true, decide_eq_true_eq, h1, h2] at h
  exact h
theorem nat_of_wf_u8' {z : Int} (h : (Lit.int .u8 z).wf = true) : ∃ m : Nat, z = m ∧ m ≤ 255 := by
  have h1 : IntKind.min .u8 = 0 := rfl
  have h2 : IntKind.max .u8 = 255 := rfl
  simp only [Lit.wf, Bool.and_eq_true, decide_eq_true_eq, h1, h2] at h
  exact ⟨z.toNat, by omega, by omega⟩
theorem map_of {α : Type} {f : α → D} {p : α → Prop} : ∀ {xs : List D}, (∀ x ∈ xs, ∃ y, x = f y ∧ p y) → ∃ l : List α, xs = l.map f ∧ ∀ y ∈ l, p y
  | [], _ => ⟨[], rfl, fun y hy => by cases hy⟩
  | x :: xs, h => by
    obtain ⟨y, rfl, hy⟩ := h x (by simp)
    obtain ⟨l, rfl, hl⟩ := map_of (f := f) (p := p) (xs := xs) fun z hz => h z (by simp [hz])
    exact ⟨y :: l, rfl, fun z hz => by rcases List.mem_cons.1 hz with rfl | hz; exact hy; exact hl z hz⟩
theorem dty_int {N n : Nat} {x : D} (h : DTy Try.prog N n 3 x) : ∃ z, x = iD z ∧ -9223372036854775808 ≤ z ∧ z ≤ 9223372036854775807 := by
  obtain _ | n := n
  · exact h.elim
  simp only [DTy, Try.underlying3] at h
  obtain ⟨z, rfl, hw⟩ := h
  exact ⟨z, rfl, i64_of_wf hw⟩
theorem dty_bool {N n : Nat} {x : D} (h : DTy Try.prog N n 4 x) : ∃ b, x = .bool b ∧ True := by
  obtain _ | n := n
  · exact h.elim
  simp only [DTy, Try.underlying4] at h
  obtain ⟨b, rfl⟩ := h
  exact ⟨b, rfl, trivial⟩
theorem dty_u8' {N n : Nat} {x : D} (h : DTy Try.prog N n 5 x) : ∃ b : Nat, x = .int .u8 b ∧ b ≤ 255 := by
  obtain _ | n := n
  · exact h.elim
  simp only [DTy, Try.underlying5] at h
  obtain ⟨z, rfl, hw⟩ := h
  obtain ⟨m, rfl, hm⟩ := nat_of_wf_u8' hw
  exact ⟨m, rfl, hm⟩
theorem dty_ints {N n : Nat} {x : D} (h : DTy Try.prog N n 28 x) : ∃ l, x = isD l ∧ l.length ≤ N ∧ ∀ y ∈ l, -9223372036854775808 ≤ y ∧ y ≤ 9223372036854775807 := by
  obtain _ | n := n
  · exact h.elim
  simp only [DTy, Try.underlying28, go_sem] at h
  obtain ⟨xs, rfl, hl, hx⟩ := h
  obtain ⟨l, rfl, hl2⟩ := map_of fun x hx' => dty_int (hx x hx')
  exact ⟨l, rfl, by simpa using hl, hl2⟩
theorem dty_cls {N n : Nat} {x : D} (h : DTy Try.prog N n 27 x) : ∃ c, x = csD c ∧ c.length ≤ N ∧ ∀ l ∈ c, l.length ≤ N := by
  obtain _ | n := n
  · exact h.elim
  simp only [DTy, Try.underlying27, go_sem] at h
  obtain ⟨xs, rfl, hl, hx⟩ := h
  obtain ⟨c, rfl, hc⟩ := map_of fun x hx' => dty_ints (hx x hx')
  exact ⟨c, rfl, by simpa using hl, fun l hl => (hc l hl).1⟩
end Go.Proofs.Ytnanofipjiclfaa
end PartRB

section PartRG
/- Data of the gates' types. -/
set_option maxRecDepth 100000
set_option linter.unusedSimpArgs false
set_option linter.unusedVariables false
namespace Go.Proofs.Ytnanofipjiclfaa
open Go Go.Ab Go.RowKit Go.ChangeShapes Go.WideShapes
theorem five_of {ds : List D} (h : ds.length = 5) : ∃ a b c d e, ds = [a, b, c, d, e] := by
  match ds, h with
  | [a, b, c, d, e], _ => exact ⟨a, b, c, d, e, rfl⟩
theorem dty_gat {N n : Nat} {x : D} (h : DTy Try.prog N n 69 x) : ∃ g, x = gatD g ∧ g.a ≤ 255 ∧ g.b ≤ 255 := by
  obtain _ | n := n
  · exact h.elim
  simp only [DTy, Try.underlying69] at h
  obtain ⟨ds, rfl, hl, hx⟩ := h
  obtain ⟨a, b, c, d, e, rfl⟩ := five_of hl
  obtain ⟨xo, rfl, -⟩ := dty_bool (hx 0 _ a rfl rfl)
  obtain ⟨na, rfl, -⟩ := dty_bool (hx 1 _ b rfl rfl)
  obtain ⟨nb, rfl, -⟩ := dty_bool (hx 2 _ c rfl rfl)
  obtain ⟨ga, rfl, h1⟩ := dty_u8' (hx 3 _ d rfl rfl)
  obtain ⟨gb, rfl, h2⟩ := dty_u8' (hx 4 _ e rfl rfl)
  exact ⟨⟨xo, na, nb, ga, gb⟩, rfl, h1, h2⟩
theorem dty_gats {N n : Nat} {x : D} (h : DTy Try.prog N n 62 x) : ∃ l, x = gatsD l ∧ l.length ≤ N ∧ ∀ g ∈ l, g.a ≤ 255 ∧ g.b ≤ 255 := by
  obtain _ | n := n
  · exact h.elim
  simp only [DTy, Try.underlying62, go_sem] at h
  obtain ⟨xs, rfl, hl, hx⟩ := h
  obtain ⟨l, rfl, h2⟩ := map_of fun x hx' => dty_gat (hx x hx')
  exact ⟨l, rfl, by simpa using hl, h2⟩
end Go.Proofs.Ytnanofipjiclfaa
end PartRG

section PartR8
/- SolverGates: the law answers true for every input, and leaves its input as it was. No condition. -/
set_option maxRecDepth 100000
set_option linter.unusedSimpArgs false
set_option linter.unusedVariables false
namespace Go.Proofs.Ytnanofipjiclfaa
open Go Go.Ab Go.RowKit Go.ChangeShapes Go.WideShapes
theorem liftedSolverGates (os : Os) (started : os.Started) (H : Type) (enc : TypeId × Value → H) :
    ReturnsInHanded {} Try.checked os 8 .any (Rows.solverGatesSpec.pre6 enc Try.prog Try.f8 [] false) (Rows.solverGatesSpec.post enc Try.prog Try.f8 false true false false) := by
  refine returns_plain (C := Try.checked) own started (by kernel_rfl) Try.func8 (ChangeSpec.witness6 (enc := enc) (C := Try.checked) false ⟨#[], #[.int .u8 0, .slice none 0 0, .slice none 0 0], []⟩ 8 (by kernel_rfl) (by kernel_rfl) (by kernel_rfl) (by kernel_rfl)) ?_
  intro W base args ds gs before hval hW hz
  refine calls_true (G := ⟨fun _ => none, fun _ _ => False⟩) (S := [3, 4, 5, 27, 28, 62, 69]) (tb := 4) hW hval (by kernel_rfl) (by rw [Try.params8]; kernel_rfl) (by kernel_rfl) (by rw [Try.params8]; kernel_rfl) rfl (by kernel_rfl) Try.underlying4 (fun ds hds => ?_) (fun g x h => by cases h) hz (fun xs hx => ?_)
  · rw [Try.params8] at hds
    match ds, hds with
    | [d0, d1, d2], _ => rfl
  · skip
    rw [Try.params8] at hx
    generalize args.toList = vs at hx
    cases hx with
    | cons h0 _ hx =>
      obtain ⟨n0, h0⟩ := h0
      obtain ⟨x0, rfl, k0⟩ := dty_u8' h0
      cases hx with
      | cons h1 _ hx =>
        obtain ⟨n1, h1⟩ := h1
        obtain ⟨x1, rfl, k1⟩ := dty_gats h1
        cases hx with
        | cons h2 _ hx =>
          obtain ⟨n2, h2⟩ := h2
          obtain ⟨x2, rfl, k2⟩ := dty_cls h2
          cases hx
          exact law8_ac x0 k0 x1 (Nat.le_trans k1.1 (by decide)) k1.2 x2 (Nat.le_trans k2.1 (by decide)) (fun c hc => Nat.le_trans (k2.2 c hc) (by decide)) [] _ _ (fun _ => rfl)
theorem closedSolverGates : joinedFacts Try.prog 8 Try.f8 Rows.solverGatesSpec Rows.solverGatesRow = true := by
  rw [joinedFacts, mayEnter, liftsFinal, makes]
  kernel_rfl
theorem solverGates_holds : Rows.SolverGatesSaid :=
  OpenClaim.holds_of_wide 8 Try.f8 rfl rfl rfl rfl rfl rfl rfl ⟨rfl, rfl, rfl, rfl, rfl⟩ rfl rfl rfl rfl rfl (by kernel_rfl) Try.func8 closedSolverGates
    (of_decide_eq_true (by kernel_rfl)) (by unfold Func.isWrapper; first | (rw [if_pos (by decide +kernel)]; kernel_rfl) | (rw [if_neg (by decide +kernel)]; exact ⟨rfl, rfl⟩))
    (fun os started H enc _ => liftedSolverGates os started H enc)
#print axioms solverGates_holds
end Go.Proofs.Ytnanofipjiclfaa
end PartR8
