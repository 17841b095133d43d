import Derived.Test.YtnanofipjiclfaaRows
import Derived.Test.YtnanofipjiclfaaAbPlain
import Derived.Test.YtnanofipjiclfaaZ77
import Derived.Stop.Joined
import Derived.Test.YtnanofipjiclfaaRA
import Derived.Test.YtnanofipjiclfaaZ710

section PartRB
/- What the rows of this seat share: the start; data of the laws' types. -/
set_option maxRecDepth 100000
set_option linter.unusedSimpArgs false
set_option linter.unusedVariables false
namespace Go.Proofs.Ytnanofipjiclfaa
open Go Go.Ab Go.RowKit Go.ChangeShapes Go.WideShapes
theorem own : ownKnob Try.prog.godebug = none := by kernel_rfl
theorem i64_of_wf {z : Int} (h : (Lit.int .i64 z).wf = true) : -9223372036854775808 ≤ z ∧ z ≤ 9223372036854775807 := by
  have h1 : IntKind.min .i64 = -9223372036854775808 := rfl
  have h2 : IntKind.max .i64 = 9223372036854775807 := rfl
  simp only [Lit.wf, Bool.and_eq_true, decide_eq_true_eq, h1, h2] at h
  exact h
theorem nat_of_wf_u16 {z : Int} (h : (Lit.int .u16 z).wf = true) : ∃ m : Nat, z = m ∧ m ≤ 65535 := by
  have h1 : IntKind.min .u16 = 0 := rfl
  have h2 : IntKind.max .u16 = 65535 := rfl
  simp only [Lit.wf, Bool.and_eq_true, decide_eq_true_eq, h1, h2] at h
  exact ⟨z.toNat, by omega, by omega⟩
theorem map_of {α : Type} {f : α → D} {p : α → Prop} : ∀ {xs : List D}, (∀ x ∈ xs, ∃ y, x = f y ∧ p y) → ∃ l : List α, xs = l.map f ∧ ∀ y ∈ l, p y
  | [], _ => ⟨[], rfl, fun y hy => by cases hy⟩
  | x :: xs, h => by
    obtain ⟨y, rfl, hy⟩ := h x (by simp)
    obtain ⟨l, rfl, hl⟩ := map_of (f := f) (p := p) (xs := xs) fun z hz => h z (by simp [hz])
    exact ⟨y :: l, rfl, fun z hz => by rcases List.mem_cons.1 hz with rfl | hz; exact hy; exact hl z hz⟩
theorem dty_int {N n : Nat} {x : D} (h : DTy Try.prog N n 3 x) : ∃ z, x = iD z ∧ -9223372036854775808 ≤ z ∧ z ≤ 9223372036854775807 := by
  obtain _ | n := n
  · exact h.elim
  simp only [DTy, Try.underlying3] at h
  obtain ⟨z, rfl, hw⟩ := h
  exact ⟨z, rfl, i64_of_wf hw⟩
theorem dty_u16 {N n : Nat} {x : D} (h : DTy Try.prog N n 48 x) : ∃ b : Nat, x = .int .u16 b ∧ b ≤ 65535 := by
  obtain _ | n := n
  · exact h.elim
  simp only [DTy, Try.underlying48] at h
  obtain ⟨z, rfl, hw⟩ := h
  obtain ⟨m, rfl, hm⟩ := nat_of_wf_u16 hw
  exact ⟨m, rfl, hm⟩
theorem dty_ints {N n : Nat} {x : D} (h : DTy Try.prog N n 28 x) : ∃ l, x = isD l ∧ l.length ≤ N ∧ ∀ y ∈ l, -9223372036854775808 ≤ y ∧ y ≤ 9223372036854775807 := by
  obtain _ | n := n
  · exact h.elim
  simp only [DTy, Try.underlying28, go_sem] at h
  obtain ⟨xs, rfl, hl, hx⟩ := h
  obtain ⟨l, rfl, hl2⟩ := map_of fun x hx' => dty_int (hx x hx')
  exact ⟨l, rfl, by simpa using hl, hl2⟩
theorem dty_cls {N n : Nat} {x : D} (h : DTy Try.prog N n 27 x) : ∃ c, x = csD c ∧ c.length ≤ N ∧ ∀ l ∈ c, l.length ≤ N := by
  obtain _ | n := n
  · exact h.elim
  simp only [DTy, Try.underlying27, go_sem] at h
  obtain ⟨xs, rfl, hl, hx⟩ := h
  obtain ⟨c, rfl, hc⟩ := map_of fun x hx' => dty_ints (hx x hx')
  exact ⟨c, rfl, by simpa using hl, fun l hl => (hc l hl).1⟩
end Go.Proofs.Ytnanofipjiclfaa
end PartRB

section PartR7
/- SolverFuel: the law answers true for every input, and leaves its input as it was. No condition. -/
set_option maxRecDepth 100000
set_option linter.unusedSimpArgs false
set_option linter.unusedVariables false
namespace Go.Proofs.Ytnanofipjiclfaa
open Go Go.Ab Go.RowKit Go.ChangeShapes Go.WideShapes
theorem liftedSolverFuel (os : Os) (started : os.Started) (H : Type) (enc : TypeId × Value → H) :
    ReturnsInHanded {} Try.checked os 7 .any (Rows.solverFuelSpec.pre6 enc Try.prog Try.f7 [] false) (Rows.solverFuelSpec.post enc Try.prog Try.f7 false true false false) := by
  refine returns_plain (C := Try.checked) own started (by kernel_rfl) Try.func7 (ChangeSpec.witness6 (enc := enc) (C := Try.checked) false ⟨#[], #[.int .i64 0, .slice none 0 0, .slice none 0 0, .int .u16 0, .int .u16 0], []⟩ 8 (by kernel_rfl) (by kernel_rfl) (by kernel_rfl) (by kernel_rfl)) ?_
  intro W base args ds gs before hval hW hz
  refine calls_true (G := ⟨fun _ => none, fun _ _ => False⟩) (S := [3, 4, 27, 28, 48]) (tb := 4) hW hval (by kernel_rfl) (by rw [Try.params7]; kernel_rfl) (by kernel_rfl) (by rw [Try.params7]; kernel_rfl) rfl (by kernel_rfl) Try.underlying4 (fun ds hds => ?_) (fun g x h => by cases h) hz (fun xs hx => ?_)
  · rw [Try.params7] at hds
    match ds, hds with
    | [d0, d1, d2, d3, d4], _ => rfl
  · skip
    rw [Try.params7] at hx
    generalize args.toList = vs at hx
    cases hx with
    | cons h0 _ hx =>
      obtain ⟨n0, h0⟩ := h0
      obtain ⟨x0, rfl, k0⟩ := dty_int h0
      cases hx with
      | cons h1 _ hx =>
        obtain ⟨n1, h1⟩ := h1
        obtain ⟨x1, rfl, k1⟩ := dty_cls h1
        cases hx with
        | cons h2 _ hx =>
          obtain ⟨n2, h2⟩ := h2
          obtain ⟨x2, rfl, k2⟩ := dty_ints h2
          cases hx with
          | cons h3 _ hx =>
            obtain ⟨n3, h3⟩ := h3
            obtain ⟨x3, rfl, k3⟩ := dty_u16 h3
            cases hx with
            | cons h4 _ hx =>
              obtain ⟨n4, h4⟩ := h4
              obtain ⟨x4, rfl, k4⟩ := dty_u16 h4
              cases hx
              exact law7_ac x0 x1 (Nat.le_trans k1.1 (by decide)) (fun c hc => Nat.le_trans (k1.2 c hc) (by decide)) x2 (Nat.le_trans k2.1 (by decide)) x3 x4 k3 k4 [] _ _ (fun _ => rfl)
theorem closedSolverFuel : joinedFacts Try.prog 7 Try.f7 Rows.solverFuelSpec Rows.solverFuelRow = true := by
  rw [joinedFacts, mayEnter, liftsFinal, makes]
  kernel_rfl
theorem solverFuel_holds : Rows.SolverFuelSaid :=
  OpenClaim.holds_of_wide 7 Try.f7 rfl rfl rfl rfl rfl rfl rfl ⟨rfl, rfl, rfl, rfl, rfl⟩ rfl rfl rfl rfl rfl (by kernel_rfl) Try.func7 closedSolverFuel
    (of_decide_eq_true (by kernel_rfl)) (by unfold Func.isWrapper; first | (rw [if_pos (by decide +kernel)]; kernel_rfl) | (rw [if_neg (by decide +kernel)]; exact ⟨rfl, rfl⟩))
    (fun os started H enc _ => liftedSolverFuel os started H enc)
#print axioms solverFuel_holds
end Go.Proofs.Ytnanofipjiclfaa
end PartR7
