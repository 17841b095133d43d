/- What the rows of this seat share: the start; data of the laws' types. -/
import Derived.Test.YtpmjdaiboniagaaRows
import Derived.Test.YtpmjdaiboniagaaAbPlain
import Derived.Test.YtpmjdaiboniagaaC1
import Derived.Stop.Joined
set_option maxRecDepth 100000
namespace Go.Proofs.Ytpmjdaiboniagaa
open Go Go.Ab Go.RowKit Go.ChangeShapes Go.WideShapes
theorem own : ownKnob Try.prog.godebug = none := by kernel_rfl
theorem i64_of_wf {z : Int} (h : (Lit.int .i64 z).wf = true) : I64 z := by
  have h1 : IntKind.min .i64 = -9223372036854775808 := rfl
  have h2 : IntKind.max .i64 = 9223372036854775807 := rfl
  simp only [Lit.wf, Bool.and_eq_true, decide_eq_true_eq, h1, h2] at h
  exact h
theorem map_of {α : Type} {f : α → D} {p : α → Prop} : ∀ {xs : List D}, (∀ x ∈ xs, ∃ y, x = f y ∧ p y) → ∃ l : List α, xs = l.map f ∧ ∀ y ∈ l, p y
  | [], _ => ⟨[], rfl, fun y hy => by cases hy⟩
  | x :: xs, h => by
    obtain ⟨y, rfl, hy⟩ := h x (by simp)
    obtain ⟨l, rfl, hl⟩ := map_of (f := f) (p := p) (xs := xs) fun z hz => h z (by simp [hz])
    exact ⟨y :: l, rfl, fun z hz => by rcases List.mem_cons.1 hz with rfl | hz; exact hy; exact hl z hz⟩
theorem dty_int {N n : Nat} {x : D} (h : DTy Try.prog N n 3 x) : ∃ z, x = iD z ∧ I64 z := by
  obtain _ | n := n
  · exact h.elim
  simp only [DTy, Try.underlying3] at h
  obtain ⟨z, rfl, hw⟩ := h
  exact ⟨z, rfl, i64_of_wf hw⟩
theorem dty_bool {N n : Nat} {x : D} (h : DTy Try.prog N n 4 x) : ∃ b, x = .bool b ∧ True := by
  obtain _ | n := n
  · exact h.elim
  simp only [DTy, Try.underlying4] at h
  obtain ⟨b, rfl⟩ := h
  exact ⟨b, rfl, trivial⟩
theorem dty_u8' {N n : Nat} {x : D} (h : DTy Try.prog N n 5 x) : ∃ b : Nat, x = .int .u8 b ∧ b ≤ 255 := by
  obtain _ | n := n
  · exact h.elim
  simp only [DTy, Try.underlying5] at h
  obtain ⟨z, rfl, hw⟩ := h
  obtain ⟨m, rfl, hm⟩ := nat_of_wf_u8 hw
  exact ⟨m, rfl, hm⟩
theorem dty_ints {N n : Nat} {x : D} (h : DTy Try.prog N n 25 x) : ∃ l, x = isD l ∧ l.length ≤ N ∧ ∀ y ∈ l, I64 y := by
  obtain _ | n := n
  · exact h.elim
  simp only [DTy, Try.underlying25, go_sem] at h
  obtain ⟨xs, rfl, hl, hx⟩ := h
  obtain ⟨l, rfl, hl2⟩ := map_of fun x hx' => dty_int (hx x hx')
  exact ⟨l, rfl, by simpa using hl, hl2⟩
theorem dty_bools {N n : Nat} {x : D} (h : DTy Try.prog N n 35 x) : ∃ l, x = bsD l ∧ l.length ≤ N := by
  obtain _ | n := n
  · exact h.elim
  simp only [DTy, Try.underlying35, go_sem] at h
  obtain ⟨xs, rfl, hl, hx⟩ := h
  obtain ⟨l, rfl, -⟩ := map_of fun x hx' => dty_bool (hx x hx')
  exact ⟨l, rfl, by simpa using hl⟩
theorem dty_cls {N n : Nat} {x : D} (h : DTy Try.prog N n 22 x) : ∃ c, x = clsD c ∧ c.length ≤ N ∧ ∀ l ∈ c, l.length ≤ N ∧ ∀ y ∈ l, I64 y := by
  obtain _ | n := n
  · exact h.elim
  simp only [DTy, Try.underlying22, go_sem] at h
  obtain ⟨xs, rfl, hl, hx⟩ := h
  obtain ⟨c, rfl, hc⟩ := map_of fun x hx' => dty_ints (hx x hx')
  exact ⟨c, rfl, by simpa using hl, hc⟩
theorem two_of {ds : List D} (h : ds.length = 2) : ∃ a b, ds = [a, b] := by
  match ds, h with
  | [a, b], _ => exact ⟨a, b, rfl⟩
theorem dty_cnf {N n : Nat} {x : D} (h : DTy Try.prog N n 24 x) : ∃ f, x = cnfD f ∧ I64 f.vars ∧ f.cls.length ≤ N ∧ ∀ l ∈ f.cls, l.length ≤ N ∧ ∀ y ∈ l, I64 y := by
  obtain _ | n := n
  · exact h.elim
  simp only [DTy, Try.underlying24] at h
  obtain ⟨ds, rfl, hl, hx⟩ := h
  obtain ⟨a, b, rfl⟩ := two_of hl
  obtain ⟨v, rfl, hv⟩ := dty_int (hx 0 _ a rfl rfl)
  obtain ⟨c, rfl, hc⟩ := dty_cls (hx 1 _ b rfl rfl)
  exact ⟨⟨v, c⟩, rfl, hv, hc⟩
theorem dty_stp {N n : Nat} {x : D} (h : DTy Try.prog N n 50 x) : ∃ s, x = stpD s ∧ (s.lits.length ≤ N ∧ ∀ y ∈ s.lits, I64 y) ∧ (s.hints.length ≤ N ∧ ∀ y ∈ s.hints, I64 y) := by
  obtain _ | n := n
  · exact h.elim
  simp only [DTy, Try.underlying50] at h
  obtain ⟨ds, rfl, hl, hx⟩ := h
  obtain ⟨a, b, rfl⟩ := two_of hl
  obtain ⟨v, rfl, hv⟩ := dty_ints (hx 0 _ a rfl rfl)
  obtain ⟨c, rfl, hc⟩ := dty_ints (hx 1 _ b rfl rfl)
  exact ⟨⟨v, c⟩, rfl, hv, hc⟩
theorem dty_stps {N n : Nat} {x : D} (h : DTy Try.prog N n 44 x) : ∃ l, x = stpsD l ∧ l.length ≤ N ∧ ∀ s ∈ l, (s.lits.length ≤ N ∧ ∀ y ∈ s.lits, I64 y) ∧ (s.hints.length ≤ N ∧ ∀ y ∈ s.hints, I64 y) := by
  obtain _ | n := n
  · exact h.elim
  simp only [DTy, Try.underlying44, go_sem] at h
  obtain ⟨xs, rfl, hl, hx⟩ := h
  obtain ⟨l, rfl, hl2⟩ := map_of fun x hx' => dty_stp (hx x hx')
  exact ⟨l, rfl, by simpa using hl, hl2⟩
end Go.Proofs.Ytpmjdaiboniagaa
