import Derived.Test.YtfoblkeefpaceaaRows
import Derived.Test.YtfoblkeefpaceaaAbPlain
import Derived.Test.YtfoblkeefpaceaaX72
import Derived.Stop.Joined
import Derived.Test.YtfoblkeefpaceaaRA
import Derived.Test.YtfoblkeefpaceaaX78

section PartRB
/- What the rows of this seat share: the start; data of the laws' types. -/
set_option maxRecDepth 100000
set_option linter.unusedSimpArgs false
set_option linter.unusedVariables false
namespace Go.Proofs.Ytfoblkeefpaceaa
open Go Go.Ab Go.RowKit Go.ChangeShapes Go.WideShapes
theorem own : ownKnob Try.prog.godebug = none := by kernel_rfl
theorem i64_of_wf {z : Int} (h : (Lit.int .i64 z).wf = true) : I64 z := by
  have h1 : IntKind.min .i64 = -9223372036854775808 := rfl
  have h2 : IntKind.max .i64 = 9223372036854775807 := rfl
  simp only [Lit.wf, Bool.and_eq_true, decide_eq_true_eq, h1, h2] at h
  exact h
theorem map_of {α : Type} {f : α → D} {p : α → Prop} : ∀ {xs : List D}, (∀ x ∈ xs, ∃ y, x = f y ∧ p y) → ∃ l : List α, xs = l.map f ∧ ∀ y ∈ l, p y
  | [], _ => ⟨[], rfl, fun y hy => by cases hy⟩
  | x :: xs, h => by
    obtain ⟨y, rfl, hy⟩ := h x (by simp)
    obtain ⟨l, rfl, hl⟩ := map_of (f := f) (p := p) (xs := xs) fun z hz => h z (by simp [hz])
    exact ⟨y :: l, rfl, fun z hz => by rcases List.mem_cons.1 hz with rfl | hz; exact hy; exact hl z hz⟩
theorem dty_int {N n : Nat} {x : D} (h : DTy Try.prog N n 3 x) : ∃ z, x = iD z ∧ I64 z := by
  obtain _ | n := n
  · exact h.elim
  simp only [DTy, Try.underlying3] at h
  obtain ⟨z, rfl, hw⟩ := h
  exact ⟨z, rfl, i64_of_wf hw⟩
theorem dty_bool {N n : Nat} {x : D} (h : DTy Try.prog N n 4 x) : ∃ b, x = .bool b ∧ True := by
  obtain _ | n := n
  · exact h.elim
  simp only [DTy, Try.underlying4] at h
  obtain ⟨b, rfl⟩ := h
  exact ⟨b, rfl, trivial⟩
theorem dty_str {N n : Nat} {x : D} (h : DTy Try.prog N n 9 x) : ∃ b : Str, x = .str b ∧ b.length ≤ N := by
  obtain _ | n := n
  · exact h.elim
  simp only [DTy, Try.underlying9] at h
  obtain ⟨b, rfl, hl⟩ := h
  exact ⟨b, rfl, hl⟩
theorem dty_u8' {N n : Nat} {x : D} (h : DTy Try.prog N n 5 x) : ∃ b : Nat, x = .int .u8 b ∧ b ≤ 255 := by
  obtain _ | n := n
  · exact h.elim
  simp only [DTy, Try.underlying5] at h
  obtain ⟨z, rfl, hw⟩ := h
  obtain ⟨m, rfl, hm⟩ := nat_of_wf_u8 hw
  exact ⟨m, rfl, hm⟩
theorem dty_u8s {N n : Nat} {x : D} (h : DTy Try.prog N n 50 x) : ∃ l : List Nat, x = .sl 1 (l.map fun b : Nat => D.int .u8 (b : Int)) ∧ l.length ≤ N ∧ ∀ y ∈ l, y ≤ 255 := by
  obtain _ | n := n
  · exact h.elim
  simp only [DTy, Try.underlying50, go_sem] at h
  obtain ⟨xs, rfl, hl, hx⟩ := h
  obtain ⟨l, rfl, hl2⟩ := map_of (f := fun b : Nat => D.int .u8 (b : Int)) fun x hx' => dty_u8' (hx x hx')
  exact ⟨l, rfl, by simpa using hl, hl2⟩
theorem dty_ints {N n : Nat} {x : D} (h : DTy Try.prog N n 49 x) : ∃ l, x = isD l ∧ l.length ≤ N ∧ ∀ y ∈ l, I64 y := by
  obtain _ | n := n
  · exact h.elim
  simp only [DTy, Try.underlying49, go_sem] at h
  obtain ⟨xs, rfl, hl, hx⟩ := h
  obtain ⟨l, rfl, hl2⟩ := map_of fun x hx' => dty_int (hx x hx')
  exact ⟨l, rfl, by simpa using hl, hl2⟩
theorem four_of {ds : List D} (h : ds.length = 4) : ∃ a b c d, ds = [a, b, c, d] := by
  match ds, h with
  | [a, b, c, d], _ => exact ⟨a, b, c, d, rfl⟩
theorem five_of {ds : List D} (h : ds.length = 5) : ∃ a b c d e, ds = [a, b, c, d, e] := by
  match ds, h with
  | [a, b, c, d, e], _ => exact ⟨a, b, c, d, e, rfl⟩
theorem six_of {ds : List D} (h : ds.length = 6) : ∃ a b c d e f, ds = [a, b, c, d, e, f] := by
  match ds, h with
  | [a, b, c, d, e, f], _ => exact ⟨a, b, c, d, e, f, rfl⟩
theorem seven_of {ds : List D} (h : ds.length = 7) : ∃ a b c d e f g, ds = [a, b, c, d, e, f, g] := by
  match ds, h with
  | [a, b, c, d, e, f, g], _ => exact ⟨a, b, c, d, e, f, g, rfl⟩
theorem eight_of {ds : List D} (h : ds.length = 8) : ∃ a b c d e f g i, ds = [a, b, c, d, e, f, g, i] := by
  match ds, h with
  | [a, b, c, d, e, f, g, i], _ => exact ⟨a, b, c, d, e, f, g, i, rfl⟩
theorem nine_of {ds : List D} (h : ds.length = 9) : ∃ a b c d e f g i j, ds = [a, b, c, d, e, f, g, i, j] := by
  match ds, h with
  | [a, b, c, d, e, f, g, i, j], _ => exact ⟨a, b, c, d, e, f, g, i, j, rfl⟩
/-- Trees and lists of trees. -/
theorem dty_nds (n : Nat) : ∀ {x : D}, (DTy Try.prog reachBytes n 31 x → ∃ e : Nd, x = e.d ∧ e.Ok) ∧ (DTy Try.prog reachBytes n 29 x → ∃ l : List Nd, x = .sl 9 (l.map Nd.d) ∧ l.length ≤ reachBytes ∧ ∀ k ∈ l, k.Ok) := by
  induction n with
  | zero => exact ⟨fun h => h.elim, fun h => h.elim⟩
  | succ n ih =>
    intro x
    refine ⟨fun h => ?_, fun h => ?_⟩
    · simp only [DTy, Try.underlying31] at h
      obtain ⟨ds, rfl, hl, hx⟩ := h
      obtain ⟨a, b, c, d, e, f, g, i, j, rfl⟩ := nine_of hl
      obtain ⟨o, rfl, -⟩ := dty_int (hx 0 _ a rfl rfl)
      obtain ⟨s, rfl, hs⟩ := dty_str (hx 1 _ b rfl rfl)
      obtain ⟨t, rfl, -⟩ := dty_str (hx 2 _ c rfl rfl)
      obtain ⟨m, rfl, hm⟩ := dty_int (hx 3 _ d rfl rfl)
      obtain ⟨m2, rfl, -⟩ := dty_int (hx 4 _ e rfl rfl)
      obtain ⟨m3, rfl, -⟩ := dty_int (hx 5 _ f rfl rfl)
      obtain ⟨m4, rfl, -⟩ := dty_bool (hx 6 _ g rfl rfl)
      obtain ⟨l, rfl, hll, hlk⟩ := ih.2 (hx 7 _ i rfl rfl)
      obtain ⟨m5, rfl, -⟩ := dty_int (hx 8 _ j rfl rfl)
      exact ⟨.mk o s t m m2 m3 m4 l m5, by rw [Nd.d_eq]; rfl, .mk hll hs hm hlk⟩
    · simp only [DTy, Try.underlying29, go_sem] at h
      obtain ⟨xs, rfl, hl, hx⟩ := h
      obtain ⟨l, rfl, hlk⟩ := map_of fun x hx' => ih.1 (hx x hx')
      exact ⟨l, rfl, by simpa using hl, hlk⟩
theorem dty_nd {n : Nat} {x : D} (h : DTy Try.prog reachBytes n 31 x) : ∃ e : Nd, x = e.d ∧ e.Ok := (dty_nds n).1 h
theorem dty_var {N n : Nat} {x : D} (h : DTy Try.prog N n 79 x) : ∃ c, x = vrD c ∧ c.Ok := by
  obtain _ | n := n
  · exact h.elim
  simp only [DTy, Try.underlying79] at h
  obtain ⟨ds, rfl, hl, hx⟩ := h
  obtain ⟨a, b, c, d, e, f, g, rfl⟩ := seven_of hl
  obtain ⟨o, rfl, -⟩ := dty_str (hx 0 _ a rfl rfl)
  obtain ⟨w, rfl, h1⟩ := dty_int (hx 1 _ b rfl rfl)
  obtain ⟨m, rfl, h2⟩ := dty_int (hx 2 _ c rfl rfl)
  obtain ⟨m2, rfl, -⟩ := dty_int (hx 3 _ d rfl rfl)
  obtain ⟨m3, rfl, -⟩ := dty_bool (hx 4 _ e rfl rfl)
  obtain ⟨m4, rfl, -⟩ := dty_int (hx 5 _ f rfl rfl)
  obtain ⟨m5, rfl, -⟩ := dty_int (hx 6 _ g rfl rfl)
  exact ⟨⟨o, w, m, m2, m3, m4, m5⟩, rfl, h1, h2⟩
theorem dty_vars {N n : Nat} {x : D} (h : DTy Try.prog N n 23 x) : ∃ l, x = vrsD l ∧ l.length ≤ N ∧ ∀ v ∈ l, v.Ok := by
  obtain _ | n := n
  · exact h.elim
  simp only [DTy, Try.underlying23, go_sem] at h
  obtain ⟨xs, rfl, hl, hx⟩ := h
  obtain ⟨l, rfl, h2⟩ := map_of fun x hx' => dty_var (hx x hx')
  exact ⟨l, rfl, by simpa using hl, h2⟩
theorem dty_mod {n : Nat} {x : D} (h : DTy Try.prog reachBytes n 59 x) : ∃ c, x = moD c ∧ c.Ok := by
  obtain _ | n := n
  · exact h.elim
  simp only [DTy, Try.underlying59] at h
  obtain ⟨ds, rfl, hl, hx⟩ := h
  obtain ⟨a, b, c, d, e, f, rfl⟩ := six_of hl
  obtain ⟨o, rfl, -⟩ := dty_str (hx 0 _ a rfl rfl)
  obtain ⟨w, rfl, -⟩ := dty_str (hx 1 _ b rfl rfl)
  obtain ⟨r, rfl, hr⟩ := dty_nd (hx 2 _ c rfl rfl)
  obtain ⟨g, rfl, hg⟩ := dty_nd (hx 3 _ d rfl rfl)
  obtain ⟨l, rfl, hll, hlk⟩ := (dty_nds n).2 (hx 4 _ e rfl rfl)
  obtain ⟨m4, rfl, -⟩ := dty_int (hx 5 _ f rfl rfl)
  exact ⟨⟨o, w, r, g, l, m4⟩, by rw [Nd.d_eq r, Nd.d_eq g]; rfl, hr, hg, hll, hlk⟩
theorem dty_lock {n : Nat} {x : D} (h : DTy Try.prog reachBytes n 61 x) : ∃ c, x = lkD c ∧ c.inv.Ok := by
  obtain _ | n := n
  · exact h.elim
  simp only [DTy, Try.underlying61] at h
  obtain ⟨ds, rfl, hl, hx⟩ := h
  obtain ⟨a, b, c, d, rfl⟩ := four_of hl
  obtain ⟨o, rfl, -⟩ := dty_str (hx 0 _ a rfl rfl)
  obtain ⟨w, rfl, -⟩ := dty_int (hx 1 _ b rfl rfl)
  obtain ⟨r, rfl, hr⟩ := dty_nd (hx 2 _ c rfl rfl)
  obtain ⟨m4, rfl, -⟩ := dty_int (hx 3 _ d rfl rfl)
  exact ⟨⟨o, w, r, m4⟩, by rw [Nd.d_eq r]; rfl, hr⟩
theorem dty_proc {n : Nat} {x : D} (h : DTy Try.prog reachBytes n 63 x) : ∃ c, x = prD c ∧ c.Ok := by
  obtain _ | n := n
  · exact h.elim
  simp only [DTy, Try.underlying63] at h
  obtain ⟨ds, rfl, hl, hx⟩ := h
  obtain ⟨a, b, c, d, e, f, g, i, rfl⟩ := eight_of hl
  obtain ⟨o, rfl, -⟩ := dty_str (hx 0 _ a rfl rfl)
  obtain ⟨w, rfl, -⟩ := dty_int (hx 1 _ b rfl rfl)
  obtain ⟨ps, rfl, h1, h2⟩ := dty_vars (hx 2 _ c rfl rfl)
  obtain ⟨ls, rfl, h3, h4⟩ := dty_vars (hx 3 _ d rfl rfl)
  obtain ⟨lo, rfl, -⟩ := dty_str (hx 4 _ e rfl rfl)
  obtain ⟨r, rfl, hr⟩ := dty_nd (hx 5 _ f rfl rfl)
  obtain ⟨cs, rfl, -, -⟩ := dty_ints (hx 6 _ g rfl rfl)
  obtain ⟨m4, rfl, -⟩ := dty_int (hx 7 _ i rfl rfl)
  exact ⟨⟨o, w, ps, ls, lo, r, cs, m4⟩, by rw [Nd.d_eq r]; rfl, h1, h3, h2, h4, hr⟩
theorem dty_thread {N n : Nat} {x : D} (h : DTy Try.prog N n 133 x) : ∃ c, x = thD c ∧ True := by
  obtain _ | n := n
  · exact h.elim
  simp only [DTy, Try.underlying133] at h
  obtain ⟨ds, rfl, hl, hx⟩ := h
  obtain ⟨a, b, c, d, e, rfl⟩ := five_of hl
  obtain ⟨o, rfl, -⟩ := dty_str (hx 0 _ a rfl rfl)
  obtain ⟨w, rfl, -⟩ := dty_int (hx 1 _ b rfl rfl)
  obtain ⟨cs, rfl, -, -⟩ := dty_ints (hx 2 _ c rfl rfl)
  obtain ⟨r, rfl, -⟩ := dty_bool (hx 3 _ d rfl rfl)
  obtain ⟨m4, rfl, -⟩ := dty_int (hx 4 _ e rfl rfl)
  exact ⟨⟨o, w, cs, r, m4⟩, rfl, trivial⟩
theorem dty_syms {n : Nat} {x : D} (h : DTy Try.prog reachBytes n 28 x) : ∃ S, x = syD S ∧ S.Ok := by
  obtain _ | n := n
  · exact h.elim
  simp only [DTy, Try.underlying28] at h
  obtain ⟨ds, rfl, hl, hx⟩ := h
  obtain ⟨a, b, c, d, e, rfl⟩ := five_of hl
  have h0 := hx 0 _ a rfl rfl
  have h1 := hx 1 _ b rfl rfl
  have h2 := hx 2 _ c rfl rfl
  have h3 := hx 3 _ d rfl rfl
  have h4 := hx 4 _ e rfl rfl
  obtain _ | n := n
  · exact h0.elim
  simp only [DTy, Try.underlying22, go_sem] at h0
  obtain ⟨xs, rfl, hl0, hx0⟩ := h0
  obtain ⟨ms, rfl, hms⟩ := map_of fun x hx' => dty_mod (hx0 x hx')
  obtain ⟨vs, rfl, hvl, hvs⟩ := dty_vars h1
  simp only [DTy, Try.underlying24, go_sem] at h2
  obtain ⟨xs2, rfl, hl2, hx2⟩ := h2
  obtain ⟨ls, rfl, hls⟩ := map_of fun x hx' => dty_lock (hx2 x hx')
  simp only [DTy, Try.underlying25, go_sem] at h3
  obtain ⟨xs3, rfl, hl3, hx3⟩ := h3
  obtain ⟨ps, rfl, hps⟩ := map_of fun x hx' => dty_proc (hx3 x hx')
  simp only [DTy, Try.underlying26, go_sem] at h4
  obtain ⟨xs4, rfl, hl4, hx4⟩ := h4
  obtain ⟨ts, rfl, -⟩ := map_of fun x hx' => dty_thread (hx4 x hx')
  exact ⟨⟨ms, vs, ls, ps, ts⟩, rfl, by simpa using hl0, hvl, by simpa using hl2, by simpa using hl3, by simpa using hl4, hms, hvs, hls, hps⟩
end Go.Proofs.Ytfoblkeefpaceaa
end PartRB

section PartR7
/- TypingOffsets: the law answers true for every input, and leaves its input as it was. No condition. -/
set_option maxRecDepth 100000
set_option linter.unusedSimpArgs false
set_option linter.unusedVariables false
namespace Go.Proofs.Ytfoblkeefpaceaa
open Go Go.Ab Go.RowKit Go.ChangeShapes Go.WideShapes
theorem liftedTypingOffsets (os : Os) (started : os.Started) (H : Type) (enc : TypeId × Value → H) :
    ReturnsInHanded {} Try.checked os 7 .any (Rows.typingOffsetsSpec.pre6 enc Try.prog Try.f7 [] false) (Rows.typingOffsetsSpec.post enc Try.prog Try.f7 false true false false) := by
  refine returns_plain (C := Try.checked) own started (by kernel_rfl) Try.func7 (ChangeSpec.witness6 (enc := enc) (C := Try.checked) false ⟨#[], #[.agg #[.slice none 0 0, .slice none 0 0, .slice none 0 0, .slice none 0 0, .slice none 0 0], .int .i64 0, .int .i64 0, .agg #[.int .i64 0, .string ⟨#[]⟩, .string ⟨#[]⟩, .int .i64 0, .int .i64 0, .int .i64 0, .bool false, .slice none 0 0, .int .i64 0], .int .i64 0], []⟩ 8 (by kernel_rfl) (by kernel_rfl) (by kernel_rfl) (by kernel_rfl)) ?_
  intro W base args ds gs before hval hW hz
  refine calls_true (G := ⟨fun _ => none, fun _ _ => False⟩) (S := [3, 4, 9, 22, 23, 24, 25, 26, 28, 29, 31, 49, 59, 61, 63, 79, 133]) (tb := 4) hW hval (by kernel_rfl) (by rw [Try.params7]; kernel_rfl) (by kernel_rfl) (by rw [Try.params7]; kernel_rfl) rfl (by kernel_rfl) Try.underlying4 (fun ds hds => ?_) (fun g x h => by cases h) hz (fun xs hx => ?_)
  · rw [Try.params7] at hds
    match ds, hds with
    | [d0, d1, d2, d3, d4], _ => rfl
  · skip
    rw [Try.params7] at hx
    generalize args.toList = vs at hx
    cases hx with
    | cons h0 _ hx =>
      obtain ⟨n0, h0⟩ := h0
      obtain ⟨x0, rfl, k0⟩ := dty_syms h0
      cases hx with
      | cons h1 _ hx =>
        obtain ⟨n1, h1⟩ := h1
        obtain ⟨x1, rfl, k1⟩ := dty_int h1
        cases hx with
        | cons h2 _ hx =>
          obtain ⟨n2, h2⟩ := h2
          obtain ⟨x2, rfl, k2⟩ := dty_int h2
          cases hx with
          | cons h3 _ hx =>
            obtain ⟨n3, h3⟩ := h3
            obtain ⟨x3, rfl, k3⟩ := dty_nd h3
            cases hx with
            | cons h4 _ hx =>
              obtain ⟨n4, h4⟩ := h4
              obtain ⟨x4, rfl, k4⟩ := dty_int h4
              cases hx
              exact law7_ac k0 x1 x2 k3 x4 [] _ _ rfl
theorem closedTypingOffsets : joinedFacts Try.prog 7 Try.f7 Rows.typingOffsetsSpec Rows.typingOffsetsRow = true := by
  rw [joinedFacts, mayEnter, liftsFinal, makes]
  kernel_rfl
theorem typingOffsets_holds : Rows.TypingOffsetsSaid :=
  OpenClaim.holds_of_wide 7 Try.f7 rfl rfl rfl rfl rfl rfl rfl ⟨rfl, rfl, rfl, rfl, rfl⟩ rfl rfl rfl rfl rfl (by kernel_rfl) Try.func7 closedTypingOffsets
    (of_decide_eq_true (by kernel_rfl)) (by unfold Func.isWrapper; first | (rw [if_pos (by decide +kernel)]; kernel_rfl) | (rw [if_neg (by decide +kernel)]; exact ⟨rfl, rfl⟩))
    (fun os started H enc _ => liftedTypingOffsets os started H enc)
#print axioms typingOffsets_holds
end Go.Proofs.Ytfoblkeefpaceaa
end PartR7
