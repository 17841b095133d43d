/- What the scanner's functions answer. -/
import Derived.Test.YtaapoadjgfoieaaDoorFacts
import Derived.Test.YtaapoadjgfoieaaDoorAbMove
import Derived.Test.YtaapoadjgfoieaaDoorP1
set_option linter.unusedSimpArgs false
namespace Go.Proofs.YtaapoadjgfoieaaDoor
open Go Go.Ab

theorem wrap64_id (x : Int) (h0 : -9223372036854775808 ≤ x) (h1 : x ≤ 9223372036854775807) : IntKind.i64.wrap x = x := by
  rw [IntKind.wrap_i64]; omega
abbrev scn (s : List UInt8) : A := .d (.agg [.str s])
abbrev dn (n : Nat) : A := .d (.int .i64 n)
abbrev db (b : Bool) : A := .d (.bool b)

theorem letter_ac (c : UInt8) (σ : St) (G : Glob) (R : A → St → Prop) (h : R (db (letterB c)) σ) : AC Tryd.prog G 29 [.d (.int .u8 c.toNat)] σ R := by
  refine ac_enter mixed Tryd.func29 rfl Tryd.ntmps29 (by simp only [facts]) fun hbd => ?_
  simp only [List.length_cons, List.length_nil, Nat.reduceAdd, Nat.reduceSub, List.replicate_succ, List.replicate_zero, List.cons_append, List.nil_append]
  simp only [go_sem, Tryd.results29]
  exact ⟨by simp; omega, ret_d0 h⟩
theorem digit_ac (s : List UInt8) (n : Nat) (h1 : n < s.length) (σ : St) (G : Glob) (R : A → St → Prop) (h : R (db (digitB (s.getD n 0))) σ) :
    AC Tryd.prog G 31 [scn s, dn n] σ R := by
  refine ac_enter mixed Tryd.func31 rfl Tryd.ntmps31 (by simp only [facts]) fun hbd => ?_
  simp only [List.length_cons, List.length_nil, Nat.reduceAdd, Nat.reduceSub, List.replicate_succ, List.replicate_zero, List.cons_append, List.nil_append]
  simp only [go_sem, Tryd.results31, facts]
  exact ⟨⟨by omega, by omega⟩, fun h => ⟨by simpa using h, by omega, by omega⟩, ret_d hbd h⟩
theorem inLine_ac (s : List UInt8) (n : Nat) (h1 : n < s.length) (σ : St) (G : Glob) (R : A → St → Prop) (h : R (db (lineB (s.getD n 0))) σ) :
    AC Tryd.prog G 28 [scn s, dn n] σ R := by
  refine ac_enter mixed Tryd.func28 rfl Tryd.ntmps28 (by simp only [facts]) fun hbd => ?_
  simp only [List.length_cons, List.length_nil, Nat.reduceAdd, Nat.reduceSub, List.replicate_succ, List.replicate_zero, List.cons_append, List.nil_append]
  simp only [go_sem, Tryd.results28, facts]
  exact ⟨⟨by omega, by omega⟩, ret_d hbd h⟩
theorem word_ac (s : List UInt8) (n : Nat) (h1 : n < s.length) (σ : St) (G : Glob) (R : A → St → Prop) (h : R (db (wordB (s.getD n 0))) σ) :
    AC Tryd.prog G 30 [scn s, dn n] σ R := by
  refine ac_enter mixed Tryd.func30 rfl Tryd.ntmps30 (by simp only [facts]) fun hbd => ?_
  simp only [List.length_cons, List.length_nil, Nat.reduceAdd, Nat.reduceSub, List.replicate_succ, List.replicate_zero, List.cons_append, List.nil_append]
  simp only [go_sem, facts]
  refine ⟨⟨by omega, by omega⟩, ac' (letter_ac _ _ _ _ ?_)⟩
  simp only [go_sem, facts]
  refine ex' (.bool (digitB (s.getD n 0))) ⟨fun hc => ?_, ?_⟩
  · simp only [go_sem, facts]
    exact ⟨by simpa [ev, A.cond] using hc, ac' (digit_ac _ _ h1 _ _ _ ⟨rfl, rfl⟩)⟩
  simp only [go_sem, Tryd.results30, facts]
  exact ⟨fun hc => ⟨by simpa using hc, by omega, by omega⟩, ret_d hbd h⟩
theorem white_ac (s : List UInt8) (n : Nat) (h1 : n < s.length) (σ : St) (G : Glob) (R : A → St → Prop) (h : R (db (whiteB (s.getD n 0))) σ) :
    AC Tryd.prog G 26 [scn s, dn n] σ R := by
  refine ac_enter mixed Tryd.func26 rfl Tryd.ntmps26 (by simp only [facts]) fun hbd => ?_
  simp only [List.length_cons, List.length_nil, Nat.reduceAdd, Nat.reduceSub, List.replicate_succ, List.replicate_zero, List.cons_append, List.nil_append]
  simp only [go_sem, Tryd.results26, facts]
  refine ⟨⟨by omega, by omega⟩, ?_⟩
  rw [whiteB] at h
  generalize ((((s.getD n 0).toNat : Nat) : Int) == 32) = b1 at h ⊢
  generalize ((((s.getD n 0).toNat : Nat) : Int) == 9) = b2 at h ⊢
  generalize ((((s.getD n 0).toNat : Nat) : Int) == 10) = b3 at h ⊢
  generalize ((((s.getD n 0).toNat : Nat) : Int) == 13) = b4 at h ⊢
  have e := fun b h => @ret_d G σ [some (Ob.cells [A.d (D.str s)])] (.bool b) R hbd h
  cases b1 <;> cases b2 <;> cases b3 <;> cases b4 <;> exact (by simpa using e _ h)
/-- A method value of the scanner answers q of the byte. -/
def Asks (G : Glob) (s : List UInt8) (F : Nat) (q : UInt8 → Bool) : Prop := ∀ (n : Nat) (σ : St) (R : A → St → Prop), n < s.length → R (db (q (s.getD n 0))) σ → AC Tryd.prog G F [scn s, dn n] σ R
theorem run_ac (s : List UInt8) (hs : s.length ≤ 1073741824) (F : Nat) (q : UInt8 → Bool) (G : Glob) (hF : Asks G s F q)
    (n : Nat) (h1 : n ≤ s.length) (σ : St) (R : A → St → Prop) (h : R (dn (n + runL q (s.drop n))) σ) :
    AC Tryd.prog G 25 [scn s, dn n, .fn (.func F) [scn s] []] σ R := by
  refine ac_enter mixed Tryd.func25 rfl Tryd.ntmps25 (by simp only [facts]) fun hbd => ?_
  simp only [List.length_cons, List.length_nil, Nat.reduceAdd, Nat.reduceSub, List.replicate_succ, List.replicate_zero, List.cons_append, List.nil_append]
  simp only [go_sem, facts]
  refine aw_loop (fun m fr st => ∃ j : Nat, j ≤ s.length ∧ m = s.length - j ∧ j + runL q (s.drop j) = n + runL q (s.drop n) ∧
    fr = [scn s, dn j, .fn (.func F) [scn s] [], .ref σ.length 0, .any, .any, .any, .any, .any, .any, .any, .any, .any, .any, .any, .any, .any, .any, .any, .any] ∧ st = σ ++ [some (Ob.cells [A.d (D.str s)])]) (s.length - n) _
    (Wk.mask [0, 1, 2, 3] ⟨n, h1, rfl, rfl, rfl, rfl⟩) ?_
  rintro m fr st ⟨j, hj, hm, hr, rfl, rfl⟩
  simp only [go_sem, facts]
  refine ex' (.bool (q (s.getD j 0))) ⟨fun hc => ?_, ?_⟩
  · simp only [go_sem, facts]
    exact ⟨by simpa [ev, A.cond] using hc, ac' (hF _ _ _ (by simpa using hc) ⟨rfl, rfl⟩)⟩
  simp only [go_sem, Tryd.results25, facts]
  refine ⟨fun hc => ?_, fun hc => ret_d hbd ?_⟩
  · simp only [Bool.and_eq_true, decide_eq_true_eq] at hc
    have hlt : j < s.length := by omega
    refine Wk.mask [0, 1, 2, 3] ⟨s.length - (j + 1), by omega, j + 1, hlt, rfl, ?_, ?_, rfl⟩
    · rw [← hr, run_step hlt hc.2]
    · rw [wrap64_id _ (by omega) (by omega)]; rfl
  · have e : j + runL q (s.drop j) = j := run_stop fun hlt => by
      cases hq : q (s.getD j 0) with
      | false => rfl
      | true => rw [hq] at hc; simp at hc; omega
    rw [← hr, e] at h; exact h
end Go.Proofs.YtaapoadjgfoieaaDoor
