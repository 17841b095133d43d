/- slices.Sort of at most twelve integers. -/
import Derived.Test.YtpmjdaiboniagaaC8
set_option linter.unusedSimpArgs false
set_option maxRecDepth 100000
namespace Go.Proofs.Ytpmjdaiboniagaa
open Go Go.Ab

theorem len64_ac (x : Nat) (hx : x ≤ 12) (σ : St) (G : Glob) (R : A → St → Prop) (h : ∀ n, R (di n) σ) : AC Try.prog G 113 [.d (.int .u64 x)] σ R := by
  refine ac_enter mixed Try.func113 rfl Try.ntmps113 (by simp only [go_sem]) fun hbd => ?_
  simp only [List.length_cons, List.length_nil, Nat.reduceAdd, Nat.reduceSub, List.replicate_succ, List.replicate_zero, List.cons_append, List.nil_append]
  have d1 : decide ((4294967296 : Int) ≤ (x : Int)) = false := decide_eq_false (by omega)
  have d2 : decide ((65536 : Int) ≤ (x : Int)) = false := decide_eq_false (by omega)
  have d3 : decide ((256 : Int) ≤ (x : Int)) = false := decide_eq_false (by omega)
  have w1 : IntKind.u8.wrap (x : Int) = (x : Int) := by rw [IntKind.wrap_u8]; omega
  simp only [go_sem, d1, d2, d3, w1, Try.results113]
  exact ⟨⟨by omega, Int.ofNat_lt.2 (Nat.lt_of_le_of_lt hx (by decide))⟩, ret_d0 (h _)⟩
theorem bitlen_ac (x : Nat) (hx : x ≤ 12) (σ : St) (G : Glob) (R : A → St → Prop) (h : ∀ n, R (di n) σ) : AC Try.prog G 102 [.d (.int .u64 x)] σ R := by
  refine ac_enter mixed Try.func102 rfl Try.ntmps102 (by simp only [go_sem]) fun hbd => ?_
  simp only [List.length_cons, List.length_nil, Nat.reduceAdd, Nat.reduceSub, List.replicate_succ, List.replicate_zero, List.cons_append, List.nil_append]
  simp only [go_sem]
  refine ac' (len64_ac x hx _ _ _ fun n => ?_)
  simp only [go_sem, Try.results102]
  exact ret_d0 (h _)
theorem pdq_ac (l : List Int) (hl : l.length ≤ 12) (n : Int) (σ : St) (id : Nat) (w : Option TypeId) (hσ : σ[id]? = some (ints l)) (G : Glob) (R : A → St → Prop)
    (h : ∀ (r : A) (l' : List Int), l'.Perm l → (∀ p q, p < q → q < l.length → l'.getD p 0 ≤ l'.getD q 0) → R r (σ.set id (ints l'))) : AC Try.prog G 101 [.rs id 1 0 l.length w, dn 0, dn l.length, di n] σ R := by
  refine ac_enter mixed Try.func101 rfl Try.ntmps101 (by simp only [go_sem]) fun hbd => ?_
  simp only [List.length_cons, List.length_nil, Nat.reduceAdd, Nat.reduceSub, List.replicate_succ, List.replicate_zero, List.cons_append, List.nil_append]
  have w1 : IntKind.i64.wrap ((l.length : Int) - ((0 : Nat) : Int)) = (l.length : Int) := by rw [wrap64_id _ (by omega) (by omega)]; omega
  have d1 : decide ((l.length : Int) ≤ 12) = true := decide_eq_true (by omega)
  simp only [go_sem]
  refine aw_loop (fun m fr st => st = σ ∧ fr = [.rs id 1 0 l.length w, dn 0, dn l.length, di n, .any, .any, .any, .any, db true, db true, .any, .any, .any, .any, .any, .any, .any, .any, .any, .any, .any, .any, .any, .any, .any, .any, .any, .any, .any, .any, .any, .any, .any, .any, .any, .any, .any, .any, .any, .any, .any, .any, .any, .any, .any, .any, .any, .any, .any, .any, .any, .any, .any, .any, .any, .any, .any, .any, .any, .any, .any, .any, .any, .any, .any, .any, .any, .any, .any, .any, .any, .any, .any, .any, .any, .any, .any, .any, .any, .any, .any, .any, .any, .any, .any, .any, .any, .any, .any, .any, .any, .any, .any, .any, .any, .any, .any, .any, .any, .any, .any, .any, .any, .any, .any, .any, .any, .any, .any, .any, .any, .any, .any, .any, .any, .any, .any, .any, .any, .any, .any, .any, .any, .any, .any, .any, .any, .any, .any, .any, .any, .any, .any, .any]) 0 _ (Wk.mask [0, 1, 2, 3, 8, 9] ⟨rfl, rfl⟩) ?_
  rintro m fr st ⟨rfl, rfl⟩
  simp only [go_sem, w1, d1, Try.results101]
  refine ac' (insort_ac l hl _ _ _ hσ _ _ fun r l' hp hs => ?_)
  simp only [go_sem, Try.results101]
  exact ⟨_, _, Weak.refl _ _ _ _, h _ l' hp hs⟩
theorem sort_ac (l : List Int) (hl : l.length ≤ 12) (σ : St) (id : Nat) (w : Option TypeId) (hσ : σ[id]? = some (ints l)) (G : Glob) (R : A → St → Prop)
    (h : ∀ (r : A) (l' : List Int), l'.Perm l → (∀ p q, p < q → q < l.length → l'.getD p 0 ≤ l'.getD q 0) → R r (σ.set id (ints l'))) : AC Try.prog G 94 [.rs id 1 0 l.length w] σ R := by
  refine ac_enter mixed Try.func94 rfl Try.ntmps94 (by simp only [go_sem]) fun hbd => ?_
  simp only [List.length_cons, List.length_nil, Nat.reduceAdd, Nat.reduceSub, List.replicate_succ, List.replicate_zero, List.cons_append, List.nil_append]
  have w1 : IntKind.u64.wrap (l.length : Int) = (l.length : Int) := by rw [IntKind.wrap_u64]; omega
  have hlive := live_of hσ
  simp only [go_sem, w1, hlive]
  refine ac' (bitlen_ac l.length hl _ _ _ fun n => ?_)
  simp only [go_sem]
  refine ac' (pdq_ac l hl n _ _ _ hσ _ _ fun r l' hp hs => ?_)
  simp only [go_sem, Try.results94]
  exact ⟨_, _, Weak.refl _ _ _ _, h _ l' hp hs⟩
end Go.Proofs.Ytpmjdaiboniagaa
