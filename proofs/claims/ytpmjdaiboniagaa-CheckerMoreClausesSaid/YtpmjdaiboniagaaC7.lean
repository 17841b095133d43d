/- Sorting few integers, in place. -/
import Derived.Test.YtpmjdaiboniagaaC1
set_option linter.unusedSimpArgs false
set_option maxRecDepth 100000
namespace Go.Proofs.Ytpmjdaiboniagaa
open Go Go.Ab

theorem nan_ac (x : Int) (σ : St) (G : Glob) (R : A → St → Prop) (h : R (db false) σ) : AC Try.prog G 119 [di x] σ R := by
  refine ac_enter mixed Try.func119 rfl Try.ntmps119 (by simp only [go_sem]) fun hbd => ?_
  simp only [List.length_cons, List.length_nil, Nat.reduceAdd, Nat.reduceSub, List.replicate_succ, List.replicate_zero, List.cons_append, List.nil_append]
  simp only [go_sem, Try.results119, bne_self_eq_false]
  exact ret_d0 h
theorem less_ac (x y : Int) (σ : St) (G : Glob) (R : A → St → Prop) (h : R (db (decide (x < y))) σ) : AC Try.prog G 109 [di x, di y] σ R := by
  refine ac_enter mixed Try.func109 rfl Try.ntmps109 (by simp only [go_sem]) fun hbd => ?_
  simp only [List.length_cons, List.length_nil, Nat.reduceAdd, Nat.reduceSub, List.replicate_succ, List.replicate_zero, List.cons_append, List.nil_append]
  simp only [go_sem]
  refine ac' (nan_ac _ _ _ _ ?_)
  simp only [go_sem]
  refine ex' (.bool false) ⟨fun hc => Bool.noConfusion hc, ?_⟩
  simp only [go_sem, Try.results109]
  exact ret_d0 h
abbrev ints (l : List Int) : Option Ob := some (.cells (l.map fun x => A.d (iD x)))
theorem getD_mapA {l : List Int} {j : Nat} (h : j < l.length) : List.getD (l.map fun x => A.d (iD x)) j .any = A.d (iD (l.getD j 0)) := by
  rw [List.getD_eq_getElem?_getD, List.getElem?_map, List.getD_eq_getElem?_getD, List.getElem?_eq_getElem h]; rfl
end Go.Proofs.Ytpmjdaiboniagaa
