/- Refutations. -/
import Derived.Test.YtpmjdaiboniagaaC5
set_option linter.unusedSimpArgs false
set_option maxRecDepth 100000
namespace Go.Proofs.Ytpmjdaiboniagaa
open Go Go.Ab

def refutes (r : Int × Int) (l : List Stp) : Bool := r.2 == 0 && decide ((0 : Int) < l.length) && (((l.getD (l.length - 1) ⟨[], []⟩).lits.length : Int) == 0)
theorem rrefutes_ac (f : Cnf) (l : List Stp) (hf : Fine f l) (σ : St) (G : Glob) (R : A → St → Prop) (h : R (db (refutes (chk (goodR f) f l) l)) σ) : AC Try.prog G 40 [.d (cnfD f), .d (stpsD l)] σ R := by
  refine ac_enter mixed Try.func40 rfl Try.ntmps40 (by simp only [go_sem]) fun hbd => ?_
  simp only [List.length_cons, List.length_nil, Nat.reduceAdd, Nat.reduceSub, List.replicate_succ, List.replicate_zero, List.cons_append, List.nil_append]
  have hl := hf.steps
  simp only [cnfD, stpsD, go_sem, List.length_map]
  refine ac' (rcheck_ac f l hf _ _ _ ?_)
  rw [refutes] at h
  obtain ⟨r, hr⟩ : ∃ r, chk (goodR f) f l = r := ⟨_, rfl⟩
  rw [hr] at h ⊢
  rcases Nat.eq_zero_or_pos l.length with h0 | h0
  · have d0 : decide ((0 : Int) < (l.length : Int)) = false := decide_eq_false (by omega)
    simp only [go_sem, List.length_map, d0, Try.results40]
    rw [d0, Bool.and_false, Bool.false_and] at h
    refine rdLen_tot _ (fun _ n => ?_) ?_
    · simp only [go_sem]
      exact ret_bd hbd rfl h
    · simp only [go_sem]
      exact ret_bd hbd rfl h
  · have w1 : IntKind.i64.wrap ((l.length : Int) - 1) = ((l.length - 1 : Nat) : Int) := by rw [wrap64_id _ (by omega) (by omega)]; omega
    have e1 := stpD_getD (l := l) (j := l.length - 1) (by omega)
    have d0 : decide ((0 : Int) < (l.length : Int)) = true := decide_eq_true (by omega)
    simp only [go_sem, List.length_map, w1, d0, isD, e1, Try.results40]
    rw [d0, Bool.and_true] at h
    exact ⟨fun hh => ⟨hh, by omega, by omega⟩, ret_bd hbd rfl h⟩
end Go.Proofs.Ytpmjdaiboniagaa
