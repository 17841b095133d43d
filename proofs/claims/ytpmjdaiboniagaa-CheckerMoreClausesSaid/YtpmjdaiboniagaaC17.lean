/- The checker's law package: the head. -/
import Derived.Test.YtpmjdaiboniagaaC16
set_option linter.unusedSimpArgs false
set_option linter.unusedVariables false
set_option maxRecDepth 100000
namespace Go.Proofs.Ytpmjdaiboniagaa
open Go Go.Ab

theorem fine2_of {f : Cnf} {l : List Stp} (h : smallC f l = true) (hv : I64 f.vars) (hl : ∀ s ∈ l, ∀ x ∈ s.lits, I64 x) : Fine2 f l := by
  obtain ⟨⟨h1, h2⟩, h3, h4⟩ := smallC_iff.1 h
  exact ⟨⟨hv, by omega, fun c hc => by have := h3 c hc; simp only [reachBytes]; omega, by omega, fun s hs => ⟨by have := h4 s hs; omega, by have := h4 s hs; omega, hl s hs⟩⟩, fun s hs => (h4 s hs).1⟩
def allI (p : Int → Bool) (l : List Stp) : Bool := l.all fun s => s.lits.all p
theorem fine2_dec {f : Cnf} {l : List Stp} (h : (smallC f l && (decide (-9223372036854775808 ≤ f.vars) && decide (f.vars ≤ 9223372036854775807)) && allI (fun x => decide (-9223372036854775808 ≤ x) && decide (x ≤ 9223372036854775807)) l) = true) : Fine2 f l := by
  simp only [Bool.and_eq_true, allI, List.all_eq_true, decide_eq_true_eq] at h
  exact fine2_of h.1.1 h.1.2 h.2
def hdF : Cnf := ⟨2, [[1, 2], [1, -2], [-1, 2], [-1, -2]]⟩
def hdL : List Stp := [⟨[1], [0, 1]⟩, ⟨[2], [2, 4]⟩, ⟨[], [4, 5, 3]⟩]
theorem chead_ac (σ : St) (G : Glob) (R : A → St → Prop) (h : R (db true) σ) : AC Try.prog G 35 [] σ R := by
  refine ac_enterC' [3, 5] mixed Try.func35 rfl Try.ntmps35 (by simp only [go_sem]) fun hbd => ?_
  simp only [List.length_cons, List.length_nil, Nat.reduceAdd, Nat.reduceSub, List.replicate_succ, List.replicate_zero, List.cons_append, List.nil_append]
  simp only [go_sem]
  refine aw_cut (fun fr st => fr = [.any, .ref σ.length 0, .d (stpsD hdL), .any, .any, .any, .any, .any, .any, .any, .any, .any, .any, .any, .any, .any, .any, .any, .any, .any, .any, .any, .any, .any, .any, .any, .any, .any, .any, .any, .any, .any, .any, .any, .any, .any, .any, .any, .any, .any, .any, .any, .any, .any, .any, .any, .any, .any, .any, .any, .any, .any, .any, .any, .any, .any, .any, .any, .any, .any, .any, .any, .any, .any, .any, .any, .any, .any, .any, .any, .any, .any, .any, .any, .any, .any, .any, .any, .any, .any, .any, .any, .any, .any, .any, .any, .any, .any] ∧ st = σ ++ [some (.cells [.d (iD 2), .d (clsD hdF.cls)])]) ?_ ?_
  · simp only [go_sem]
    refine Wk.pre [1, 2] ?_
    simp only [go_sem]
    refine Wk.deep [0, 1, 2, 3, 4, 6, 7, 8, 9, 10, 11] 6 ?_
    simp only [go_sem]
    refine Wk.nils (fr' := [.any, .ref (σ.length + 5) 0, .d (stpsD hdL), .any, .any, .any, .any, .any, .any, .any, .any, .any, .any, .any, .any, .any, .any, .any, .any, .any, .any, .any, .any, .any, .any, .any, .any, .any, .any, .any, .any, .any, .any, .any, .any, .any, .any, .any, .any, .any, .any, .any, .any, .any, .any, .any, .any, .any, .any, .any, .any, .any, .any, .any, .any, .any, .any, .any, .any, .any, .any, .any, .any, .any, .any, .any, .any, .any, .any, .any, .any, .any, .any, .any, .any, .any, .any, .any, .any, .any, .any, .any, .any, .any, .any, .any, .any, .any]) ?_ ?_
    · repeat' first | exact NilAL.nil | apply NilAL.cons | exact NilA.refl _ | apply NilA.d | exact NilD.refl _ | exact NilD.nil _ | apply NilD.sl | apply NilD.agg | apply NilDL.cons | exact NilDL.nil
    · exact Wk.keep [1, 2] [5] (by decide) (Nat.le_refl _) hbd ⟨by simp only [go_sem], by simp only [go_sem]; rfl⟩
  · rintro fr st ⟨rfl, rfl⟩
    simp only [go_sem]
    refine ac' (check_ac hdF hdL (fine2_dec (by decide)) _ _ _ ?_)
    rw [show chk (goodR hdF) hdF hdL = (-1, 0) by kernel_rfl]
    simp only [go_sem]
    refine aw_cut (fun fr st => fr = [.any, .ref σ.length 0, .d (stpsD hdL), di (-1), di 0, di 0, di 260, .any, .any, .any, .any, .any, .any, .any, .any, .any, .any, .any, .any, .any, .any, .any, .any, .any, .any, .any, .any, .any, .any, .any, .any, .any, .any, .any, .any, .any, .any, .any, .any, .any, .any, .any, .any, .any, .any, .any, .any, .any, .any, .any, .any, .any, .any, .any, .any, .any, .any, .any, .any, .any, .any, .any, .any, .any, .any, .any, .any, .any, .any, .any, .any, .any, .any, .any, .any, .any, .any, .any, .any, .any, .any, .any, .any, .any, .any, .any, .any, .any] ∧ st = σ ++ [some (.cells [.d (iD 2), .d (clsD hdF.cls)])]) ?_ ?_
    · simp only [go_sem]
      refine ac' (ac_weak (Weak.deep [1, 2, 3] 4) ?_)
      simp only [go_sem]
      refine check_ac hdF [⟨[1], [0, 1, 2]⟩] (fine2_dec (by decide)) _ _ _ ?_
      rw [show chk (goodR hdF) hdF [⟨[1], [0, 1, 2]⟩] = (0, 260) by kernel_rfl]
      simp only [go_sem]
      exact Wk.keep [1, 2, 3, 4, 5, 6] [0] (by decide) (Nat.le_refl _) hbd ⟨by simp only [go_sem], by simp only [go_sem]⟩
    · rintro fr st ⟨rfl, rfl⟩
      simp only [go_sem]
      refine aw_plan (.tk 45 0 <| .alt 45 (.tk 6 46 .done) <| .alt 46 (.take 45 <| .tk 5 47 .done) <| .stop) (by kernel_rfl) ?_
      simp only [go_sem]
      refine ac' (refutes_ac hdF hdL (fine2_dec (by decide)) _ _ _ ?_)
      rw [show refutes (chk (goodR hdF) hdF hdL) hdL = true by kernel_rfl]
      simp only [stpsD, stpD, hdL, go_sem, beq_self_eq_true, Int.reduceToNat]
      refine ⟨by omega, by omega, ex' (.bool true) ⟨fun _ => ?_, ?_⟩⟩
      · simp only [go_sem]
        refine ac' (step_ac hdF [⟨[1], [0, 1]⟩] ⟨[2], [2, 4]⟩ (fine2_dec (by decide)) _ _ _ ?_)
        rw [show stepG hdF [⟨[1], [0, 1]⟩] ⟨[2], [2, 4]⟩ = true by kernel_rfl]
        exact ⟨rfl, rfl⟩
      simp only [go_sem, beq_self_eq_true, Int.reduceToNat]
      refine ⟨by omega, ex' (.bool false) ⟨fun _ => ?_, ?_⟩⟩
      · simp only [go_sem]
        refine ac' (ac_weak (Weak.nils (.cons (.refl _) (.cons (.d (.nil 2)) (.cons (.refl _) .nil)))) (step_ac hdF [] ⟨[2], [2, 4]⟩ (fine2_dec (by decide)) _ _ _ ?_))
        rw [show stepG hdF [] ⟨[2], [2, 4]⟩ = false by kernel_rfl]
        exact ⟨rfl, rfl⟩
      simp only [go_sem, beq_self_eq_true, Int.reduceToNat]
      refine ⟨by omega, ex' (.bool false) ⟨fun _ => ?_, ?_⟩⟩
      · simp only [go_sem]
        refine ac' (refutes_ac hdF [⟨[1], [0, 1]⟩, ⟨[2], [2, 4]⟩] (fine2_dec (by decide)) _ _ _ ?_)
        rw [show refutes (chk (goodR hdF) hdF [⟨[1], [0, 1]⟩, ⟨[2], [2, 4]⟩]) [⟨[1], [0, 1]⟩, ⟨[2], [2, 4]⟩] = false by kernel_rfl]
        exact ⟨rfl, rfl⟩
      simp only [go_sem, beq_self_eq_true, Int.reduceToNat]
      refine ⟨exs ?_, exs ?_⟩
      all_goals
        simp only [go_sem]
        refine ac' (ac_weak (Weak.deep [1, 2] 4) ?_)
        simp only [go_sem]
        refine ac_weak (Weak.nils (.cons (.refl _) (.cons (.d (.nil 2)) (.cons (.refl _) .nil)))) (step_ac hdF [] ⟨[1], [0]⟩ (fine2_dec (by decide)) _ _ _ ?_)
        rw [show stepG hdF [] ⟨[1], [0]⟩ = false by kernel_rfl]
        simp only [go_sem, beq_self_eq_true, Int.reduceToNat, Try.results35]
        exact ret_d hbd h
end Go.Proofs.Ytpmjdaiboniagaa
