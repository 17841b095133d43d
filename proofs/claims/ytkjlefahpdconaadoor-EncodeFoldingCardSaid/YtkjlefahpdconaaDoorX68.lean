import Derived.Test.YtkjlefahpdconaaDoorX67
import Derived.Test.YtkjlefahpdconaaDoorRA
import Derived.Test.YtkjlefahpdconaaDoorX61
import Derived.Test.YtkjlefahpdconaaDoorCards
import Derived.Test.YtkjlefahpdconaaDoorTie

section PartD7
/- Law 22.7: folding. -/
set_option linter.unusedSimpArgs false
set_option linter.unusedVariables false
set_option maxRecDepth 100000
namespace Go.Proofs.YtkjlefahpdconaaDoor
open Go Go.Ab

abbrev fO (f : Cnf) : Option Ob := some (.cells [di f.vars, .d (clsD f.cls)])
theorem one_last {cs : List Cel} {c : Cnd} (he : encR cs c = true) : (negR cs (cdA c.hyp (kX 1))).2 = 2 ∨ ((negR cs (cdA c.hyp (kX 1))).2 = 0 ∧ fineC (negR cs (cdA c.hyp (kX 1))).1 = true ∧ ∃ M : List (List Int), M.length < 40000 ∧ (negR cs (cdA c.hyp (kX 1))).1.cls = M ++ [[-1]]) := by
  have he1 := enc_one he
  rcases neg_cases he1 with ⟨root, gs, ht, hn, -⟩ | ⟨-, hn, -⟩ <;> rw [hn]
  · have t := (enc_of he1).tr ht
    have hr : root = -1 := root_one ht
    subst hr
    have := t.len
    simp only [negF, List.length_append, List.length_cons, List.length_nil] at this
    exact .inr ⟨rfl, t.fine, mostC (firstV cs c.hyp (kX 1)) gs, by omega, rfl⟩
  · exact .inl rfl
set_option maxHeartbeats 16000000 in
theorem law6_ac (cs : List Cel) (hc : cs.length ≤ reachBytes) (c : Cnd) (hok : c.Ok) (old now : List Int) (ho : old.length ≤ reachBytes) (hn : now.length ≤ reachBytes) (σ : St) (G : Glob) (hG : G.g 0 = some masksD) (R : A → St → Prop) (h : R (db true) σ) : AC Tryd.prog G 6 [.d (celsD cs), .d (cndD c), dL old, dL now] σ R := by
  refine ac_enterC' [4, 5, 6, 7, 9, 11, 13, 15, 16, 17, 21] mixed Tryd.func6 rfl Tryd.ntmps6 (by simp only [go_sem]) fun hbd => ?_
  simp only [List.length_cons, List.length_nil, Nat.reduceAdd, Nat.reduceSub, List.replicate_succ, List.replicate_zero, List.cons_append, List.nil_append]
  simp only [cndD, go_sem]
  refine ac' (head_ac _ _ hG _ ?_)
  simp only [go_sem]
  refine aw_cut (fun fr st => (encR cs c = true ∧ old.length ≤ 50 ∧ now.length ≤ 50) ∧ fr = [.d (celsD cs), .any, dL old, dL now, .any, .ref σ.length 0, .any, .any, .any, db true, .any, .any, .any, .any, .any, .any, .any, .any, .any, .any, .any, .any, .any, .any, .any, .any, .any, .any, .any, .any, .any, .any, .any, .any, .any, .any, .any, .any, .any, .any, .any, .any, .any, .any, .any, .any, .any, .any, .any, .any, .any, .any, .any, .any, .any, .any, .any, .any, .any, .any, .any, .any, .any, .any, .any, .any, .any, .any, .any, .any, .any, .any, .any, .any, .any, .any, .any, .any, .any, .any, .any, .any, .any, .any, .any, .any, .any, .any, .any, .any, .any, .any, .any, .any, .any, .any, .any, .any, .any, .any, .any, .any, .any, .any, .any, .any, .any, .any, .any, .any, .any, .any, .any, .any, .any, .any, .any, .any, .any, .any, .any, .any, .any, .any, .any, .any, .any, .any, .any, .any, .any, .any, .any, .any, .any, .any, .any, .any, .any, .any, .any, .any, .any, .any, .any, .any, .any, .any, .any, .any, .any, .any, .any, .any, .any, .any, .any, .any, .any] ∧ st = σ ++ [cdO c]) ?_ ?_
  · simp only [go_sem]
    rw [← cndD]
    refine ac' (lsmall_ac cs hc c hok 40 (by omega) _ _ _ ?_)
    cases hB : (smallR cs c 40 && encR cs c)
    · simp only [dL, isD, go_sem, Bool.not_false, Tryd.results6]
      exact ret_d hbd h
    have he : encR cs c = true := by rw [Bool.and_eq_true] at hB; exact hB.2
    simp only [dL, isD, go_sem, Bool.not_true, List.length_map, Tryd.results6]
    refine ⟨fun q => ret_d hbd h, fun q => ?_⟩
    simp only [Bool.false_or, Bool.or_eq_false_iff, decide_eq_false_iff_not, Bool.or_eq_true, not_or] at q
    refine Wk.mask [0, 2, 3, 5, 9] ⟨⟨he, ?_, ?_⟩, rfl, rfl⟩
    · omega
    · omega
  rintro fr st ⟨⟨he, ho5, hn5⟩, rfl, rfl⟩
  have E := enc_of he
  have he1 := enc_one he
  have hs1 := neg_sizes he1
  have h1 := one_last he
  obtain ⟨f1, hf1⟩ : ∃ f1, negR cs (cdA c.hyp (kX 1)) = f1 := ⟨_, rfl⟩
  rw [hf1] at h1 hs1
  refine aw_cut (fun fr st => fr = [.d (celsD cs), .any, dL old, dL now, .any, .ref σ.length 0, .any, .any, .any, db true, .ref (σ.length + 1) 0, .ref (σ.length + 2) 0, .any, .any, .any, .any, .any, .any, .any, .any, .any, .any, .any, .any, .any, .any, .any, .any, .any, .any, .any, .any, .any, .any, .any, .any, .any, .any, .any, .any, .any, .any, .any, .any, .any, .any, .any, .any, .any, .any, .any, .any, .any, .any, .any, .any, .any, .any, .any, .any, .any, .any, .any, .any, .any, .any, .any, .any, .any, .any, .any, .any, .any, .any, .any, .any, .any, .any, .any, .any, .any, .any, .any, .any, .any, .any, .any, .any, .any, .any, .any, .any, .any, .any, .any, .any, .any, .any, .any, .any, .any, .any, .any, .any, .any, .any, .any, .any, .any, .any, .any, .any, .any, .any, .any, .any, .any, .any, .any, .any, .any, .any, .any, .any, .any, .any, .any, .any, .any, .any, .any, .any, .any, .any, .any, .any, .any, .any, .any, .any, .any, .any, .any, .any, .any, .any, .any, .any, .any, .any, .any, .any, .any, .any, .any, .any, .any, .any, .any] ∧ st = σ ++ [cdO c, exA 1 1 1 [], exA 1 1 0 []]) ?_ ?_
  · simp only [go_sem]
    refine ac' (const_ac _ _ _ _ _ ?_)
    rw [show Ex.mk 1 1 1 [] = kX 1 from rfl, kX_d]
    simp only [go_sem]
    refine ac' (const_ac _ _ _ _ _ ?_)
    rw [show Ex.mk 1 1 0 [] = kX 0 from rfl, kX_d]
    simp only [go_sem]
    exact Wk.mask [0, 2, 3, 5, 9, 10, 11] ⟨by simp only [go_sem], by simp only [go_sem]⟩
  rintro fr st ⟨rfl, rfl⟩
  refine aw_cut (fun fr st => fr = [.d (celsD cs), .any, dL old, dL now, .any, .ref σ.length 0, .any, .any, .any, db true, .ref (σ.length + 1) 0, .ref (σ.length + 2) 0, .ref (σ.length + 3) 0, di f1.2, .any, .any, .any, .any, .any, .any, .any, .any, .any, .any, .any, .any, .any, .any, .any, .any, .any, .any, .any, .any, .any, .any, .any, .any, .any, .any, .any, .any, .any, .any, .any, .any, .any, .any, .any, .any, .any, .any, .any, .any, .any, .any, .any, .any, .any, .any, .any, .any, .any, .any, .any, .any, .any, .any, .any, .any, .any, .any, .any, .any, .any, .any, .any, .any, .any, .any, .any, .any, .any, .any, .any, .any, .any, .any, .any, .any, .any, .any, .any, .any, .any, .any, .any, .any, .any, .any, .any, .any, .any, .any, .any, .any, .any, .any, .any, .any, .any, .any, .any, .any, .any, .any, .any, .any, .any, .any, .any, .any, .any, .any, .any, .any, .any, .any, .any, .any, .any, .any, .any, .any, .any, .any, .any, .any, .any, .any, .any, .any, .any, .any, .any, .any, .any, .any, .any, .any, .any, .any, .any, .any, .any, .any, .any, .any, .any] ∧ st = σ ++ [cdO c, exA 1 1 1 [], exA 1 1 0 [], fO f1.1]) ?_ ?_
  · simp only [go_sem]
    refine ac' (neg_ac cs (cdA c.hyp (kX 1)) ⟨hok.hyp, ok0 _ _ _⟩ he1 _ _ hG _ ?_)
    rw [hf1]
    simp only [cnfD, go_sem]
    exact Wk.mask [0, 2, 3, 5, 9, 10, 11, 12, 13] ⟨by simp only [go_sem], by simp only [go_sem]⟩
  rintro fr st ⟨rfl, rfl⟩
  refine aw_cut (fun fr st => fr = [.d (celsD cs), .any, dL old, dL now, .any, .ref σ.length 0, .any, .any, .any, db true, .any, .any, .ref (σ.length + 1) 0, di f1.2, .ref (σ.length + 2) 0, di 0, .any, .any, .any, .any, .any, .any, .any, .any, .any, .any, .any, .any, .any, .any, .any, .any, .any, .any, .any, .any, .any, .any, .any, .any, .any, .any, .any, .any, .any, .any, .any, .any, .any, .any, .any, .any, .any, .any, .any, .any, .any, .any, .any, .any, .any, .any, .any, .any, .any, .any, .any, .any, .any, .any, .any, .any, .any, .any, .any, .any, .any, .any, .any, .any, .any, .any, .any, .any, .any, .any, .any, .any, .any, .any, .any, .any, .any, .any, .any, .any, .any, .any, .any, .any, .any, .any, .any, .any, .any, .any, .any, .any, .any, .any, .any, .any, .any, .any, .any, .any, .any, .any, .any, .any, .any, .any, .any, .any, .any, .any, .any, .any, .any, .any, .any, .any, .any, .any, .any, .any, .any, .any, .any, .any, .any, .any, .any, .any, .any, .any, .any, .any, .any, .any, .any, .any, .any, .any, .any, .any, .any, .any, .any] ∧ st = σ ++ [cdO c, fO f1.1, fO ⟨1, [[1], [1]]⟩]) ?_ ?_
  · simp only [go_sem]
    refine ac' (neg_ac cs (cdA (kX 1) (kX 0)) ⟨ok0 _ _ _, ok0 _ _ _⟩ (enc_const E.len) _ _ hG _ ?_)
    rw [neg_const]
    simp only [cnfD, go_sem]
    exact Wk.keep [0, 2, 3, 5, 9, 12, 13, 14, 15] [0, 3, 4] (by decide) (Nat.le_refl _) hbd ⟨by simp only [go_sem], by simp only [go_sem]⟩
  rintro fr st ⟨rfl, rfl⟩
  refine aw_cut (fun fr st => fr = [.d (celsD cs), .any, dL old, dL now, .any, .ref σ.length 0, .any, .any, .any, db true, .any, .any, .ref (σ.length + 1) 0, di f1.2, .any, .any, .any, .any, .any, .any, .any, .any, .any, .any, .any, .any, .any, .any, .any, .any, .any, .any, .any, .any, .any, .any, .any, .any, .any, .any, .any, .any, .any, .any, .any, .any, .any, .any, .any, .any, .any, .any, .any, .any, .any, .any, .any, .any, .any, .any, .any, .any, .any, .any, .any, .any, .any, .any, .any, .any, .any, .any, .any, .any, .any, .any, .any, .any, .any, .any, .any, .any, .any, .any, .any, .any, .any, .any, .any, .any, .any, .any, .any, .any, .any, .any, .any, .any, .any, .any, .any, .any, .any, .any, .any, .any, .any, .any, .any, .any, .any, .any, .any, .any, .any, .any, .any, .any, .any, .any, .any, .any, .any, .any, .any, .any, .any, .any, .any, .any, .any, .any, .any, .any, .any, .any, .any, .any, .any, .any, .any, .any, .any, .any, .any, .any, .any, .any, .any, .any, .any, .any, .any, .any, .any, .any, .any, .any, .any] ∧ st = σ ++ [cdO c, fO f1.1]) ?_ ?_
  · simp only [go_sem, Int.reduceBNe]
    refine exs ⟨fun _ => ?_, fun h => Bool.noConfusion h⟩
    simp only [go_sem]
    refine ac' (ac_weak (Weak.deep [3, 4, 5] 6) ?_)
    simp only [go_sem]
    refine same_ac ⟨1, [[1], [1]]⟩ ⟨1, [[1], [1]]⟩ (by decide) (by decide) (by decide) (by decide) _ _ _ ?_
    simp only [go_sem, and_self, decide_true, Bool.not_true, Int.reduceBNe, Tryd.results6]
    refine Wk.pre [0, 2, 3, 5, 9, 12, 13] ?_
    exact Wk.keep [0, 2, 3, 5, 9, 12, 13] [0, 1] (by decide) (Nat.le_refl _) hbd ⟨by simp only [go_sem], by simp only [go_sem]⟩
  rintro fr st ⟨rfl, rfl⟩
  refine aw_cut (fun fr st => fr = [.d (celsD cs), .any, dL old, dL now, .any, .ref σ.length 0, .any, .any, .any, db true, .any, .any, .any, .any, .any, .any, .any, .any, .any, .any, .any, .any, .any, .any, .any, .any, .any, .any, .any, .any, .any, .any, .any, .any, .any, .any, .any, .any, .any, .any, .any, .any, .any, .any, .any, .any, .any, .any, .any, .any, .any, .any, .any, .any, .any, .any, .any, .any, .any, .any, .any, .any, .any, .any, .any, .any, .any, .any, .any, .any, .any, .any, .any, .any, .any, .any, .any, .any, .any, .any, .any, .any, .any, .any, .any, .any, .any, .any, .any, .any, .any, .any, .any, .any, .any, .any, .any, .any, .any, .any, .any, .any, .any, .any, .any, .any, .any, .any, .any, .any, .any, .any, .any, .any, .any, .any, .any, .any, .any, .any, .any, .any, .any, .any, .any, .any, .any, .any, .any, .any, .any, .any, .any, .any, .any, .any, .any, .any, .any, .any, .any, .any, .any, .any, .any, .any, .any, .any, .any, .any, .any, .any, .any, .any, .any, .any, .any, .any, .any] ∧ st = σ ++ [cdO c]) ?_ ?_
  · rcases h1 with e0 | ⟨e0, hfine, M, hM, hcl⟩
    · simp only [e0, go_sem, Int.reduceBEq]
      refine ex' (.bool true) ⟨fun q => ?_, ?_⟩
      · exact Bool.noConfusion q
      simp only [clsD, go_sem, List.length_map, Bool.not_true, Tryd.results6]
      refine ex' (.bool true) ⟨fun q => ?_, ?_⟩
      · exact Bool.noConfusion q
      simp only [go_sem, Tryd.results6]
      exact Wk.keep [0, 2, 3, 5, 9] [0] (by decide) (Nat.le_refl _) hbd ⟨by simp only [go_sem], by simp only [go_sem]⟩
    · obtain ⟨⟨fv, fc⟩, fe⟩ := f1
      simp only at e0 hcl hfine hs1
      subst e0 hcl
      simp only [go_sem, Int.reduceBEq]
      refine exs ⟨fun _ => ?_, fun h => Bool.noConfusion h⟩
      simp only [go_sem]
      refine ac' (fine_ac ⟨fv, M ++ [[-1]]⟩ (reach_le (show (M ++ [[-1]]).length ≤ 100000 by omega)) (fun x hx => reach_le (Nat.le_trans (hs1.2 x hx) (by omega))) _ _ _ ?_)
      rw [hfine]
      have w1 : IntKind.i64.wrap (((M.length + 1 : Nat) : Int) - 1) = (M.length : Nat) := by
        rw [wrap64_id _ (by omega) (by omega)]; omega
      have g1 : List.getD ((M ++ [[-1]]).map isD) M.length default = .sl 1 [iD (-1)] := by
        rw [List.map_append, List.getD_eq_getElem?_getD, List.getElem?_append_right (by simp)]; simp [isD]
      simp only [clsD, go_sem, Bool.not_true, List.length_map, List.length_append, List.length_cons, List.length_nil, Nat.zero_add, w1, Int.toNat_natCast, g1, Tryd.results6]
      refine ⟨⟨by omega, by omega⟩, exs ⟨fun _ => ?_, fun h => Bool.noConfusion h⟩⟩
      simp only [go_sem]
      refine ac' (ac_weak (Weak.deep [2] 6) ?_)
      simp only [go_sem]
      refine sameInts_ac [-1] [-1] (by decide) (by decide) _ _ _ ?_
      simp only [go_sem, decide_true, Bool.not_true, Tryd.results6]
      refine Wk.pre [0, 2, 3, 5, 9] ?_
      exact Wk.keep [0, 2, 3, 5, 9] [0] (by decide) (Nat.le_refl _) hbd ⟨by simp only [go_sem], by simp only [go_sem]⟩
  rintro fr st ⟨rfl, rfl⟩
  simp only [go_sem]
  refine aw_cut (fun fr st => fr = [.d (celsD cs), .any, dL old, dL now, .any, .ref σ.length 0, .any, .any, .any, db true, .any, .any, .any, .any, .any, .any, .any, .ref (σ.length + 1) 0, .any, .any, .any, .any, .any, .any, .any, .any, .any, .any, .any, .any, .any, .any, .any, .any, .any, .any, .any, .any, .any, .any, .any, .any, .any, .any, .any, .any, .any, .any, .any, .any, .any, .any, .any, .any, .any, .any, .any, .any, .any, .any, .any, .any, .any, .any, .any, .any, .any, .any, .any, .any, .any, .any, .any, .any, .any, .any, .any, .any, .any, .any, .any, .any, .any, .any, .any, .any, .any, .any, .any, .any, .any, .any, .any, .any, .any, .any, .any, .any, .any, .any, .any, .any, .any, .any, .any, .any, .any, .any, .any, .any, .any, .any, .any, .any, .any, .any, .any, .any, .any, .any, .any, .any, .any, .any, .any, .any, .any, .any, .any, .any, .any, .any, .any, .any, .any, .any, .any, .any, .any, .any, .any, .any, .any, .any, .any, .any, .any, .any, .any, .any, .any, .any, .any, .any, .any, .any, .any, .any, .any] ∧ st = σ ++ [cdO c, cdO (cdA (notX c.goal) (notX c.hyp))]) ?_ ?_
  · simp only [go_sem]
    refine aw_plan (.tk 3 0 <| .take 4 <| .pure 3 <| .tk 2 5 <| .pure 7 <| .tk 3 8 <| .done) (by kernel_rfl) ?_
    simp only [go_sem]
    refine exP (.d (notX c.goal).d) ⟨fun σ' => ?_, ?_⟩
    · simp only [go_sem]
      rw [← Ex.d_eq]
      exact ac' (not_ac c.goal _ _ _ ⟨rfl, rfl⟩)
    simp only [go_sem]
    refine exP (.d (notX c.hyp).d) ⟨fun σ' => ?_, ?_⟩
    · simp only [go_sem]
      rw [← Ex.d_eq]
      exact ac' (not_ac c.hyp _ _ _ ⟨rfl, rfl⟩)
    rw [notX_d, notX_d]
    simp only [go_sem]
    exact Wk.mask [0, 2, 3, 5, 9, 17] ⟨by simp only [go_sem], rfl⟩
  rintro fr st ⟨rfl, rfl⟩
  have hok2 : (cdA (notX c.goal) (notX c.hyp)).Ok := ⟨ok1 _ _ _ hok.goal, ok1 _ _ _ hok.hyp⟩
  refine aw_cut (fun fr st => encR cs (cdA (notX c.goal) (notX c.hyp)) = true ∧ fr = [.d (celsD cs), .any, dL old, dL now, .any, .ref σ.length 0, .any, .any, .any, db true, .any, .any, .any, .any, .any, .any, .any, .ref (σ.length + 1) 0, .any, .any, .any, .any, .any, .any, .any, .any, .any, .any, .any, .any, .any, .any, .any, .any, .any, .any, .any, .any, .any, .any, .any, .any, .any, .any, .any, .any, .any, .any, .any, .any, .any, .any, .any, .any, .any, .any, .any, .any, .any, .any, .any, .any, .any, .any, .any, .any, .any, .any, .any, .any, .any, .any, .any, .any, .any, .any, .any, .any, .any, .any, .any, .any, .any, .any, .any, .any, .any, .any, .any, .any, .any, .any, .any, .any, .any, .any, .any, .any, .any, .any, .any, .any, .any, .any, .any, .any, .any, .any, .any, .any, .any, .any, .any, .any, .any, .any, .any, .any, .any, .any, .any, .any, .any, .any, .any, .any, .any, .any, .any, .any, .any, .any, .any, .any, .any, .any, .any, .any, .any, .any, .any, .any, .any, .any, .any, .any, .any, .any, .any, .any, .any, .any, .any, .any, .any, .any, .any, .any, .any] ∧ st = σ ++ [cdO c, cdO (cdA (notX c.goal) (notX c.hyp))]) ?_ ?_
  · simp only [go_sem]
    refine ac' (lsmall_ac cs hc (cdA (notX c.goal) (notX c.hyp)) hok2 42 (by omega) _ _ _ ?_)
    cases hB : (smallR cs (cdA (notX c.goal) (notX c.hyp)) 42 && encR cs (cdA (notX c.goal) (notX c.hyp)))
    · simp only [go_sem, Bool.not_false, Tryd.results6]
      exact ret_d hbd h
    have he : encR cs (cdA (notX c.goal) (notX c.hyp)) = true := by rw [Bool.and_eq_true] at hB; exact hB.2
    simp only [go_sem, Bool.not_true, Tryd.results6]
    exact Wk.mask [0, 2, 3, 5, 9, 17] ⟨he, by simp only [go_sem], rfl⟩
  rintro fr st ⟨he2, rfl, rfl⟩
  generalize hd2 : cdA (notX c.goal) (notX c.hyp) = d at he2 hok2
  have E2 := enc_of he2
  refine aw_cut (fun fr st => fr = [.d (celsD cs), .any, dL old, dL now, .any, .ref σ.length 0, .any, .any, .any, db true, .any, .any, .any, .any, .any, .any, .any, .ref (σ.length + 1) 0, .ref (σ.length + 2) 0, di (negR cs c).2, .any, .any, .any, .any, .any, .any, .any, .any, .any, .any, .any, .any, .any, .any, .any, .any, .any, .any, .any, .any, .any, .any, .any, .any, .any, .any, .any, .any, .any, .any, .any, .any, .any, .any, .any, .any, .any, .any, .any, .any, .any, .any, .any, .any, .any, .any, .any, .any, .any, .any, .any, .any, .any, .any, .any, .any, .any, .any, .any, .any, .any, .any, .any, .any, .any, .any, .any, .any, .any, .any, .any, .any, .any, .any, .any, .any, .any, .any, .any, .any, .any, .any, .any, .any, .any, .any, .any, .any, .any, .any, .any, .any, .any, .any, .any, .any, .any, .any, .any, .any, .any, .any, .any, .any, .any, .any, .any, .any, .any, .any, .any, .any, .any, .any, .any, .any, .any, .any, .any, .any, .any, .any, .any, .any, .any, .any, .any, .any, .any, .any, .any, .any, .any, .any, .any, .any, .any, .any, .any] ∧ st = σ ++ [cdO c, cdO d, fO (negR cs c).1]) ?_ ?_
  · simp only [go_sem]
    rw [← cndD]
    refine ac' (neg_ac cs c hok he _ _ hG _ ?_)
    simp only [cnfD, go_sem]
    exact Wk.mask [0, 2, 3, 5, 9, 17, 18, 19] ⟨by simp only [go_sem], by simp only [go_sem]⟩
  rintro fr st ⟨rfl, rfl⟩
  refine aw_cut (fun fr st => fr = [.d (celsD cs), .any, dL old, dL now, .any, .ref σ.length 0, .any, .any, .any, db true, .any, .any, .any, .any, .any, .any, .any, .ref (σ.length + 1) 0, .ref (σ.length + 2) 0, di (negR cs c).2, .ref (σ.length + 3) 0, di (negR cs d).2, .any, .any, .any, .any, .any, .any, .any, .any, .any, .any, .any, .any, .any, .any, .any, .any, .any, .any, .any, .any, .any, .any, .any, .any, .any, .any, .any, .any, .any, .any, .any, .any, .any, .any, .any, .any, .any, .any, .any, .any, .any, .any, .any, .any, .any, .any, .any, .any, .any, .any, .any, .any, .any, .any, .any, .any, .any, .any, .any, .any, .any, .any, .any, .any, .any, .any, .any, .any, .any, .any, .any, .any, .any, .any, .any, .any, .any, .any, .any, .any, .any, .any, .any, .any, .any, .any, .any, .any, .any, .any, .any, .any, .any, .any, .any, .any, .any, .any, .any, .any, .any, .any, .any, .any, .any, .any, .any, .any, .any, .any, .any, .any, .any, .any, .any, .any, .any, .any, .any, .any, .any, .any, .any, .any, .any, .any, .any, .any, .any, .any, .any, .any, .any, .any, .any, .any, .any] ∧ st = σ ++ [cdO c, cdO d, fO (negR cs c).1, fO (negR cs d).1]) ?_ ?_
  · simp only [go_sem]
    rw [← cndD]
    refine ac' (neg_ac cs d hok2 he2 _ _ hG _ ?_)
    simp only [cnfD, go_sem]
    exact Wk.mask [0, 2, 3, 5, 9, 17, 18, 19, 20, 21] ⟨by simp only [go_sem], by simp only [go_sem]⟩
  rintro fr st ⟨rfl, rfl⟩
  have hs1 := neg_sizes he
  have hs2 := neg_sizes he2
  have hev : ∀ root gs, transM cs c.hyp c.goal [] = some (root, gs) → evalC (negF (firstV cs c.hyp c.goal) (root, gs)) (extV cs c.hyp c.goal old now gs) = bad c old now := fun root gs ht => E.meaning_all (E.tr ht)
  have hev2 : ∀ root gs, transM cs d.hyp d.goal [] = some (root, gs) → evalC (negF (firstV cs d.hyp d.goal) (root, gs)) (extV cs d.hyp d.goal old now gs) = bad c old now := fun root gs ht => by
    rw [E2.meaning_all (E2.tr ht), ← hd2]
    exact E.folded
  have hxl : ∀ root gs, transM cs c.hyp c.goal [] = some (root, gs) → (extV cs c.hyp c.goal old now gs).length ≤ reachBytes := fun root gs ht => by
    rw [ext_len]; exact reach_le (Nat.le_trans (E.tr ht).good.fit.1 (by omega))
  have hxl2 : ∀ root gs, transM cs d.hyp d.goal [] = some (root, gs) → (extV cs d.hyp d.goal old now gs).length ≤ reachBytes := fun root gs ht => by
    rw [ext_len]; exact reach_le (Nat.le_trans (E2.tr ht).good.fit.1 (by omega))
  rcases neg_cases he with ⟨root, gs, ht, hn1, hx⟩ | ⟨-, hn1, -⟩
  · rcases neg_cases he2 with ⟨root2, gs2, ht2, hn2, hx2⟩ | ⟨-, hn2, -⟩
    · replace hev := hev _ _ ht
      replace hev2 := hev2 _ _ ht2
      replace hxl := hxl _ _ ht
      replace hxl2 := hxl2 _ _ ht2
      replace hx := hx old now
      replace hx2 := hx2 old now
      rw [hn1] at hs1 ⊢
      rw [hn2] at hs2 ⊢
      generalize negF (firstV cs c.hyp c.goal) (root, gs) = F at *
      generalize negF (firstV cs d.hyp d.goal) (root2, gs2) = F2 at *
      generalize extV cs c.hyp c.goal old now gs = X at *
      generalize extV cs d.hyp d.goal old now gs2 = X2 at *
      simp only [go_sem, Int.reduceBNe, Tryd.results6]
      rw [← cndD]
      refine ac' (ext_ac cs c hok he old now ho hn _ _ hG _ ?_)
      rw [hx]
      simp only [go_sem]
      refine aw_cut (fun fr st => fr = [.any, .any, .any, .any, .any, .any, .any, .any, .any, db true, .any, .any, .any, .any, .any, .any, .any, .any, .ref σ.length 0, .any, .ref (σ.length + 1) 0, .any, .d (bsD X), di 0, .d (bsD X2), di 0, .any, .any, .any, .any, .any, .any, .any, .any, .any, .any, .any, .any, .any, .any, .any, .any, .any, .any, .any, .any, .any, .any, .any, .any, .any, .any, .any, .any, .any, .any, .any, .any, .any, .any, .any, .any, .any, .any, .any, .any, .any, .any, .any, .any, .any, .any, .any, .any, .any, .any, .any, .any, .any, .any, .any, .any, .any, .any, .any, .any, .any, .any, .any, .any, .any, .any, .any, .any, .any, .any, .any, .any, .any, .any, .any, .any, .any, .any, .any, .any, .any, .any, .any, .any, .any, .any, .any, .any, .any, .any, .any, .any, .any, .any, .any, .any, .any, .any, .any, .any, .any, .any, .any, .any, .any, .any, .any, .any, .any, .any, .any, .any, .any, .any, .any, .any, .any, .any, .any, .any, .any, .any, .any, .any, .any, .any, .any, .any, .any, .any, .any, .any, .any] ∧ st = σ ++ [fO F, fO F2]) ?_ ?_
      · simp only [go_sem]
        rw [← cndD]
        refine ac' (ext_ac cs d hok2 he2 old now ho hn _ _ hG _ ?_)
        rw [hx2]
        simp only [go_sem]
        exact Wk.keep [9, 18, 20, 22, 23, 24, 25] [2, 3] (by decide) (Nat.le_refl _) hbd ⟨by simp only [go_sem], by simp only [go_sem]⟩
      rintro fr st ⟨rfl, rfl⟩
      simp only [go_sem]
      refine aw_plan (.tk 12 0 <| .take 14 <| .pure 12 <| .take 13 <| .pure 15 <| .tk 3 16 <| .done) (by kernel_rfl) ?_
      simp only [go_sem, Int.reduceBEq]
      refine exQ (.bool (bad c old now)) ⟨fun _ => ?_, ?_⟩
      · simp only [go_sem]
        exact fun σ' => ac' (ceval_ac F X (reach_le (Nat.le_trans hs1.1 (by omega))) (fun x hx => reach_le (Nat.le_trans (hs1.2 x hx) (by omega))) hxl _ _ _ ⟨by rw [hev], rfl⟩)
      simp only [go_sem, Int.reduceBEq]
      refine exQ (.bool (bad c old now)) ⟨fun _ => ?_, ?_⟩
      · simp only [go_sem]
        exact fun σ' => ac' (ceval_ac F2 X2 (reach_le (Nat.le_trans hs2.1 (by omega))) (fun x hx => reach_le (Nat.le_trans (hs2.2 x hx) (by omega))) hxl2 _ _ _ ⟨by rw [hev2], rfl⟩)
      have e1 : (bad c old now == bad c old now) = true := by simp
      simp only [go_sem, Int.reduceBEq, e1, Tryd.results6]
      exact ret_d hbd h
    · rw [hn1, hn2]
      simp only [go_sem, Int.reduceBNe, Tryd.results6]
      exact ret_d hbd h
  · rw [hn1]
    simp only [go_sem, Int.reduceBNe, Tryd.results6]
    exact ret_d hbd h
end Go.Proofs.YtkjlefahpdconaaDoor
end PartD7

section PartR6
/- EncodeFolding: the law answers true for every input, and leaves its input as it was. Its condition: the laid table holds what the text of the program lays (tied by the card). -/
set_option maxRecDepth 100000
set_option linter.unusedSimpArgs false
set_option linter.unusedVariables false
namespace Go.Proofs.YtkjlefahpdconaaDoor
open Go Go.Ab Go.RowKit Go.ChangeShapes Go.WideShapes
theorem liftedEncodeFolding (os : Os) (started : os.Started) (H : Type) (enc : TypeId × Value → H) :
    ReturnsInHanded {} Tryd.checked os 6 .any (fun w args => (Rows.encodeFoldingSpec.pre enc Tryd.prog Tryd.f6 [] false w args ∧ laidMetH Tryd.prog laid1 w) ∧ sizedMet enc Tryd.prog Tryd.f6 (OpenSpec.ofChange Rows.encodeFoldingSpec) false w args)
      (Rows.encodeFoldingSpec.post enc Tryd.prog Tryd.f6 false true false false) := by
  refine returnsInHanded_of_change_and (C := Tryd.checked) (X := fun w _ => laidMetH Tryd.prog laid1 w) (fun _ _ _ hh h => h.of_heap hh) own started (by kernel_rfl) Tryd.func6
    (ChangeSpec.witness_shaped (enc := enc) (C := Tryd.checked) (os := os) (X := fun w _ => laidMetH Tryd.prog laid1 w) false (World.doorLaid Tryd.prog 400 os) #[.slice none 0 0, .agg #[.string ⟨#[]⟩, .int .i64 0, .int .i64 0, .int .i64 0, .int .i64 0, .int .i64 0, .int .i64 0, .int .i64 0, .int .i64 0, .slice none 0 0, .int .i64 0, .int .i64 0, .int .i64 0, .slice none 0 0], .slice none 0 0, .slice none 0 0] 8 rfl (World.shaped_of_RefB (by kernel_rfl) (by kernel_rfl)) (by kernel_rfl) (by kernel_rfl) (by kernel_rfl) (door_met os _)) ?_
  intro W base args ds gs before hval hW _ hz hL _
  refine calls_true (G := globs) (S := [3, 4, 9, 22, 23, 25, 27, 28, 45]) (tb := 4) hW hval (by kernel_rfl) (by rw [Tryd.params6]; kernel_rfl) (by kernel_rfl) (by rw [Tryd.params6]; kernel_rfl) rfl (by kernel_rfl) Tryd.underlying4 (fun ds hds => ?_) (globs_rep hL) hz (fun xs hx => ?_)
  · rw [Tryd.params6] at hds
    match ds, hds with
    | [d0, d1, d2, d3], _ => rfl
  · skip
    rw [Tryd.params6] at hx
    generalize args.toList = vs at hx
    cases hx with
    | cons h0 _ hx =>
      obtain ⟨n0, h0⟩ := h0
      obtain ⟨x0, rfl, k0⟩ := dty_cels h0
      cases hx with
      | cons h1 _ hx =>
        obtain ⟨n1, h1⟩ := h1
        obtain ⟨x1, rfl, k1⟩ := dty_cnd h1
        cases hx with
        | cons h2 _ hx =>
          obtain ⟨n2, h2⟩ := h2
          obtain ⟨x2, rfl, k2⟩ := dty_ints h2
          cases hx with
          | cons h3 _ hx =>
            obtain ⟨n3, h3⟩ := h3
            obtain ⟨x3, rfl, k3⟩ := dty_ints h3
            cases hx
            exact law6_ac x0 k0 x1 k1 x2 x3 k2 k3 [] globs rfl _ rfl
theorem closedEncodeFolding : joinedFacts Tryd.prog 6 Tryd.f6 Rows.encodeFoldingSpec Rows.encodeFoldingRow = true := by
  rw [joinedFacts, mayEnter, liftsFinal, makes]
  kernel_rfl
theorem encodeFolding_said : Rows.EncodeFoldingSaid :=
  OpenClaim.holds_of_wide 6 Tryd.f6 rfl rfl rfl rfl rfl rfl rfl ⟨rfl, rfl, rfl, rfl, rfl⟩ rfl rfl rfl rfl rfl (by kernel_rfl) Tryd.func6 closedEncodeFolding
    (of_decide_eq_true (by kernel_rfl)) (by unfold Func.isWrapper; first | (rw [if_pos (by decide +kernel)]; kernel_rfl) | (rw [if_neg (by decide +kernel)]; exact ⟨rfl, rfl⟩))
    (fun os started H enc _ => liftedEncodeFolding os started H enc)
theorem encodeFolding_holds : Rows.EncodeFoldingCardSaid :=
  Claim7.holds_tied_plain_at .later [] [.data] true (true, "72c9db1a6ec1e694200300a047bfb27b2dd7b2f9f23a1f4a062271b7d63cbd0c") true
    encodeFolding_said (fun _ h => by cases h) (by kernel_rfl) (fun _ h => by cases h) encodeFolding_row_tie rfl ⟨rfl, rfl⟩ (by kernel_rfl) rfl
    (fun f fn hf hfn => by
      obtain rfl : f = 6 := Option.some.inj ((show Tryd.prog.funcNamed "relyguard/relyguardlaw22.EncodeFolding" = some 6 by kernel_rfl).symm.trans hf) |>.symm
      obtain rfl : fn = Tryd.f6 := (Option.some.inj (Tryd.func6.symm.trans hfn)).symm
      exact ⟨by kernel_rfl, fun j t ht => by
        rw [Tryd.params6] at ht
        have hm : t ∈ [22, 27, 28, 28] := by simpa using Array.mem_of_getElem? ht
        have hall : ([22, 27, 28, 28].all fun u => !Tryd.prog.wantsStandIn u) = true := by kernel_rfl
        exact (show Tryd.prog.wantsStandIn t = false by simpa using List.all_eq_true.1 hall t hm)⟩)
    (by kernel_rfl)
#print axioms encodeFolding_holds
end Go.Proofs.YtkjlefahpdconaaDoor
end PartR6
