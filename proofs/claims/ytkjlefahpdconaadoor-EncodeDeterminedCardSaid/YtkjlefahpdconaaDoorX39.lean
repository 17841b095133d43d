import Derived.Test.YtkjlefahpdconaaDoorX38
import Derived.Test.YtkjlefahpdconaaDoorX37
import Derived.Test.YtkjlefahpdconaaDoorRA
import Derived.Test.YtkjlefahpdconaaDoorX31
import Derived.Test.YtkjlefahpdconaaDoorCards
import Derived.Test.YtkjlefahpdconaaDoorTie

section PartD14
/- Law 22.3: determined. -/
set_option linter.unusedSimpArgs false
set_option linter.unusedVariables false
set_option maxRecDepth 100000
namespace Go.Proofs.YtkjlefahpdconaaDoor
open Go Go.Ab

theorem sumL_bd {cs : List Cel} : ∀ (l : List Int) (n : Int), (∀ i ∈ l, 1 ≤ wOf cs i.toNat ∧ wOf cs i.toNat ≤ 8) → n ≤ sumL cs l n ∧ sumL cs l n ≤ n + 8 * l.length
  | [], n, h => by simp [sumL]
  | i :: l, n, h => by
    have h1 := h i (List.mem_cons_self ..)
    have h2 := sumL_bd l (n + wOf cs i.toNat) fun j hj => h j (List.mem_cons_of_mem _ hj)
    have e : sumL cs (i :: l) n = sumL cs l (n + wOf cs i.toNat) := by simp [sumL]
    rw [e, List.length_cons]; omega
theorem occ_idx {cs : List Cel} {hy go : Ex} (E : Enc cs hy go) {o : Int} (ho : o = 2 ∨ o = 3) : ∀ i ∈ idxL (occB cs hy go o) cs.length, 0 ≤ i ∧ i < cs.length ∧ 1 ≤ wOf cs i.toNat ∧ wOf cs i.toNat ≤ 8 := fun i hi => by
  obtain ⟨h1, h2, h3⟩ := idxL_mem hi
  have := E.width ho h3
  exact ⟨h1, h2, this⟩
theorem flat_bools : ∀ l : List Bool, flat (l.map D.bool) = l.map fun x => A.d (.bool x)
  | [] => rfl
  | x :: l => by rw [List.map_cons, flat_cons, flat_bools l]; rfl
set_option maxHeartbeats 32000000 in
theorem law3_ac (cs : List Cel) (hc : cs.length ≤ reachBytes) (c : Cnd) (hok : c.Ok) (old now : List Int) (ho : old.length ≤ reachBytes) (hn : now.length ≤ reachBytes) (v : Nat) (hv : v ≤ 65535) (ot : List Bool) (hot : ot.length ≤ reachBytes) (σ : St) (G : Glob) (hG : G.g 0 = some masksD) (R : A → St → Prop) (h : R (db true) σ) : AC Tryd.prog G 3 [.d (celsD cs), .d (cndD c), dL old, dL now, .d (.int .u16 v), .d (bsD ot)] σ R := by
  refine ac_enterC' [4, 5, 10, 12, 16, 20, 21, 24, 26, 29, 33] mixed Tryd.func3 rfl Tryd.ntmps3 (by simp only [go_sem]) fun hbd => ?_
  simp only [List.length_cons, List.length_nil, Nat.reduceAdd, Nat.reduceSub, List.replicate_succ, List.replicate_zero, List.cons_append, List.nil_append]
  simp only [cndD, go_sem]
  refine ac' (head_ac _ _ hG _ ?_)
  simp only [go_sem]
  refine aw_cut (fun fr st => (encR cs c = true ∧ old.length ≤ 50 ∧ now.length ≤ 50) ∧ fr = [.d (celsD cs), .any, dL old, dL now, .d (.int .u16 v), .d (bsD ot), .any, .ref σ.length 0, .any, .any, .any, .any, .any, db true, .any, .any, .any, .any, .any, .any, .any, .any, .any, .any, .any, .any, .any, .any, .any, .any, .any, .any, .any, .any, .any, .any, .any, .any, .any, .any, .any, .any, .any, .any, .any, .any, .any, .any, .any, .any, .any, .any, .any, .any, .any, .any, .any, .any, .any, .any, .any, .any, .any, .any, .any, .any, .any, .any, .any, .any, .any, .any, .any, .any, .any, .any, .any, .any, .any, .any, .any, .any, .any, .any, .any, .any, .any, .any, .any, .any, .any, .any, .any, .any, .any, .any, .any, .any, .any, .any, .any, .any, .any, .any, .any, .any, .any, .any, .any, .any, .any, .any, .any, .any, .any, .any, .any, .any, .any, .any, .any, .any, .any, .any, .any, .any, .any, .any, .any, .any, .any, .any, .any, .any, .any, .any, .any, .any, .any, .any, .any, .any, .any, .any, .any, .any, .any, .any, .any, .any, .any, .any, .any, .any, .any, .any, .any, .any, .any, .any, .any, .any, .any, .any, .any, .any, .any, .any, .any, .any, .any, .any, .any, .any, .any, .any, .any, .any, .any, .any, .any, .any, .any, .any, .any, .any, .any, .any, .any, .any, .any, .any, .any, .any, .any, .any, .any, .any, .any, .any, .any, .any, .any, .any, .any, .any, .any, .any, .any, .any, .any, .any, .any, .any, .any, .any] ∧ st = σ ++ [cdO c]) ?_ ?_
  · simp only [go_sem]
    rw [← cndD]
    refine ac' (lsmall_ac cs hc c hok 60 (by omega) _ _ _ ?_)
    cases hB : (smallR cs c 60 && encR cs c)
    · simp only [dL, isD, go_sem, Bool.not_false, Tryd.results3]
      exact ret_d hbd h
    have he : encR cs c = true := by rw [Bool.and_eq_true] at hB; exact hB.2
    simp only [dL, isD, go_sem, Bool.not_true, List.length_map, Tryd.results3]
    refine ⟨fun q => ret_d hbd h, fun q => ?_⟩
    simp only [Bool.false_or, Bool.or_eq_false_iff, decide_eq_false_iff_not, Bool.or_eq_true, not_or] at q
    refine Wk.mask [0, 2, 3, 4, 5, 7, 13] ⟨⟨he, ?_, ?_⟩, rfl, rfl⟩
    · omega
    · omega
  rintro fr st ⟨⟨he, ho5, hn5⟩, rfl, rfl⟩
  have E := enc_of he
  have hsz := neg_sizes he
  rcases neg_cases he with ⟨root, gs, ht, hn1, hext⟩ | ⟨-, hn1, -⟩
  · have t := E.tr ht
    have hfine := t.fine
    have hfit := t.good.fit.1
    have hcl := E.len
    have hsums := E.sums
    have hfl := t.len
    have hml : ∀ x ∈ mostC (firstV cs c.hyp c.goal) gs, x.length ≤ reachBytes := fun x hx => reach_le (Nat.le_trans (most_short x hx) (by omega))
    have hmean := E.meaning (old := old) (now := now) t
    have hvl : (extV cs c.hyp c.goal old now gs).length = firstV cs c.hyp c.goal + gs.length := ext_len
    have hpos := t.good.pos
    -- the changed assignment
    have hch : ∀ k, k < firstV cs c.hyp c.goal + gs.length → k = 0 ∨ firstV cs c.hyp c.goal ≤ k → evalC ⟨((firstV cs c.hyp c.goal + gs.length : Nat) : Int), mostC (firstV cs c.hyp c.goal) gs⟩ ((extV cs c.hyp c.goal old now gs).set k (!(extV cs c.hyp c.goal old now gs).getD k false)) = false := fun k hk hk2 => by
      rw [Bool.eq_false_iff]
      intro hq
      exact E.changed t.good.ok hvl hmean.1 (by omega) hk2 (t.most.1 hq)
    -- what satisfies the gates is an extension
    have hdet : ∀ T : List Bool, T.length = firstV cs c.hyp c.goal + gs.length → evalC ⟨((firstV cs c.hyp c.goal + gs.length : Nat) : Int), mostC (firstV cs c.hyp c.goal) gs⟩ T = true → extV cs c.hyp c.goal (decS cs (lO cs c.hyp c.goal) T) (decS cs (lN cs c.hyp c.goal) T) gs = T := fun T hT hq => E.det t.good.ok hT (t.most.1 hq)
    obtain ⟨V, hV⟩ : ∃ V, extV cs c.hyp c.goal old now gs = V := ⟨_, rfl⟩
    obtain ⟨N, hN⟩ : ∃ N, firstV cs c.hyp c.goal + gs.length = N := ⟨_, rfl⟩
    obtain ⟨M, hM⟩ : ∃ M, mostC (firstV cs c.hyp c.goal) gs = M := ⟨_, rfl⟩
    rw [hn1] at hsz
    rw [negF] at hn1 hfine hfl hsz
    simp only [hN, hM] at hn1 hfine hfl hsz hfit hdet hvl
    rw [hV] at hvl
    simp only [hN, hM, hV] at hch
    rw [hM] at hml
    refine aw_cut (fun fr st => fr = [.d (celsD cs), .any, dL old, dL now, .d (.int .u16 v), .d (bsD ot), .any, .ref σ.length 0, .any, .any, .any, .any, .any, db true, .ref (σ.length + 1) 0, di 0, .any, .any, .any, .any, .any, .any, .any, .any, .any, .any, .any, .any, .any, .any, .any, .any, .any, .any, .any, .any, .any, .any, .any, .any, .any, .any, .any, .any, .any, .any, .any, .any, .any, .any, .any, .any, .any, .any, .any, .any, .any, .any, .any, .any, .any, .any, .any, .any, .any, .any, .any, .any, .any, .any, .any, .any, .any, .any, .any, .any, .any, .any, .any, .any, .any, .any, .any, .any, .any, .any, .any, .any, .any, .any, .any, .any, .any, .any, .any, .any, .any, .any, .any, .any, .any, .any, .any, .any, .any, .any, .any, .any, .any, .any, .any, .any, .any, .any, .any, .any, .any, .any, .any, .any, .any, .any, .any, .any, .any, .any, .any, .any, .any, .any, .any, .any, .any, .any, .any, .any, .any, .any, .any, .any, .any, .any, .any, .any, .any, .any, .any, .any, .any, .any, .any, .any, .any, .any, .any, .any, .any, .any, .any, .any, .any, .any, .any, .any, .any, .any, .any, .any, .any, .any, .any, .any, .any, .any, .any, .any, .any, .any, .any, .any, .any, .any, .any, .any, .any, .any, .any, .any, .any, .any, .any, .any, .any, .any, .any, .any, .any, .any, .any, .any, .any, .any, .any, .any, .any, .any, .any, .any, .any, .any, .any, .any, .any, .any, .any, .any] ∧ st = σ ++ [cdO c, some (.cells [dn N, .d (clsD (M ++ [[root]]))])]) ?_ ?_
    · simp only [go_sem]
      rw [← cndD]
      refine ac' (neg_ac cs c hok he _ _ hG _ ?_)
      rw [hn1]
      simp only [cnfD, go_sem]
      exact Wk.mask [0, 2, 3, 4, 5, 7, 13, 14, 15] ⟨by simp only [go_sem], by simp only [go_sem]⟩
    rintro fr st ⟨rfl, rfl⟩
    simp only [go_sem, Int.reduceBEq]
    rw [← cndD]
    refine ac' (ext_ac cs c hok he old now ho hn _ _ hG _ ?_)
    rw [hext, hV]
    simp only [go_sem, Int.reduceBEq]
    refine aw_cut (fun fr st => fr = [.d (celsD cs), .any, .any, .any, .d (.int .u16 v), .d (bsD ot), .any, .ref σ.length 0, .any, .any, .any, .any, .any, db true, .ref (σ.length + 1) 0, .any, .d (bsD V), .any, .any, .any, .any, .any, .any, .any, .any, .any, .any, .any, .any, .any, .any, .any, .any, .any, .any, .any, .any, .any, .any, .any, .any, .any, .any, .any, .any, .any, .any, .any, .any, .any, .any, .any, .any, .any, .any, .any, .any, .any, .any, .any, .any, .any, .any, .any, .any, .any, .any, .any, .any, .any, .any, .any, .any, .any, .any, .any, .any, .any, .any, .any, .any, .any, .any, .any, .any, .any, .any, .any, .any, .any, .any, .any, .any, .any, .any, .any, .any, .any, .any, .any, .any, .any, .any, .any, .any, .any, .any, .any, .any, .any, .any, .any, .any, .any, .any, .any, .any, .any, .any, .any, .any, .any, .any, .any, .any, .any, .any, .any, .any, .any, .any, .any, .any, .any, .any, .any, .any, .any, .any, .any, .any, .any, .any, .any, .any, .any, .any, .any, .any, .any, .any, .any, .any, .any, .any, .any, .any, .any, .any, .any, .any, .any, .any, .any, .any, .any, .any, .any, .any, .any, .any, .any, .any, .any, .any, .any, .any, .any, .any, .any, .any, .any, .any, .any, .any, .any, .any, .any, .any, .any, .any, .any, .any, .any, .any, .any, .any, .any, .any, .any, .any, .any, .any, .any, .any, .any, .any, .any, .any, .any, .any, .any, .any, .any, .any, .any] ∧ st = σ ++ [cdO c, some (.cells [dn N, .d (clsD (M ++ [[root]]))])]) ?_ ?_
    · simp only [go_sem, Int.reduceBNe]
      refine exs ⟨fun _ => ?_, fun h => Bool.noConfusion h⟩
      simp only [go_sem, Int.reduceBNe]
      refine ac' (fine_ac ⟨N, M ++ [[root]]⟩ (reach_le (Nat.le_trans hsz.1 (by omega))) (fun x hx => reach_le (Nat.le_trans (hsz.2 x hx) (by omega))) _ _ _ ?_)
      rw [hfine]
      have e1 : ((N : Int) != (N : Int)) = false := by simp
      simp only [bsD, go_sem, List.length_map, hvl, Bool.not_true, Int.reduceBNe, e1, Tryd.results3]
      exact Wk.mask [0, 4, 5, 7, 13, 14, 16] ⟨by simp only [go_sem], by simp only [go_sem]⟩
    rintro fr st ⟨rfl, rfl⟩
    simp only [go_sem]
    have oa := occ_idx E (.inr rfl)
    have ob := occ_idx E (.inl rfl)
    have la := idxL_len (occB cs c.hyp c.goal 3) cs.length
    have lb := idxL_len (occB cs c.hyp c.goal 2) cs.length
    refine aw_cut (fun fr st => fr = [.d (celsD cs), .any, .any, .any, .d (.int .u16 v), .d (bsD ot), .any, .ref σ.length 0, .any, .any, .any, .any, .any, db true, .ref (σ.length + 1) 0, .any, .d (bsD V), .any, di 1, dL (idxL (occB cs c.hyp c.goal 3) cs.length), dL (idxL (occB cs c.hyp c.goal 2) cs.length), .any, .any, .any, .any, .any, .any, .any, .any, .any, .any, .any, .any, .any, .any, .any, .any, .any, .any, .any, .any, .any, .any, .any, .any, .any, .any, .any, .any, .any, .any, .any, .any, .any, .any, .any, .any, .any, .any, .any, .any, .any, .any, .any, .any, .any, .any, .any, .any, .any, .any, .any, .any, .any, .any, .any, .any, .any, .any, .any, .any, .any, .any, .any, .any, .any, .any, .any, .any, .any, .any, .any, .any, .any, .any, .any, .any, .any, .any, .any, .any, .any, .any, .any, .any, .any, .any, .any, .any, .any, .any, .any, .any, .any, .any, .any, .any, .any, .any, .any, .any, .any, .any, .any, .any, .any, .any, .any, .any, .any, .any, .any, .any, .any, .any, .any, .any, .any, .any, .any, .any, .any, .any, .any, .any, .any, .any, .any, .any, .any, .any, .any, .any, .any, .any, .any, .any, .any, .any, .any, .any, .any, .any, .any, .any, .any, .any, .any, .any, .any, .any, .any, .any, .any, .any, .any, .any, .any, .any, .any, .any, .any, .any, .any, .any, .any, .any, .any, .any, .any, .any, .any, .any, .any, .any, .any, .any, .any, .any, .any, .any, .any, .any, .any, .any, .any, .any, .any, .any, .any, .any, .any, .any, .any, .any, .any] ∧ st = σ ++ [cdO c, some (.cells [dn N, .d (clsD (M ++ [[root]]))])]) ?_ ?_
    · simp only [go_sem]
      rw [← cndD]
      refine ac' (occur_ac cs c hok E _ _ _ ?_)
      simp only [go_sem]
      exact Wk.mask [0, 4, 5, 7, 13, 14, 16, 18, 19, 20] ⟨by simp only [go_sem], by simp only [go_sem]⟩
    rintro fr st ⟨rfl, rfl⟩
    generalize hA : idxL (occB cs c.hyp c.goal 3) cs.length = LA at *
    generalize hB : idxL (occB cs c.hyp c.goal 2) cs.length = LB at *
    generalize hfst : firstV cs c.hyp c.goal = first at *
    refine aw_cut (fun fr st => fr = [.d (celsD cs), .any, .any, .any, .d (.int .u16 v), .d (bsD ot), .any, .ref σ.length 0, .any, .any, .any, .any, .any, db true, .ref (σ.length + 1) 0, .any, .d (bsD V), .any, di (sumL cs LA 1), .any, dL LB, .any, .any, .any, .any, .any, .any, .any, .any, .any, .any, .any, .any, .any, .any, .any, .any, .any, .any, .any, .any, .any, .any, .any, .any, .any, .any, .any, .any, .any, .any, .any, .any, .any, .any, .any, .any, .any, .any, .any, .any, .any, .any, .any, .any, .any, .any, .any, .any, .any, .any, .any, .any, .any, .any, .any, .any, .any, .any, .any, .any, .any, .any, .any, .any, .any, .any, .any, .any, .any, .any, .any, .any, .any, .any, .any, .any, .any, .any, .any, .any, .any, .any, .any, .any, .any, .any, .any, .any, .any, .any, .any, .any, .any, .any, .any, .any, .any, .any, .any, .any, .any, .any, .any, .any, .any, .any, .any, .any, .any, .any, .any, .any, .any, .any, .any, .any, .any, .any, .any, .any, .any, .any, .any, .any, .any, .any, .any, .any, .any, .any, .any, .any, .any, .any, .any, .any, .any, .any, .any, .any, .any, .any, .any, .any, .any, .any, .any, .any, .any, .any, .any, .any, .any, .any, .any, .any, .any, .any, .any, .any, .any, .any, .any, .any, .any, .any, .any, .any, .any, .any, .any, .any, .any, .any, .any, .any, .any, .any, .any, .any, .any, .any, .any, .any, .any, .any, .any, .any, .any, .any, .any, .any, .any, .any, .any] ∧ st = σ ++ [cdO c, some (.cells [dn N, .d (clsD (M ++ [[root]]))])]) ?_ ?_
    · simp only [dL, isD, celsD, go_sem]
      refine aw_loop (fun m fr st => ∃ j : Nat, j ≤ LA.length ∧ m = LA.length - j ∧ fr = [.d (.sl 6 (cs.map celD)), .any, .any, .any, .d (.int .u16 v), .d (bsD ot), .any, .ref σ.length 0, .any, .any, .any, .any, .any, db true, .ref (σ.length + 1) 0, .any, .d (bsD V), .any, di (sumL cs (LA.take j) 1), .d (.sl 1 (LA.map iD)), .d (.sl 1 (LB.map iD)), dn j, .any, .any, .any, .any, .any, .any, .any, .any, .any, .any, .any, .any, .any, .any, .any, .any, .any, .any, .any, .any, .any, .any, .any, .any, .any, .any, .any, .any, .any, .any, .any, .any, .any, .any, .any, .any, .any, .any, .any, .any, .any, .any, .any, .any, .any, .any, .any, .any, .any, .any, .any, .any, .any, .any, .any, .any, .any, .any, .any, .any, .any, .any, .any, .any, .any, .any, .any, .any, .any, .any, .any, .any, .any, .any, .any, .any, .any, .any, .any, .any, .any, .any, .any, .any, .any, .any, .any, .any, .any, .any, .any, .any, .any, .any, .any, .any, .any, .any, .any, .any, .any, .any, .any, .any, .any, .any, .any, .any, .any, .any, .any, .any, .any, .any, .any, .any, .any, .any, .any, .any, .any, .any, .any, .any, .any, .any, .any, .any, .any, .any, .any, .any, .any, .any, .any, .any, .any, .any, .any, .any, .any, .any, .any, .any, .any, .any, .any, .any, .any, .any, .any, .any, .any, .any, .any, .any, .any, .any, .any, .any, .any, .any, .any, .any, .any, .any, .any, .any, .any, .any, .any, .any, .any, .any, .any, .any, .any, .any, .any, .any, .any, .any, .any, .any, .any, .any, .any, .any, .any, .any, .any, .any, .any, .any] ∧ st = σ ++ [cdO c, some (.cells [dn N, .d (clsD (M ++ [[root]]))])]) LA.length _ (Wk.mask [0, 4, 5, 7, 13, 14, 16, 18, 19, 20, 21] ⟨0, by omega, rfl, rfl, rfl⟩) ?_
      rintro m fr st ⟨j, hj, hm, rfl, rfl⟩
      rcases Nat.lt_or_ge j LA.length with hlt | hge
      · have hd : decide ((j : Int) < (LA.length : Int)) = true := by simp; omega
        have e1 := getD_isD (l := LA) (j := j) (by omega)
        obtain ⟨r1, r2, r3, r4⟩ := oa _ (getD_mem 0 hlt)
        have hsn := sumL_snoc cs (LA.take j) (LA.getD j 0) 1
        rw [← take_snoc 0 hlt] at hsn
        have hbd1 := sumL_bd (cs := cs) (LA.take j) 1 (fun i hi => (oa i (List.mem_of_mem_take hi)).2.2)
        rw [List.length_take] at hbd1
        have w1 := wrapS j (by omega)
        generalize LA.getD j 0 = q at *
        have e2 := celD_at (l := cs) (j := q.toNat) (by omega)
        simp only [celD] at e2
        have e3 : (cs.getD q.toNat cel0).w = wOf cs q.toNat := rfl
        rw [e3] at e2
        have w2 : IntKind.i64.wrap (sumL cs (LA.take j) 1 + wOf cs q.toNat) = sumL cs (LA.take (j + 1)) 1 := by
          rw [hsn, wrap64_id _ (by omega) (by omega)]
        simp only [go_sem, hd, e1, e2, w1, w2, List.length_map, Int.toNat_natCast, Nat.mul_one]
        exact ⟨⟨by omega, by omega⟩, ⟨by omega, by omega⟩, Wk.mask [0, 4, 5, 7, 13, 14, 16, 18, 19, 20, 21] ⟨LA.length - (j + 1), by omega, j + 1, by omega, rfl, rfl, rfl⟩⟩
      · have hd : decide ((j : Int) < (LA.length : Int)) = false := by simp; omega
        obtain rfl : j = LA.length := by omega
        rw [List.take_length]
        simp only [go_sem, hd, List.length_map]
        exact Wk.mask [0, 4, 5, 7, 13, 14, 16, 18, 20] ⟨by simp only [go_sem, dL, isD, celsD], by simp only [go_sem]⟩
    rintro fr st ⟨rfl, rfl⟩
    have hbdA := sumL_bd (cs := cs) LA 1 (fun i hi => (oa i hi).2.2)
    generalize sumL cs LA 1 = sa at *
    refine aw_cut (fun fr st => fr = [.d (celsD cs), .any, .any, .any, .d (.int .u16 v), .d (bsD ot), .any, .ref σ.length 0, .any, .any, .any, .any, .any, db true, .ref (σ.length + 1) 0, .any, .d (bsD V), .any, di first, .any, .any, .any, .any, .any, .any, .any, .any, .any, .any, .any, .any, .any, .any, .any, .any, .any, .any, .any, .any, .any, .any, .any, .any, .any, .any, .any, .any, .any, .any, .any, .any, .any, .any, .any, .any, .any, .any, .any, .any, .any, .any, .any, .any, .any, .any, .any, .any, .any, .any, .any, .any, .any, .any, .any, .any, .any, .any, .any, .any, .any, .any, .any, .any, .any, .any, .any, .any, .any, .any, .any, .any, .any, .any, .any, .any, .any, .any, .any, .any, .any, .any, .any, .any, .any, .any, .any, .any, .any, .any, .any, .any, .any, .any, .any, .any, .any, .any, .any, .any, .any, .any, .any, .any, .any, .any, .any, .any, .any, .any, .any, .any, .any, .any, .any, .any, .any, .any, .any, .any, .any, .any, .any, .any, .any, .any, .any, .any, .any, .any, .any, .any, .any, .any, .any, .any, .any, .any, .any, .any, .any, .any, .any, .any, .any, .any, .any, .any, .any, .any, .any, .any, .any, .any, .any, .any, .any, .any, .any, .any, .any, .any, .any, .any, .any, .any, .any, .any, .any, .any, .any, .any, .any, .any, .any, .any, .any, .any, .any, .any, .any, .any, .any, .any, .any, .any, .any, .any, .any, .any, .any, .any, .any, .any, .any, .any, .any] ∧ st = σ ++ [cdO c, some (.cells [dn N, .d (clsD (M ++ [[root]]))])]) ?_ ?_
    · simp only [dL, isD, celsD, go_sem]
      refine aw_loop (fun m fr st => ∃ j : Nat, j ≤ LB.length ∧ m = LB.length - j ∧ fr = [.d (.sl 6 (cs.map celD)), .any, .any, .any, .d (.int .u16 v), .d (bsD ot), .any, .ref σ.length 0, .any, .any, .any, .any, .any, db true, .ref (σ.length + 1) 0, .any, .d (bsD V), .any, di (sumL cs (LB.take j) sa), .any, .d (.sl 1 (LB.map iD)), .any, dn j, .any, .any, .any, .any, .any, .any, .any, .any, .any, .any, .any, .any, .any, .any, .any, .any, .any, .any, .any, .any, .any, .any, .any, .any, .any, .any, .any, .any, .any, .any, .any, .any, .any, .any, .any, .any, .any, .any, .any, .any, .any, .any, .any, .any, .any, .any, .any, .any, .any, .any, .any, .any, .any, .any, .any, .any, .any, .any, .any, .any, .any, .any, .any, .any, .any, .any, .any, .any, .any, .any, .any, .any, .any, .any, .any, .any, .any, .any, .any, .any, .any, .any, .any, .any, .any, .any, .any, .any, .any, .any, .any, .any, .any, .any, .any, .any, .any, .any, .any, .any, .any, .any, .any, .any, .any, .any, .any, .any, .any, .any, .any, .any, .any, .any, .any, .any, .any, .any, .any, .any, .any, .any, .any, .any, .any, .any, .any, .any, .any, .any, .any, .any, .any, .any, .any, .any, .any, .any, .any, .any, .any, .any, .any, .any, .any, .any, .any, .any, .any, .any, .any, .any, .any, .any, .any, .any, .any, .any, .any, .any, .any, .any, .any, .any, .any, .any, .any, .any, .any, .any, .any, .any, .any, .any, .any, .any, .any, .any, .any, .any, .any, .any, .any, .any, .any, .any, .any, .any, .any, .any, .any, .any, .any] ∧ st = σ ++ [cdO c, some (.cells [dn N, .d (clsD (M ++ [[root]]))])]) LB.length _ (Wk.mask [0, 4, 5, 7, 13, 14, 16, 18, 20, 22] ⟨0, by omega, rfl, rfl, rfl⟩) ?_
      rintro m fr st ⟨j, hj, hm, rfl, rfl⟩
      rcases Nat.lt_or_ge j LB.length with hlt | hge
      · have hd : decide ((j : Int) < (LB.length : Int)) = true := by simp; omega
        have e1 := getD_isD (l := LB) (j := j) (by omega)
        obtain ⟨r1, r2, r3, r4⟩ := ob _ (getD_mem 0 hlt)
        have hsn := sumL_snoc cs (LB.take j) (LB.getD j 0) sa
        rw [← take_snoc 0 hlt] at hsn
        have hbd1 := sumL_bd (cs := cs) (LB.take j) sa (fun i hi => (ob i (List.mem_of_mem_take hi)).2.2)
        rw [List.length_take] at hbd1
        have w1 := wrapS j (by omega)
        generalize LB.getD j 0 = q at *
        have e2 := celD_at (l := cs) (j := q.toNat) (by omega)
        simp only [celD] at e2
        have e3 : (cs.getD q.toNat cel0).w = wOf cs q.toNat := rfl
        rw [e3] at e2
        have w2 : IntKind.i64.wrap (sumL cs (LB.take j) sa + wOf cs q.toNat) = sumL cs (LB.take (j + 1)) sa := by
          rw [hsn, wrap64_id _ (by omega) (by omega)]
        simp only [go_sem, hd, e1, e2, w1, w2, List.length_map, Int.toNat_natCast, Nat.mul_one]
        exact ⟨⟨by omega, by omega⟩, ⟨by omega, by omega⟩, Wk.mask [0, 4, 5, 7, 13, 14, 16, 18, 20, 22] ⟨LB.length - (j + 1), by omega, j + 1, by omega, rfl, rfl, rfl⟩⟩
      · have hd : decide ((j : Int) < (LB.length : Int)) = false := by simp; omega
        obtain rfl : j = LB.length := by omega
        rw [List.take_length, hsums]
        simp only [go_sem, hd, List.length_map]
        exact Wk.mask [0, 4, 5, 7, 13, 14, 16, 18] ⟨by simp only [go_sem, celsD], by simp only [go_sem]⟩
    rintro fr st ⟨rfl, rfl⟩
    have ht1 : List.take M.length ((M ++ [[root]]).map isD) = M.map isD := by rw [List.map_append, List.take_left' (by simp)]
    have w1 : IntKind.i64.wrap (((M.length + 1 : Nat) : Int) - 1) = (M.length : Nat) := by
      simp only [List.length_append, List.length_cons, List.length_nil] at hfl
      rw [wrap64_id _ (by omega) (by omega)]; omega
    refine aw_cut (fun fr st => fr = [.d (celsD cs), .any, .any, .any, .d (.int .u16 v), .d (bsD ot), .any, .ref σ.length 0, .any, .any, .any, .any, .any, db true, .ref (σ.length + 1) 0, .any, .d (bsD V), .any, di first, .any, .any, .any, .any, .ref (σ.length + 2) 0, .any, .any, .any, .any, .any, .any, .any, .any, .any, .any, .any, .any, .any, .any, .any, .any, .any, .any, .any, .any, .any, .any, .any, .any, .any, .any, .any, .any, .any, .any, .any, .any, .any, .any, .any, .any, .any, .any, .any, .any, .any, .any, .any, .any, .any, .any, .any, .any, .any, .any, .any, .any, .any, .any, .any, .any, .any, .any, .any, .any, .any, .any, .any, .any, .any, .any, .any, .any, .any, .any, .any, .any, .any, .any, .any, .any, .any, .any, .any, .any, .any, .any, .any, .any, .any, .any, .any, .any, .any, .any, .any, .any, .any, .any, .any, .any, .any, .any, .any, .any, .any, .any, .any, .any, .any, .any, .any, .any, .any, .any, .any, .any, .any, .any, .any, .any, .any, .any, .any, .any, .any, .any, .any, .any, .any, .any, .any, .any, .any, .any, .any, .any, .any, .any, .any, .any, .any, .any, .any, .any, .any, .any, .any, .any, .any, .any, .any, .any, .any, .any, .any, .any, .any, .any, .any, .any, .any, .any, .any, .any, .any, .any, .any, .any, .any, .any, .any, .any, .any, .any, .any, .any, .any, .any, .any, .any, .any, .any, .any, .any, .any, .any, .any, .any, .any, .any, .any, .any, .any, .any, .any, .any] ∧ st = σ ++ [cdO c, some (.cells [dn N, .d (clsD (M ++ [[root]]))]), some (.cells [dn N, .d (clsD M)])]) ?_ ?_
    · simp only [go_sem]
      refine aw_plan (.tk 12 0 <| .done) (by kernel_rfl) ?_
      simp only [clsD, go_sem, List.length_map, List.length_append, List.length_cons, List.length_nil, Nat.zero_add, w1]
      rw [ht1]
      exact ⟨⟨by omega, by omega, by omega⟩, Wk.mask [0, 4, 5, 7, 13, 14, 16, 18, 23] ⟨by simp only [go_sem], by simp only [go_sem]⟩⟩
    rintro fr st ⟨rfl, rfl⟩
    obtain ⟨k, hk⟩ : ∃ k, v % N = k := ⟨_, rfl⟩
    have hkN : k < N := by rw [← hk]; exact Nat.mod_lt _ (by omega)
    obtain ⟨W, hW⟩ : ∃ W, V.set k (!V.getD k false) = W := ⟨_, rfl⟩
    have hWl : W.length = N := by rw [← hW, List.length_set]; exact hvl
    have hchk := hch k hkN
    rw [hW] at hchk
    have hmod : Int.tmod (v : Int) (N : Int) = (k : Int) := by
      rw [Int.tmod_eq_emod_of_nonneg (by omega), ← hk]; simp
    have wv : IntKind.i64.wrap (v : Int) = (v : Int) := wrap64_id _ (by omega) (by omega)
    simp only [bsD, go_sem, hmod, wv, List.length_map, hvl]
    refine ⟨⟨by simp only [maxLen]; omega, by omega⟩, by omega, ?_⟩
    refine aw_cut (fun fr st => fr = [.d (celsD cs), .any, .any, .any, .any, .d (bsD ot), .any, .ref σ.length 0, .any, .any, .any, .any, .any, db true, .ref (σ.length + 1) 0, .any, .d (bsD V), .any, di first, .any, .any, .any, .any, .ref (σ.length + 2) 0, .d (bsD W), dn k, .any, .any, .any, .any, .any, .any, .any, .any, .any, .any, .any, .any, .any, .any, .any, .any, .any, .any, .any, .any, .any, .any, .any, .any, .any, .any, .any, .any, .any, .any, .any, .any, .any, .any, .any, .any, .any, .any, .any, .any, .any, .any, .any, .any, .any, .any, .any, .any, .any, .any, .any, .any, .any, .any, .any, .any, .any, .any, .any, .any, .any, .any, .any, .any, .any, .any, .any, .any, .any, .any, .any, .any, .any, .any, .any, .any, .any, .any, .any, .any, .any, .any, .any, .any, .any, .any, .any, .any, .any, .any, .any, .any, .any, .any, .any, .any, .any, .any, .any, .any, .any, .any, .any, .any, .any, .any, .any, .any, .any, .any, .any, .any, .any, .any, .any, .any, .any, .any, .any, .any, .any, .any, .any, .any, .any, .any, .any, .any, .any, .any, .any, .any, .any, .any, .any, .any, .any, .any, .any, .any, .any, .any, .any, .any, .any, .any, .any, .any, .any, .any, .any, .any, .any, .any, .any, .any, .any, .any, .any, .any, .any, .any, .any, .any, .any, .any, .any, .any, .any, .any, .any, .any, .any, .any, .any, .any, .any, .any, .any, .any, .any, .any, .any, .any, .any, .any, .any, .any, .any, .any] ∧ st = σ ++ [cdO c, some (.cells [dn N, .d (clsD (M ++ [[root]]))]), some (.cells [dn N, .d (clsD M)])]) ?_ ?_
    · have hfl2 := flat_bools V
      have hg := getD_boolsA (l := V) (k := k) (by omega)
      have hsp := splice_boolsA (l := V) (j := k) (!V.getD k false) (by omega)
      rw [hW] at hsp
      simp only [go_sem, List.length_map, hvl, Int.toNat_natCast, hfl2, Nat.mul_one, Nat.zero_add, hg, hsp]
      refine ⟨⟨by omega, by omega⟩, by omega, ⟨by omega, by omega⟩, by omega, ?_⟩
      refine Wk.pre [0, 5, 7, 13, 14, 16, 18, 23, 24, 25] ?_
      refine Wk.frz 4 1 0 (W.map D.bool) rfl (lies_map D.bool (fun _ => ⟨rfl, rfl⟩) _) ?_
      simp only [go_sem, List.length_map, hWl, hvl, List.set_cons_succ, List.set_cons_zero, and_self, if_true]
      exact Wk.keep [0, 5, 7, 13, 14, 16, 18, 23, 24, 25] [0, 1, 2] (by decide) (Nat.le_refl _) hbd ⟨by simp only [go_sem, bsD], by simp only [go_sem]⟩
    rintro fr st ⟨rfl, rfl⟩
    have hMl : M.length ≤ reachBytes := reach_le (by simp only [List.length_append] at hfl; omega)
    refine aw_cut (fun fr st => fr = [.d (celsD cs), .any, .any, .any, .any, .d (bsD ot), .any, .ref σ.length 0, .any, .any, .any, .any, .any, db true, .ref (σ.length + 1) 0, .any, .d (bsD V), .any, .any, .any, .any, .any, .any, .ref (σ.length + 2) 0, .d (bsD W), .any, .any, .any, .any, .any, .any, .any, .any, .any, .any, .any, .any, .any, .any, .any, .any, .any, .any, .any, .any, .any, .any, .any, .any, .any, .any, .any, .any, .any, .any, .any, .any, .any, .any, .any, .any, .any, .any, .any, .any, .any, .any, .any, .any, .any, .any, .any, .any, .any, .any, .any, .any, .any, .any, .any, .any, .any, .any, .any, .any, .any, .any, .any, .any, .any, .any, .any, .any, .any, .any, .any, .any, .any, .any, .any, .any, .any, .any, .any, .any, .any, .any, .any, .any, .any, .any, .any, .any, .any, .any, .any, .any, .any, .any, .any, .any, .any, .any, .any, .any, .any, .any, .any, .any, .any, .any, .any, .any, .any, .any, .any, .any, .any, .any, .any, .any, .any, .any, .any, .any, .any, .any, .any, .any, .any, .any, .any, .any, .any, .any, .any, .any, .any, .any, .any, .any, .any, .any, .any, .any, .any, .any, .any, .any, .any, .any, .any, .any, .any, .any, .any, .any, .any, .any, .any, .any, .any, .any, .any, .any, .any, .any, .any, .any, .any, .any, .any, .any, .any, .any, .any, .any, .any, .any, .any, .any, .any, .any, .any, .any, .any, .any, .any, .any, .any, .any, .any, .any, .any, .any, .any] ∧ st = σ ++ [cdO c, some (.cells [dn N, .d (clsD (M ++ [[root]]))]), some (.cells [dn N, .d (clsD M)])]) ?_ ?_
    · have hkk : k = 0 ∨ (k ≠ 0 ∧ first ≤ k) ∨ (k ≠ 0 ∧ ¬ first ≤ k) := by omega
      rcases hkk with hk0 | ⟨hk0, hk1⟩ | ⟨hk0, hk1⟩
      · have b1 : ((k : Int) == 0) = true := by rw [beq_iff_eq]; omega
        simp only [go_sem, b1]
        refine exs ⟨fun _ => ?_, fun h => Bool.noConfusion h⟩
        simp only [go_sem]
        refine ac' (ceval_ac ⟨N, M⟩ W hMl hml (reach_le (by omega)) _ _ _ ?_)
        rw [hchk (.inl hk0)]
        simp only [go_sem, Tryd.results3]
        exact Wk.mask [0, 5, 7, 13, 14, 16, 23, 24] ⟨by simp only [go_sem], by simp only [go_sem]⟩
      · have b1 : ((k : Int) == 0) = false := by rw [beq_eq_false_iff_ne]; omega
        have b2 : decide ((first : Int) ≤ (k : Int)) = true := by simp; omega
        simp only [go_sem, b1, b2]
        refine exs ⟨fun _ => ?_, fun h => Bool.noConfusion h⟩
        simp only [go_sem]
        refine ac' (ceval_ac ⟨N, M⟩ W hMl hml (reach_le (by omega)) _ _ _ ?_)
        rw [hchk (.inr hk1)]
        simp only [go_sem, Tryd.results3]
        exact Wk.mask [0, 5, 7, 13, 14, 16, 23, 24] ⟨by simp only [go_sem], by simp only [go_sem]⟩
      · have b1 : ((k : Int) == 0) = false := by rw [beq_eq_false_iff_ne]; omega
        have b2 : decide ((first : Int) ≤ (k : Int)) = false := by simp; omega
        simp only [go_sem, b1, b2]
        refine ex' (.bool true) ⟨fun q => ?_, ?_⟩
        · exact Bool.noConfusion q
        simp only [go_sem, b1, b2, Tryd.results3]
        exact Wk.mask [0, 5, 7, 13, 14, 16, 23, 24] ⟨by simp only [go_sem], by simp only [go_sem]⟩
    rintro fr st ⟨rfl, rfl⟩
    simp only [bsD, go_sem]
    refine aw_cut (fun fr st => ∃ L : List (List Bool), (∀ T ∈ L, T.length = N) ∧ L.length ≤ 3 ∧ fr = [.d (celsD cs), .any, .any, .any, .any, .any, .any, .ref σ.length 0, .any, .any, .any, .any, .any, db true, .any, .any, .any, .any, .any, .any, .any, .any, .any, .ref (σ.length + 1) 0, .any, .any, .d (.sl 1 (L.map bsD)), .any, .any, .any, .any, .any, .any, .any, .any, .any, .any, .any, .any, .any, .any, .any, .any, .any, .any, .any, .any, .any, .any, .any, .any, .any, .any, .any, .any, .any, .any, .any, .any, .any, .any, .any, .any, .any, .any, .any, .any, .any, .any, .any, .any, .any, .any, .any, .any, .any, .any, .any, .any, .any, .any, .any, .any, .any, .any, .any, .any, .any, .any, .any, .any, .any, .any, .any, .any, .any, .any, .any, .any, .any, .any, .any, .any, .any, .any, .any, .any, .any, .any, .any, .any, .any, .any, .any, .any, .any, .any, .any, .any, .any, .any, .any, .any, .any, .any, .any, .any, .any, .any, .any, .any, .any, .any, .any, .any, .any, .any, .any, .any, .any, .any, .any, .any, .any, .any, .any, .any, .any, .any, .any, .any, .any, .any, .any, .any, .any, .any, .any, .any, .any, .any, .any, .any, .any, .any, .any, .any, .any, .any, .any, .any, .any, .any, .any, .any, .any, .any, .any, .any, .any, .any, .any, .any, .any, .any, .any, .any, .any, .any, .any, .any, .any, .any, .any, .any, .any, .any, .any, .any, .any, .any, .any, .any, .any, .any, .any, .any, .any, .any, .any, .any, .any, .any, .any, .any, .any] ∧ st = σ ++ [cdO c, some (.cells [dn N, .d (clsD M)])]) ?_ ?_
    · simp only [go_sem, List.length_map]
      rcases Nat.lt_or_ge ot.length N with hlt | hge
      · have b1 : decide ((N : Int) ≤ (ot.length : Int)) = false := by simp; omega
        simp only [go_sem, b1]
        refine Wk.pre [0, 7, 13, 23, 26] ?_
        refine Wk.frz 3 1 0 [bsD V, bsD W] rfl (lies_map bsD (fun _ => ⟨rfl, rfl⟩) [V, W]) ?_
        simp only [go_sem, List.length_cons, List.length_nil, List.set_cons_succ, List.set_cons_zero, and_self, if_true]
        refine Wk.keep [0, 7, 13, 23, 26] [0, 2] (by decide) (Nat.le_refl _) hbd ⟨[V, W], ?_, by simp, by simp only [go_sem, List.map_cons, List.map_nil], by simp only [go_sem]⟩
        intro T hT
        simp only [List.mem_cons, List.not_mem_nil, or_false] at hT
        rcases hT with rfl | rfl
        · exact hvl
        · exact hWl
      · have b1 : decide ((N : Int) ≤ (ot.length : Int)) = true := by simp; omega
        simp only [go_sem, b1, List.length_map]
        have htk : List.take N (ot.map D.bool) = (ot.take N).map D.bool := (List.map_take ..).symm
        rw [htk]
        refine ⟨⟨by omega, by omega, by omega⟩, by simp only [maxLen]; omega, ?_⟩
        refine Wk.pre [0, 7, 13, 23, 26] ?_
        refine Wk.frz 5 1 0 [bsD V, bsD W, bsD (ot.take N)] rfl (lies_map bsD (fun _ => ⟨rfl, rfl⟩) [V, W, ot.take N]) ?_
        simp only [go_sem, List.length_cons, List.length_nil, List.set_cons_succ, List.set_cons_zero, and_self, if_true]
        refine Wk.keep [0, 7, 13, 23, 26] [0, 2] (by decide) (Nat.le_refl _) hbd ⟨[V, W, ot.take N], ?_, by simp, by simp only [go_sem, List.map_cons, List.map_nil], by simp only [go_sem]⟩
        intro T hT
        simp only [List.mem_cons, List.not_mem_nil, or_false] at hT
        rcases hT with rfl | rfl | rfl
        · exact hvl
        · exact hWl
        · rw [List.length_take]; omega
    rintro fr st ⟨L, hLT, hL3, rfl, rfl⟩
    simp only [go_sem]
    refine aw_loop (fun m fr st => ∃ j : Nat, j ≤ L.length ∧ m = L.length - j ∧ fr = [.d (celsD cs), .any, .any, .any, .any, .any, .any, .ref σ.length 0, .any, .any, .any, .any, .any, db true, .any, .any, .any, .any, .any, .any, .any, .any, .any, .ref (σ.length + 1) 0, .any, .any, .d (.sl 1 (L.map bsD)), dn j, .any, .any, .any, .any, .any, .any, .any, .any, .any, .any, .any, .any, .any, .any, .any, .any, .any, .any, .any, .any, .any, .any, .any, .any, .any, .any, .any, .any, .any, .any, .any, .any, .any, .any, .any, .any, .any, .any, .any, .any, .any, .any, .any, .any, .any, .any, .any, .any, .any, .any, .any, .any, .any, .any, .any, .any, .any, .any, .any, .any, .any, .any, .any, .any, .any, .any, .any, .any, .any, .any, .any, .any, .any, .any, .any, .any, .any, .any, .any, .any, .any, .any, .any, .any, .any, .any, .any, .any, .any, .any, .any, .any, .any, .any, .any, .any, .any, .any, .any, .any, .any, .any, .any, .any, .any, .any, .any, .any, .any, .any, .any, .any, .any, .any, .any, .any, .any, .any, .any, .any, .any, .any, .any, .any, .any, .any, .any, .any, .any, .any, .any, .any, .any, .any, .any, .any, .any, .any, .any, .any, .any, .any, .any, .any, .any, .any, .any, .any, .any, .any, .any, .any, .any, .any, .any, .any, .any, .any, .any, .any, .any, .any, .any, .any, .any, .any, .any, .any, .any, .any, .any, .any, .any, .any, .any, .any, .any, .any, .any, .any, .any, .any, .any, .any, .any, .any, .any, .any] ∧ st = σ ++ [cdO c, some (.cells [dn N, .d (clsD M)])]) L.length _ (Wk.mask [0, 7, 13, 23, 26, 27] ⟨0, by omega, rfl, rfl, rfl⟩) ?_
    rintro m fr st ⟨j, hj, hm, rfl, rfl⟩
    rcases Nat.lt_or_ge j L.length with hlt | hge
    · have hd : decide ((j : Int) < (L.length : Int)) = true := by simp; omega
      have e1 : List.getD (L.map bsD) j default = bsD (L.getD j []) := getD_mapD hlt
      have hTN := hLT _ (getD_mem [] hlt)
      have w1 := wrapS j (by omega)
      generalize L.getD j [] = T at *
      have hdT := hdet T hTN
      simp only [bsD] at e1
      simp only [go_sem, hd, List.length_map]
      refine aw_cut (fun fr st => evalC ⟨N, M⟩ T = true ∧ fr = [.d (celsD cs), .any, .any, .any, .any, .any, .any, .ref σ.length 0, .any, .any, .any, .any, .any, db true, .any, .any, .any, .any, .any, .any, .any, .any, .any, .ref (σ.length + 1) 0, .any, .any, .d (.sl 1 (L.map bsD)), dn j, .any, .any, .any, .any, .any, .any, .any, .any, .any, .any, .any, .any, .any, .any, .any, .any, .any, .any, .any, .any, .any, .any, .any, .any, .any, .any, .any, .any, .any, .any, .any, .any, .any, .any, .any, .any, .any, .any, .any, .any, .any, .any, .any, .any, .any, .any, .any, .any, .any, .any, .any, .any, .any, .any, .any, .any, .any, .any, .any, .any, .any, .any, .any, .any, .any, .any, .any, .any, .any, .any, .any, .any, .any, .any, .any, .any, .any, .any, .any, .any, .any, .any, .any, .any, .any, .any, .any, .any, .any, .any, .any, .any, .any, .any, .any, .any, .any, .any, .any, .any, .any, .any, .any, .any, .any, .any, .any, .any, .any, .any, .any, .any, .any, .any, .any, .any, .any, .any, .any, .any, .any, .any, .any, .any, .any, .any, .any, .any, .any, .any, .any, .any, .any, .any, .any, .any, .any, .any, .any, .any, .any, .any, .any, .any, .any, .any, .any, .any, .any, .any, .any, .any, .any, .any, .any, .any, .any, .any, .any, .any, .any, .any, .any, .any, .any, .any, .any, .any, .any, .any, .any, .any, .any, .any, .any, .any, .any, .any, .any, .any, .any, .any, .any, .any, .any, .any, .any, .any] ∧ st = σ ++ [cdO c, some (.cells [dn N, .d (clsD M)])]) ?_ ?_
      · simp only [go_sem]
        refine aw_plan (.tk 5 0 <| .pure 5 <| .take 6 <| .done) (by kernel_rfl) ?_
        simp only [bsD, go_sem, e1, List.length_map, Int.toNat_natCast]
        refine ⟨⟨by omega, by omega⟩, exP (db (evalC ⟨N, M⟩ T)) ⟨fun σ' => ac' (ceval_ac ⟨N, M⟩ T hMl hml (reach_le (by omega)) _ _ _ ⟨rfl, rfl⟩), ?_⟩⟩
        simp only [go_sem, w1]
        refine ⟨fun q => Wk.mask [0, 7, 13, 23, 26, 27] ⟨L.length - (j + 1), by omega, j + 1, by omega, rfl, rfl, rfl⟩, fun q => Wk.mask [0, 7, 13, 23, 26, 27] ⟨by simpa using q, by simp only [go_sem], by simp only [go_sem]⟩⟩
      rintro fr st ⟨hT1, rfl, rfl⟩
      have hxt := hdT hT1
      simp only [go_sem]
      refine aw_plan (.tk 6 0 <| .pure 6 <| .tk 5 7 <| .done) (by kernel_rfl) ?_
      simp only [bsD, go_sem, e1, List.length_map, Int.toNat_natCast]
      refine ⟨⟨by omega, by omega⟩, exP (.tup [dL (decS cs (lO cs c.hyp c.goal) T), dL (decS cs (lN cs c.hyp c.goal) T)]) ⟨fun σ' => ?_, ?_⟩⟩
      · rw [← cndD]
        exact ac' (dec_ac cs c hok he T (reach_le (by omega)) _ _ hG _ ⟨rfl, rfl⟩)
      have hXl := decS_len (cs := cs) (vs := T) (lO cs c.hyp c.goal)
      have hYl := decS_len (cs := cs) (vs := T) (lN cs c.hyp c.goal)
      generalize decS cs (lO cs c.hyp c.goal) T = X at *
      generalize decS cs (lN cs c.hyp c.goal) T = Y at *
      simp only [go_sem]
      rw [← cndD]
      refine ac' (ext_ac cs c hok he X Y (by omega) (by omega) _ _ hG _ ?_)
      rw [hext, hxt]
      simp only [go_sem, e1, Int.reduceBNe, List.length_map, Int.toNat_natCast]
      refine ⟨⟨by omega, by omega⟩, exs ⟨fun _ => ?_, fun h => Bool.noConfusion h⟩⟩
      simp only [go_sem, e1]
      refine ac' (bools_ac T T (reach_le (by omega)) (reach_le (by omega)) _ _ _ ?_)
      simp only [go_sem, w1, decide_true, Bool.not_true, Tryd.results3]
      exact Wk.mask [0, 7, 13, 23, 26, 27] ⟨L.length - (j + 1), by omega, j + 1, by omega, rfl, rfl, rfl⟩
    · have hd : decide ((j : Int) < (L.length : Int)) = false := by simp; omega
      simp only [go_sem, hd, List.length_map, Tryd.results3]
      exact ret_d hbd h
  · refine aw_cut (fun fr st => fr = [.any, .any, .any, .any, .any, .any, .any, .any, .any, .any, .any, .any, .any, db true, .any, di 2, .any, .any, .any, .any, .any, .any, .any, .any, .any, .any, .any, .any, .any, .any, .any, .any, .any, .any, .any, .any, .any, .any, .any, .any, .any, .any, .any, .any, .any, .any, .any, .any, .any, .any, .any, .any, .any, .any, .any, .any, .any, .any, .any, .any, .any, .any, .any, .any, .any, .any, .any, .any, .any, .any, .any, .any, .any, .any, .any, .any, .any, .any, .any, .any, .any, .any, .any, .any, .any, .any, .any, .any, .any, .any, .any, .any, .any, .any, .any, .any, .any, .any, .any, .any, .any, .any, .any, .any, .any, .any, .any, .any, .any, .any, .any, .any, .any, .any, .any, .any, .any, .any, .any, .any, .any, .any, .any, .any, .any, .any, .any, .any, .any, .any, .any, .any, .any, .any, .any, .any, .any, .any, .any, .any, .any, .any, .any, .any, .any, .any, .any, .any, .any, .any, .any, .any, .any, .any, .any, .any, .any, .any, .any, .any, .any, .any, .any, .any, .any, .any, .any, .any, .any, .any, .any, .any, .any, .any, .any, .any, .any, .any, .any, .any, .any, .any, .any, .any, .any, .any, .any, .any, .any, .any, .any, .any, .any, .any, .any, .any, .any, .any, .any, .any, .any, .any, .any, .any, .any, .any, .any, .any, .any, .any, .any, .any, .any, .any, .any, .any] ∧ st = σ) ?_ ?_
    · simp only [go_sem]
      rw [← cndD]
      refine ac' (neg_ac cs c hok he _ _ hG _ ?_)
      rw [hn1]
      simp only [cnfD, go_sem]
      exact Wk.keep [13, 15] [] (by decide) (Nat.le_refl _) hbd ⟨by simp only [go_sem], by simp only [go_sem]⟩
    rintro fr st ⟨rfl, rfl⟩
    simp only [go_sem, Int.reduceBEq, Tryd.results3]
    exact ret_d0 h
end Go.Proofs.YtkjlefahpdconaaDoor
end PartD14

section PartR3
/- EncodeDetermined: the law answers true for every input, and leaves its input as it was. Its condition: the laid table holds what the text of the program lays (tied by the card). -/
set_option maxRecDepth 100000
set_option linter.unusedSimpArgs false
set_option linter.unusedVariables false
namespace Go.Proofs.YtkjlefahpdconaaDoor
open Go Go.Ab Go.RowKit Go.ChangeShapes Go.WideShapes
theorem liftedEncodeDetermined (os : Os) (started : os.Started) (H : Type) (enc : TypeId × Value → H) :
    ReturnsInHanded {} Tryd.checked os 3 .any (fun w args => (Rows.encodeDeterminedSpec.pre enc Tryd.prog Tryd.f3 [] false w args ∧ laidMetH Tryd.prog laid1 w) ∧ sizedMet enc Tryd.prog Tryd.f3 (OpenSpec.ofChange Rows.encodeDeterminedSpec) false w args)
      (Rows.encodeDeterminedSpec.post enc Tryd.prog Tryd.f3 false true false false) := by
  refine returnsInHanded_of_change_and (C := Tryd.checked) (X := fun w _ => laidMetH Tryd.prog laid1 w) (fun _ _ _ hh h => h.of_heap hh) own started (by kernel_rfl) Tryd.func3
    (ChangeSpec.witness_shaped (enc := enc) (C := Tryd.checked) (os := os) (X := fun w _ => laidMetH Tryd.prog laid1 w) false (World.doorLaid Tryd.prog 400 os) #[.slice none 0 0, .agg #[.string ⟨#[]⟩, .int .i64 0, .int .i64 0, .int .i64 0, .int .i64 0, .int .i64 0, .int .i64 0, .int .i64 0, .int .i64 0, .slice none 0 0, .int .i64 0, .int .i64 0, .int .i64 0, .slice none 0 0], .slice none 0 0, .slice none 0 0, .int .u16 0, .slice none 0 0] 8 rfl (World.shaped_of_RefB (by kernel_rfl) (by kernel_rfl)) (by kernel_rfl) (by kernel_rfl) (by kernel_rfl) (door_met os _)) ?_
  intro W base args ds gs before hval hW _ hz hL _
  refine calls_true (G := globs) (S := [3, 4, 9, 22, 23, 25, 27, 28, 29, 30, 45]) (tb := 4) hW hval (by kernel_rfl) (by rw [Tryd.params3]; kernel_rfl) (by kernel_rfl) (by rw [Tryd.params3]; kernel_rfl) rfl (by kernel_rfl) Tryd.underlying4 (fun ds hds => ?_) (globs_rep hL) hz (fun xs hx => ?_)
  · rw [Tryd.params3] at hds
    match ds, hds with
    | [d0, d1, d2, d3, d4, d5], _ => rfl
  · skip
    rw [Tryd.params3] at hx
    generalize args.toList = vs at hx
    cases hx with
    | cons h0 _ hx =>
      obtain ⟨n0, h0⟩ := h0
      obtain ⟨x0, rfl, k0⟩ := dty_cels h0
      cases hx with
      | cons h1 _ hx =>
        obtain ⟨n1, h1⟩ := h1
        obtain ⟨x1, rfl, k1⟩ := dty_cnd h1
        cases hx with
        | cons h2 _ hx =>
          obtain ⟨n2, h2⟩ := h2
          obtain ⟨x2, rfl, k2⟩ := dty_ints h2
          cases hx with
          | cons h3 _ hx =>
            obtain ⟨n3, h3⟩ := h3
            obtain ⟨x3, rfl, k3⟩ := dty_ints h3
            cases hx with
            | cons h4 _ hx =>
              obtain ⟨n4, h4⟩ := h4
              obtain ⟨x4, rfl, k4⟩ := dty_u16 h4
              cases hx with
              | cons h5 _ hx =>
                obtain ⟨n5, h5⟩ := h5
                obtain ⟨x5, rfl, k5⟩ := dty_bools h5
                cases hx
                exact law3_ac x0 k0 x1 k1 x2 x3 k2 k3 x4 k4 x5 k5 [] globs rfl _ rfl
theorem closedEncodeDetermined : joinedFacts Tryd.prog 3 Tryd.f3 Rows.encodeDeterminedSpec Rows.encodeDeterminedRow = true := by
  rw [joinedFacts, mayEnter, liftsFinal, makes]
  kernel_rfl
theorem encodeDetermined_said : Rows.EncodeDeterminedSaid :=
  OpenClaim.holds_of_wide 3 Tryd.f3 rfl rfl rfl rfl rfl rfl rfl ⟨rfl, rfl, rfl, rfl, rfl⟩ rfl rfl rfl rfl rfl (by kernel_rfl) Tryd.func3 closedEncodeDetermined
    (of_decide_eq_true (by kernel_rfl)) (by unfold Func.isWrapper; first | (rw [if_pos (by decide +kernel)]; kernel_rfl) | (rw [if_neg (by decide +kernel)]; exact ⟨rfl, rfl⟩))
    (fun os started H enc _ => liftedEncodeDetermined os started H enc)
theorem encodeDetermined_holds : Rows.EncodeDeterminedCardSaid :=
  Claim7.holds_tied_plain_at .later [] [.data] true (true, "72c9db1a6ec1e694200300a047bfb27b2dd7b2f9f23a1f4a062271b7d63cbd0c") true
    encodeDetermined_said (fun _ h => by cases h) (by kernel_rfl) (fun _ h => by cases h) encodeDetermined_row_tie rfl ⟨rfl, rfl⟩ (by kernel_rfl) rfl
    (fun f fn hf hfn => by
      obtain rfl : f = 3 := Option.some.inj ((show Tryd.prog.funcNamed "relyguard/relyguardlaw22.EncodeDetermined" = some 3 by kernel_rfl).symm.trans hf) |>.symm
      obtain rfl : fn = Tryd.f3 := (Option.some.inj (Tryd.func3.symm.trans hfn)).symm
      exact ⟨by kernel_rfl, fun j t ht => by
        rw [Tryd.params3] at ht
        have hm : t ∈ [22, 27, 28, 28, 29, 30] := by simpa using Array.mem_of_getElem? ht
        have hall : ([22, 27, 28, 28, 29, 30].all fun u => !Tryd.prog.wantsStandIn u) = true := by kernel_rfl
        exact (show Tryd.prog.wantsStandIn t = false by simpa using List.all_eq_true.1 hall t hm)⟩)
    (by kernel_rfl)
#print axioms encodeDetermined_holds
end Go.Proofs.YtkjlefahpdconaaDoor
end PartR3
