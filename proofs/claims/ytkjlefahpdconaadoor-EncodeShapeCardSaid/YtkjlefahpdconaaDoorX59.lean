import Derived.Test.YtkjlefahpdconaaDoorX58
import Derived.Test.YtkjlefahpdconaaDoorRA
import Derived.Test.YtkjlefahpdconaaDoorX51
import Derived.Test.YtkjlefahpdconaaDoorCards
import Derived.Test.YtkjlefahpdconaaDoorTie

section PartD11
/- Law 22.6: shape. -/
set_option linter.unusedSimpArgs false
set_option linter.unusedVariables false
set_option maxRecDepth 100000
namespace Go.Proofs.YtkjlefahpdconaaDoor
open Go Go.Ab

theorem pick_ne {a n : Int} (hn : 0 < n) (h : a = -n) : a ≠ n := by omega
theorem rng1 {a n : Int} (h2 : a < n) : decide (n ≤ a) = false := by simp; omega
theorem rng2 {a n : Int} (h1 : -n < a) : decide (a ≤ -n) = false := by simp; omega
theorem pos_cast (n : Nat) : (0 : Int) < ((n + 1 : Nat) : Int) := by omega
theorem heads_pick {a : Int} {n : Nat} (h : a = ((n + 1 : Nat) : Int) ∨ a = -((n + 1 : Nat) : Int)) : ((a == ((n + 1 : Nat) : Int)) = true) ∨ ((a == ((n + 1 : Nat) : Int)) = false ∧ (a == -((n + 1 : Nat) : Int)) = true) := by
  rcases h with h | h
  · exact .inl (by rw [beq_iff_eq]; exact h)
  · exact .inr ⟨by rw [beq_eq_false_iff_ne]; exact pick_ne (pos_cast n) h, by rw [beq_iff_eq]; exact h⟩
theorem heads_other {a : Int} {n : Nat} (h : a = ((n + 1 + 1 : Nat) : Int) ∨ a = -((n + 1 + 1 : Nat) : Int)) : ((a == ((n + 1 : Nat) : Int)) = false) ∧ (a == -((n + 1 : Nat) : Int)) = false := by
  rw [beq_eq_false_iff_ne, beq_eq_false_iff_ne]; omega
def startK (mid first : Nat) (k : Nat) : Nat := if k = 0 then 1 else if k = 1 then mid else first
set_option maxHeartbeats 32000000 in
theorem law5_ac (cs : List Cel) (hc : cs.length ≤ reachBytes) (c : Cnd) (hok : c.Ok) (σ : St) (G : Glob) (hG : G.g 0 = some masksD) (R : A → St → Prop) (h : R (db true) σ) : AC Tryd.prog G 5 [.d (celsD cs), .d (cndD c)] σ R := by
  refine ac_enterC' [4, 5, 10, 24, 39, 20, 37, 29, 35] mixed Tryd.func5 rfl Tryd.ntmps5 (by simp only [go_sem]) fun hbd => ?_
  simp only [List.length_cons, List.length_nil, Nat.reduceAdd, Nat.reduceSub, List.replicate_succ, List.replicate_zero, List.cons_append, List.nil_append]
  simp only [cndD, go_sem]
  refine ac' (head_ac _ _ hG _ ?_)
  simp only [go_sem]
  refine aw_cut (fun fr st => encR cs c = true ∧ fr = [.d (celsD cs), .any, .any, .ref σ.length 0, .any, db true, .any, .any, .any, .any, .any, .any, .any, .any, .any, .any, .any, .any, .any, .any, .any, .any, .any, .any, .any, .any, .any, .any, .any, .any, .any, .any, .any, .any, .any, .any, .any, .any, .any, .any, .any, .any, .any, .any, .any, .any, .any, .any, .any, .any, .any, .any, .any, .any, .any, .any, .any, .any, .any, .any, .any, .any, .any, .any, .any, .any, .any, .any, .any, .any, .any, .any, .any, .any, .any, .any, .any, .any, .any, .any, .any, .any, .any, .any, .any, .any, .any, .any, .any, .any, .any, .any, .any, .any, .any, .any, .any, .any, .any, .any, .any, .any, .any, .any, .any, .any, .any, .any, .any, .any, .any, .any, .any, .any, .any, .any, .any, .any, .any, .any, .any, .any, .any, .any, .any, .any, .any, .any, .any, .any, .any, .any, .any, .any, .any, .any, .any, .any, .any, .any, .any, .any, .any, .any, .any, .any, .any, .any, .any, .any, .any, .any, .any, .any, .any, .any, .any, .any, .any, .any, .any, .any, .any, .any, .any, .any, .any, .any, .any, .any, .any, .any, .any, .any, .any, .any, .any, .any, .any, .any, .any, .any, .any, .any, .any, .any, .any, .any, .any, .any, .any, .any, .any, .any, .any, .any, .any, .any, .any, .any, .any, .any, .any, .any, .any, .any, .any, .any, .any] ∧ st = σ ++ [cdO c]) ?_ ?_
  · simp only [go_sem]
    rw [← cndD]
    refine ac' (lsmall_ac cs hc c hok 60 (by omega) _ _ _ ?_)
    cases hB : (smallR cs c 60 && encR cs c)
    · simp only [go_sem, Bool.not_false, Tryd.results5]
      exact ret_d hbd h
    have he : encR cs c = true := by rw [Bool.and_eq_true] at hB; exact hB.2
    simp only [go_sem, Bool.not_true, Tryd.results5]
    exact Wk.mask [0, 3, 5] ⟨he, rfl, rfl⟩
  rintro fr st ⟨he, rfl, rfl⟩
  have E := enc_of he
  have hsz := neg_sizes he
  rcases neg_cases he with ⟨root, gs, ht, hn, -⟩ | ⟨-, hn, -⟩
  · have t := E.tr ht
    have hfine := t.fine
    have hval := t.valid
    have hgr := grps (root := root) t.good.ok
    have hfit := t.good.fit.1
    have hcl := E.len
    obtain ⟨v, hsO⟩ := E.seqO
    obtain ⟨u, hsN⟩ := E.seqN
    have hC0 : (negF (firstV cs c.hyp c.goal) (root, gs)).cls.getD 0 [] = [1] := rfl
    have hC1 : (negF (firstV cs c.hyp c.goal) (root, gs)).cls.getD ((negF (firstV cs c.hyp c.goal) (root, gs)).cls.length - 1) [] = [root] := by
      simp [negF]
    have hCl : 2 ≤ (negF (firstV cs c.hyp c.goal) (root, gs)).cls.length := by simp [negF, mostC]
    obtain ⟨N, hN⟩ : ∃ N, firstV cs c.hyp c.goal + gs.length = N := ⟨_, rfl⟩
    have hFv : (negF (firstV cs c.hyp c.goal) (root, gs)).vars = (N : Nat) := by rw [← hN]; rfl
    rw [hn] at hsz
    rw [hN] at hfit
    generalize (fun k => 1 + (clsG (firstV cs c.hyp c.goal) (gs.take k)).length) = p at hgr
    generalize negF (firstV cs c.hyp c.goal) (root, gs) = F at *
    obtain ⟨fv, fc⟩ := F
    simp only at hFv hsz hgr hC0 hC1 hCl
    subst hFv
    refine aw_cut (fun fr st => fr = [.d (celsD cs), .any, .any, .ref σ.length 0, .any, db true, .ref (σ.length + 1) 0, di 0, .any, .any, .any, .any, .any, .any, .any, .any, .any, .any, .any, .any, .any, .any, .any, .any, .any, .any, .any, .any, .any, .any, .any, .any, .any, .any, .any, .any, .any, .any, .any, .any, .any, .any, .any, .any, .any, .any, .any, .any, .any, .any, .any, .any, .any, .any, .any, .any, .any, .any, .any, .any, .any, .any, .any, .any, .any, .any, .any, .any, .any, .any, .any, .any, .any, .any, .any, .any, .any, .any, .any, .any, .any, .any, .any, .any, .any, .any, .any, .any, .any, .any, .any, .any, .any, .any, .any, .any, .any, .any, .any, .any, .any, .any, .any, .any, .any, .any, .any, .any, .any, .any, .any, .any, .any, .any, .any, .any, .any, .any, .any, .any, .any, .any, .any, .any, .any, .any, .any, .any, .any, .any, .any, .any, .any, .any, .any, .any, .any, .any, .any, .any, .any, .any, .any, .any, .any, .any, .any, .any, .any, .any, .any, .any, .any, .any, .any, .any, .any, .any, .any, .any, .any, .any, .any, .any, .any, .any, .any, .any, .any, .any, .any, .any, .any, .any, .any, .any, .any, .any, .any, .any, .any, .any, .any, .any, .any, .any, .any, .any, .any, .any, .any, .any, .any, .any, .any, .any, .any, .any, .any, .any, .any, .any, .any, .any, .any, .any, .any, .any, .any] ∧ st = σ ++ [cdO c, fO ⟨N, fc⟩]) ?_ ?_
    · simp only [go_sem]
      rw [← cndD]
      refine ac' (neg_ac cs c hok he _ _ hG _ ?_)
      rw [hn]
      simp only [cnfD, go_sem]
      exact Wk.mask [0, 3, 5, 6, 7] ⟨by simp only [go_sem], by simp only [go_sem]⟩
    rintro fr st ⟨rfl, rfl⟩
    simp only [go_sem, Int.reduceBEq]
    rw [← cndD]
    refine ac' (lay_ac cs c hok he _ _ hG _ ?_)
    generalize lO cs c.hyp c.goal = L at *
    generalize lN cs c.hyp c.goal = M at *
    generalize hfirst : firstV cs c.hyp c.goal = first at *
    generalize (layO cs c.hyp c.goal).2 = mid at *
    have hLl := hsO.len
    have hMl := hsN.len
    simp only [go_sem, Int.reduceBEq]
    refine aw_cut (fun fr st => fr = [.d (celsD cs), .any, .any, .any, .any, db true, .ref σ.length 0, .any, dL L, dL M, .any, .any, .any, .any, .any, .any, .any, .any, .any, .any, .any, .any, .any, .any, .any, .any, .any, .any, .any, .any, .any, .any, .any, .any, .any, .any, .any, .any, .any, .any, .any, .any, .any, .any, .any, .any, .any, .any, .any, .any, .any, .any, .any, .any, .any, .any, .any, .any, .any, .any, .any, .any, .any, .any, .any, .any, .any, .any, .any, .any, .any, .any, .any, .any, .any, .any, .any, .any, .any, .any, .any, .any, .any, .any, .any, .any, .any, .any, .any, .any, .any, .any, .any, .any, .any, .any, .any, .any, .any, .any, .any, .any, .any, .any, .any, .any, .any, .any, .any, .any, .any, .any, .any, .any, .any, .any, .any, .any, .any, .any, .any, .any, .any, .any, .any, .any, .any, .any, .any, .any, .any, .any, .any, .any, .any, .any, .any, .any, .any, .any, .any, .any, .any, .any, .any, .any, .any, .any, .any, .any, .any, .any, .any, .any, .any, .any, .any, .any, .any, .any, .any, .any, .any, .any, .any, .any, .any, .any, .any, .any, .any, .any, .any, .any, .any, .any, .any, .any, .any, .any, .any, .any, .any, .any, .any, .any, .any, .any, .any, .any, .any, .any, .any, .any, .any, .any, .any, .any, .any, .any, .any, .any, .any, .any, .any, .any, .any, .any, .any] ∧ st = σ ++ [fO ⟨N, fc⟩]) ?_ ?_
    · simp only [go_sem, Int.reduceBNe]
      refine exs ⟨fun _ => ?_, fun h => Bool.noConfusion h⟩
      simp only [go_sem]
      refine ac' (fine_ac ⟨N, fc⟩ (reach_le (Nat.le_trans hsz.1 (by omega))) (fun x hx => reach_le (Nat.le_trans (hsz.2 x hx) (by omega))) _ _ _ ?_)
      rw [hfine]
      simp only [go_sem, Bool.not_true]
      refine exs ⟨fun _ => ?_, fun h => Bool.noConfusion h⟩
      simp only [go_sem]
      refine ac' (cvalid_ac ⟨N, fc⟩ (reach_le (Nat.le_trans hsz.1 (by omega))) (fun x hx => reach_le (Nat.le_trans (hsz.2 x hx) (by omega))) _ _ _ ?_)
      rw [hval]
      have b0 : ((cs.length : Int) != (cs.length : Int)) = false := by simp
      have g0 : List.getD (fc.map isD) 0 default = .sl 1 [iD 1] := by rw [getD_mapD (d := []) (by omega), hC0]; rfl
      have g1 : List.getD (fc.map isD) (fc.length - 1) default = .sl 1 [iD root] := by rw [getD_mapD (d := []) (by omega), hC1]; rfl
      have w1 : IntKind.i64.wrap ((fc.length : Int) - 1) = ((fc.length - 1 : Nat) : Int) := by
        rw [wrap64_id _ (by omega) (by omega)]; omega
      simp only [dL, isD, celsD, clsD, go_sem, Bool.not_true, List.length_map, hLl, hMl, b0, Tryd.results5]
      simp only [Int.toNat_zero, g0, go_sem]
      refine ⟨⟨by omega, by omega⟩, exs ⟨fun _ => ?_, fun h => Bool.noConfusion h⟩⟩
      simp only [Int.toNat_zero, g0, go_sem]
      refine ac' (ac_weak (Weak.deep [2] 6) ?_)
      simp only [Int.toNat_zero, g0, go_sem]
      refine sameInts_ac [1] [1] (by decide) (by decide) _ _ _ ?_
      simp only [clsD, go_sem, decide_true, Bool.not_true, List.length_map, w1, Int.toNat_natCast, g1, List.length_cons, List.length_nil, Nat.zero_add, Int.cast_ofNat_Int, Int.reduceBNe, Tryd.results5]
      refine ⟨⟨by omega, by omega⟩, ?_⟩
      refine Wk.pre [0, 5, 6, 8, 9] ?_
      exact Wk.keep [0, 5, 6, 8, 9] [1] (by decide) (Nat.le_refl _) hbd ⟨by simp only [go_sem, dL, isD, celsD], by simp only [go_sem]; rfl⟩
    rintro fr st ⟨rfl, rfl⟩
    simp only [go_sem]
    refine aw_cut (fun fr st => fr = [.any, .any, .any, .any, .any, db true, .ref σ.length 0, .any, .any, .any, dn (first + 1), .any, .any, .any, .any, .any, .any, .any, .any, .any, .any, .any, .any, .any, .any, .any, .any, .any, .any, .any, .any, .any, .any, .any, .any, .any, .any, .any, .any, .any, .any, .any, .any, .any, .any, .any, .any, .any, .any, .any, .any, .any, .any, .any, .any, .any, .any, .any, .any, .any, .any, .any, .any, .any, .any, .any, .any, .any, .any, .any, .any, .any, .any, .any, .any, .any, .any, .any, .any, .any, .any, .any, .any, .any, .any, .any, .any, .any, .any, .any, .any, .any, .any, .any, .any, .any, .any, .any, .any, .any, .any, .any, .any, .any, .any, .any, .any, .any, .any, .any, .any, .any, .any, .any, .any, .any, .any, .any, .any, .any, .any, .any, .any, .any, .any, .any, .any, .any, .any, .any, .any, .any, .any, .any, .any, .any, .any, .any, .any, .any, .any, .any, .any, .any, .any, .any, .any, .any, .any, .any, .any, .any, .any, .any, .any, .any, .any, .any, .any, .any, .any, .any, .any, .any, .any, .any, .any, .any, .any, .any, .any, .any, .any, .any, .any, .any, .any, .any, .any, .any, .any, .any, .any, .any, .any, .any, .any, .any, .any, .any, .any, .any, .any, .any, .any, .any, .any, .any, .any, .any, .any, .any, .any, .any, .any, .any, .any, .any, .any] ∧ st = σ ++ [fO ⟨N, fc⟩]) ?_ ?_
    · simp only [dL, isD, celsD, go_sem]
      have hmf := hsN.le 0 (by omega)
      rw [hsN.lo] at hmf
      refine aw_loop (fun m fr st => ∃ k : Nat, k ≤ 2 ∧ m = 2 - k ∧ fr = [.d (.sl 6 (cs.map celD)), .any, .any, .any, .any, db true, .ref σ.length 0, .any, .d (.sl 1 (L.map iD)), .d (.sl 1 (M.map iD)), dn (startK mid first k + 1), dn k, .any, .any, .any, .any, .any, .any, .any, .any, .any, .any, .any, .any, .any, .any, .any, .any, .any, .any, .any, .any, .any, .any, .any, .any, .any, .any, .any, .any, .any, .any, .any, .any, .any, .any, .any, .any, .any, .any, .any, .any, .any, .any, .any, .any, .any, .any, .any, .any, .any, .any, .any, .any, .any, .any, .any, .any, .any, .any, .any, .any, .any, .any, .any, .any, .any, .any, .any, .any, .any, .any, .any, .any, .any, .any, .any, .any, .any, .any, .any, .any, .any, .any, .any, .any, .any, .any, .any, .any, .any, .any, .any, .any, .any, .any, .any, .any, .any, .any, .any, .any, .any, .any, .any, .any, .any, .any, .any, .any, .any, .any, .any, .any, .any, .any, .any, .any, .any, .any, .any, .any, .any, .any, .any, .any, .any, .any, .any, .any, .any, .any, .any, .any, .any, .any, .any, .any, .any, .any, .any, .any, .any, .any, .any, .any, .any, .any, .any, .any, .any, .any, .any, .any, .any, .any, .any, .any, .any, .any, .any, .any, .any, .any, .any, .any, .any, .any, .any, .any, .any, .any, .any, .any, .any, .any, .any, .any, .any, .any, .any, .any, .any, .any, .any, .any, .any, .any, .any, .any, .any, .any, .any, .any, .any, .any, .any, .any, .any] ∧ st = σ ++ [fO ⟨N, fc⟩]) 2 _ (Wk.mask [0, 5, 6, 8, 9, 10, 11] ⟨0, by omega, rfl, rfl, rfl⟩) ?_
      rintro m fr st ⟨k, hk, hm, rfl, rfl⟩
      rcases Nat.lt_or_ge k 2 with hlt | hge
      · have hd : decide ((k : Int) < 2) = true := by simp; omega
        obtain ⟨P, v, hP, hPk⟩ : ∃ P v, Seqv cs P v (startK mid first k) (startK mid first (k + 1)) ∧ P = if k = 1 then M else L := by
          have : k = 0 ∨ k = 1 := by omega
          rcases this with rfl | rfl
          · exact ⟨L, v, hsO, rfl⟩
          · exact ⟨M, u, hsN, rfl⟩
        have hPl := hP.len
        have hPle := hP.le
        have hsk : startK mid first (k + 1) ≤ first := by
          have : k = 0 ∨ k = 1 := by omega
          rcases this with rfl | rfl
          · exact hmf
          · exact Nat.le_refl _
        simp only [go_sem, hd]
        have hlo := hP.lo
        refine aw_loop (fun m fr st => ∃ j : Nat, j ≤ cs.length ∧ m = cs.length - j ∧ fr = [.d (.sl 6 (cs.map celD)), .any, .any, .any, .any, db true, .ref σ.length 0, .any, .d (.sl 1 (L.map iD)), .d (.sl 1 (M.map iD)), dn (v j + 1), dn k, dn j, .any, .any, .any, .any, .any, .any, .any, .any, .any, .any, .any, .any, .any, .any, .any, .any, .any, .any, .any, .any, .any, .any, .any, .any, .any, .any, .any, .any, .any, .any, .any, .any, .any, .any, .any, .any, .any, .any, .any, .any, .any, .any, .any, .any, .any, .any, .any, .any, .any, .any, .any, .any, .any, .any, .any, .any, .any, .any, .any, .any, .any, .any, .any, .any, .any, .any, .any, .any, .any, .any, .any, .any, .any, .any, .any, .any, .any, .any, .any, .any, .any, .any, .any, .any, .any, .any, .any, .any, .any, .any, .any, .any, .any, .any, .any, .any, .any, .any, .any, .any, .any, .any, .any, .any, .any, .any, .any, .any, .any, .any, .any, .any, .any, .any, .any, .any, .any, .any, .any, .any, .any, .any, .any, .any, .any, .any, .any, .any, .any, .any, .any, .any, .any, .any, .any, .any, .any, .any, .any, .any, .any, .any, .any, .any, .any, .any, .any, .any, .any, .any, .any, .any, .any, .any, .any, .any, .any, .any, .any, .any, .any, .any, .any, .any, .any, .any, .any, .any, .any, .any, .any, .any, .any, .any, .any, .any, .any, .any, .any, .any, .any, .any, .any, .any, .any, .any, .any, .any, .any, .any, .any, .any, .any, .any, .any, .any] ∧ st = σ ++ [fO ⟨N, fc⟩]) cs.length _ (Wk.mask [0, 5, 6, 8, 9, 10, 11, 12] ⟨0, by omega, rfl, by rw [hlo]; rfl, rfl⟩) ?_
        rintro m fr st ⟨j, hj, hm, rfl, rfl⟩
        rcases Nat.lt_or_ge j cs.length with hlt2 | hge2
        · have hd2 : decide ((j : Int) < (cs.length : Int)) = true := by simp; omega
          have eL := getD_isD (l := L) (j := j) (by omega)
          have eM := getD_isD (l := M) (j := j) (by omega)
          simp only [go_sem, hd2, eL, List.length_map, Int.toNat_natCast]
          refine ⟨⟨by omega, by omega⟩, ?_⟩
          refine aw_cut (fun fr st => fr = [.d (.sl 6 (cs.map celD)), .any, .any, .any, .any, db true, .ref σ.length 0, .any, .d (.sl 1 (L.map iD)), .d (.sl 1 (M.map iD)), dn (v j + 1), dn k, dn j, di (P.getD j 0), .any, .any, .any, .any, .any, .any, .any, .any, .any, .any, .any, .any, .any, .any, .any, .any, .any, .any, .any, .any, .any, .any, .any, .any, .any, .any, .any, .any, .any, .any, .any, .any, .any, .any, .any, .any, .any, .any, .any, .any, .any, .any, .any, .any, .any, .any, .any, .any, .any, .any, .any, .any, .any, .any, .any, .any, .any, .any, .any, .any, .any, .any, .any, .any, .any, .any, .any, .any, .any, .any, .any, .any, .any, .any, .any, .any, .any, .any, .any, .any, .any, .any, .any, .any, .any, .any, .any, .any, .any, .any, .any, .any, .any, .any, .any, .any, .any, .any, .any, .any, .any, .any, .any, .any, .any, .any, .any, .any, .any, .any, .any, .any, .any, .any, .any, .any, .any, .any, .any, .any, .any, .any, .any, .any, .any, .any, .any, .any, .any, .any, .any, .any, .any, .any, .any, .any, .any, .any, .any, .any, .any, .any, .any, .any, .any, .any, .any, .any, .any, .any, .any, .any, .any, .any, .any, .any, .any, .any, .any, .any, .any, .any, .any, .any, .any, .any, .any, .any, .any, .any, .any, .any, .any, .any, .any, .any, .any, .any, .any, .any, .any, .any, .any, .any, .any, .any, .any, .any, .any, .any, .any, .any, .any, .any, .any] ∧ st = σ ++ [fO ⟨N, fc⟩]) ?_ ?_
          · simp only [go_sem]
            have h01 : k = 0 ∨ k = 1 := by omega
            rcases h01 with rfl | rfl
            · have b1 : (((0 : Nat) : Int) == 1) = false := by decide
              simp only [go_sem, b1]
              exact Wk.mask [0, 5, 6, 8, 9, 10, 11, 12, 13] ⟨by rw [hPk]; rfl, rfl⟩
            · have b1 : (((1 : Nat) : Int) == 1) = true := by decide
              simp only [go_sem, b1, eM, List.length_map]
              exact ⟨⟨by omega, by omega⟩, Wk.mask [0, 5, 6, 8, 9, 10, 11, 12, 13] ⟨by rw [hPk]; rfl, rfl⟩⟩
          rintro fr st ⟨rfl, rfl⟩
          have w1 := wrapS j (by omega)
          have hvj := hPle (j + 1) (by omega)
          rcases hP.step j hlt2 with ⟨q1, q2⟩ | ⟨q1, q2, q3⟩
          · have b1 : ((0 : Int) == 0) = true := by decide
            simp only [go_sem, q1, b1, w1]
            exact Wk.mask [0, 5, 6, 8, 9, 10, 11, 12] ⟨cs.length - (j + 1), by omega, j + 1, by omega, rfl, by rw [q2]; rfl, rfl⟩
          · have b1 : (((v j + 1 : Nat) : Int) == 0) = false := by rw [beq_eq_false_iff_ne]; omega
            have b2 : (((v j + 1 : Nat) : Int) != ((v j + 1 : Nat) : Int)) = false := by simp
            have e2 := celD_at (l := cs) (j := j) (by omega)
            simp only [celD] at e2
            have e3 : (cs.getD j cel0).w = wOf cs j := rfl
            rw [e3] at e2
            have w2 : IntKind.i64.wrap (((v j + 1 : Nat) : Int) + wOf cs j) = ((v (j + 1) + 1 : Nat) : Int) := by
              rw [wrap64_id _ (by omega) (by omega)]; omega
            simp only [go_sem, q1, b1, b2, e2, w1, w2, List.length_map, Int.toNat_natCast, Nat.mul_one]
            exact ⟨⟨by omega, by omega⟩, Wk.mask [0, 5, 6, 8, 9, 10, 11, 12] ⟨cs.length - (j + 1), by omega, j + 1, by omega, rfl, rfl, rfl⟩⟩
        · have hd2 : decide ((j : Int) < (cs.length : Int)) = false := by simp; omega
          obtain rfl : j = cs.length := by omega
          have w1 := wrapS k (by omega)
          simp only [go_sem, hd2, w1, List.length_map]
          exact Wk.mask [0, 5, 6, 8, 9, 10, 11] ⟨2 - (k + 1), by omega, k + 1, by omega, rfl, by rw [hP.hi]; rfl, rfl⟩
      · have hd : decide ((k : Int) < 2) = false := by simp; omega
        obtain rfl : k = 2 := by omega
        simp only [go_sem, hd]
        exact Wk.mask [5, 6, 10] ⟨rfl, rfl⟩
    rintro fr st ⟨rfl, rfl⟩
    simp only [go_sem]
    have hple := hgr.le
    have w0 : IntKind.i64.wrap ((fc.length : Int) - 1) = ((fc.length - 1 : Nat) : Int) := by
      rw [wrap64_id _ (by omega) (by omega)]; omega
    have hx : ∀ t, t < fc.length → List.getD (fc.map isD) t default = .sl 1 ((fc.getD t []).map iD) := fun t ht => by rw [getD_mapD (d := []) ht]; rfl
    refine aw_cut (fun fr st => fr = [.any, .any, .any, .any, .any, db true, .ref σ.length 0, .any, .any, .any, dn (N + 1), .any, .any, .any, .any, .any, .any, .any, .any, .any, .any, .any, .any, .any, .any, .any, .any, .any, .any, .any, .any, .any, .any, .any, .any, .any, .any, .any, .any, .any, .any, .any, .any, .any, .any, .any, .any, .any, .any, .any, .any, .any, .any, .any, .any, .any, .any, .any, .any, .any, .any, .any, .any, .any, .any, .any, .any, .any, .any, .any, .any, .any, .any, .any, .any, .any, .any, .any, .any, .any, .any, .any, .any, .any, .any, .any, .any, .any, .any, .any, .any, .any, .any, .any, .any, .any, .any, .any, .any, .any, .any, .any, .any, .any, .any, .any, .any, .any, .any, .any, .any, .any, .any, .any, .any, .any, .any, .any, .any, .any, .any, .any, .any, .any, .any, .any, .any, .any, .any, .any, .any, .any, .any, .any, .any, .any, .any, .any, .any, .any, .any, .any, .any, .any, .any, .any, .any, .any, .any, .any, .any, .any, .any, .any, .any, .any, .any, .any, .any, .any, .any, .any, .any, .any, .any, .any, .any, .any, .any, .any, .any, .any, .any, .any, .any, .any, .any, .any, .any, .any, .any, .any, .any, .any, .any, .any, .any, .any, .any, .any, .any, .any, .any, .any, .any, .any, .any, .any, .any, .any, .any, .any, .any, .any, .any, .any, .any, .any, .any] ∧ st = σ ++ [fO ⟨N, fc⟩]) ?_ ?_
    · simp only [clsD, go_sem]
      refine aw_loop (fun m fr st => ∃ k : Nat, k ≤ gs.length ∧ m = gs.length - k ∧ fr = [.any, .any, .any, .any, .any, db true, .ref σ.length 0, .any, .any, .any, dn (first + k + 1), .any, .any, .any, dn (p k), .any, .any, .any, .any, .any, .any, .any, .any, .any, .any, .any, .any, .any, .any, .any, .any, .any, .any, .any, .any, .any, .any, .any, .any, .any, .any, .any, .any, .any, .any, .any, .any, .any, .any, .any, .any, .any, .any, .any, .any, .any, .any, .any, .any, .any, .any, .any, .any, .any, .any, .any, .any, .any, .any, .any, .any, .any, .any, .any, .any, .any, .any, .any, .any, .any, .any, .any, .any, .any, .any, .any, .any, .any, .any, .any, .any, .any, .any, .any, .any, .any, .any, .any, .any, .any, .any, .any, .any, .any, .any, .any, .any, .any, .any, .any, .any, .any, .any, .any, .any, .any, .any, .any, .any, .any, .any, .any, .any, .any, .any, .any, .any, .any, .any, .any, .any, .any, .any, .any, .any, .any, .any, .any, .any, .any, .any, .any, .any, .any, .any, .any, .any, .any, .any, .any, .any, .any, .any, .any, .any, .any, .any, .any, .any, .any, .any, .any, .any, .any, .any, .any, .any, .any, .any, .any, .any, .any, .any, .any, .any, .any, .any, .any, .any, .any, .any, .any, .any, .any, .any, .any, .any, .any, .any, .any, .any, .any, .any, .any, .any, .any, .any, .any, .any, .any, .any, .any, .any, .any, .any, .any, .any, .any, .any] ∧ st = σ ++ [some (.cells [dn N, .d (.sl 1 (fc.map isD))])]) gs.length _ (Wk.mask [5, 6, 10, 14] ⟨0, by omega, rfl, by rw [hgr.lo]; rfl, rfl⟩) ?_
      rintro m fr st ⟨k, hk, hm, rfl, rfl⟩
      have hpk := hple k hk
      rcases Nat.lt_or_ge k gs.length with hlt | hge
      · have hpk1 := hple (k + 1) hlt
        have hsz1 := hgr.size k hlt
        have hdf := fun t => hgr.defs k t hlt
        have hd : decide (((p k : Nat) : Int) < ((fc.length - 1 : Nat) : Int)) = true := by simp; omega
        simp only [go_sem, w0, hd, List.length_map]
        refine aw_cut (fun fr st => fr = [.any, .any, .any, .any, .any, db true, .ref σ.length 0, .any, .any, .any, dn (first + k + 1), .any, .any, .any, dn (p (k + 1)), dn (p (k + 1) - p k), .any, .any, .any, .any, .any, .any, .any, .any, .any, .any, .any, .any, .any, .any, .any, .any, .any, .any, .any, .any, .any, .any, .any, .any, .any, .any, .any, .any, .any, .any, .any, .any, .any, .any, .any, .any, .any, .any, .any, .any, .any, .any, .any, .any, .any, .any, .any, .any, .any, .any, .any, .any, .any, .any, .any, .any, .any, .any, .any, .any, .any, .any, .any, .any, .any, .any, .any, .any, .any, .any, .any, .any, .any, .any, .any, .any, .any, .any, .any, .any, .any, .any, .any, .any, .any, .any, .any, .any, .any, .any, .any, .any, .any, .any, .any, .any, .any, .any, .any, .any, .any, .any, .any, .any, .any, .any, .any, .any, .any, .any, .any, .any, .any, .any, .any, .any, .any, .any, .any, .any, .any, .any, .any, .any, .any, .any, .any, .any, .any, .any, .any, .any, .any, .any, .any, .any, .any, .any, .any, .any, .any, .any, .any, .any, .any, .any, .any, .any, .any, .any, .any, .any, .any, .any, .any, .any, .any, .any, .any, .any, .any, .any, .any, .any, .any, .any, .any, .any, .any, .any, .any, .any, .any, .any, .any, .any, .any, .any, .any, .any, .any, .any, .any, .any, .any, .any, .any, .any, .any, .any, .any, .any, .any] ∧ st = σ ++ [some (.cells [dn N, .d (.sl 1 (fc.map isD))])]) ?_ ?_
        · simp only [go_sem]
          refine aw_loop (fun m fr st => ∃ t : Nat, p k ≤ t ∧ t ≤ p (k + 1) ∧ m = p (k + 1) - t ∧ fr = [.any, .any, .any, .any, .any, db true, .ref σ.length 0, .any, .any, .any, dn (first + k + 1), .any, .any, .any, dn t, dn (t - p k), .any, .any, .any, .any, .any, .any, .any, .any, .any, .any, .any, .any, .any, .any, .any, .any, .any, .any, .any, .any, .any, .any, .any, .any, .any, .any, .any, .any, .any, .any, .any, .any, .any, .any, .any, .any, .any, .any, .any, .any, .any, .any, .any, .any, .any, .any, .any, .any, .any, .any, .any, .any, .any, .any, .any, .any, .any, .any, .any, .any, .any, .any, .any, .any, .any, .any, .any, .any, .any, .any, .any, .any, .any, .any, .any, .any, .any, .any, .any, .any, .any, .any, .any, .any, .any, .any, .any, .any, .any, .any, .any, .any, .any, .any, .any, .any, .any, .any, .any, .any, .any, .any, .any, .any, .any, .any, .any, .any, .any, .any, .any, .any, .any, .any, .any, .any, .any, .any, .any, .any, .any, .any, .any, .any, .any, .any, .any, .any, .any, .any, .any, .any, .any, .any, .any, .any, .any, .any, .any, .any, .any, .any, .any, .any, .any, .any, .any, .any, .any, .any, .any, .any, .any, .any, .any, .any, .any, .any, .any, .any, .any, .any, .any, .any, .any, .any, .any, .any, .any, .any, .any, .any, .any, .any, .any, .any, .any, .any, .any, .any, .any, .any, .any, .any, .any, .any, .any, .any, .any, .any, .any, .any, .any] ∧ st = σ ++ [some (.cells [dn N, .d (.sl 1 (fc.map isD))])]) (p (k + 1) - p k) _ (Wk.mask [5, 6, 10, 14, 15] ⟨p k, by omega, by omega, rfl, by rw [Nat.sub_self]; rfl, rfl⟩) ?_
          rintro m fr st ⟨t, ht1, ht2, hm, rfl, rfl⟩
          have wn : IntKind.i64.wrap (0 - ((first + k + 1 : Nat) : Int)) = -((first + k + 1 : Nat) : Int) := by rw [wrap64_id _ (by omega) (by omega)]; omega
          rcases Nat.lt_or_ge t (p (k + 1)) with htl | htg
          · obtain ⟨d1, d2, d3, d4⟩ := hdf t ht1 htl
            have hxt := hx t (by omega)
            obtain ⟨x, hxx⟩ : ∃ x, fc.getD t [] = x := ⟨_, rfl⟩
            rw [hxx] at d1 d2 d3 d4 hxt
            have e0 := getD_isD (l := x) (j := 0) (by omega)
            have hd1 : decide ((t : Int) < ((fc.length - 1 : Nat) : Int)) = true := by simp; omega
            have hd2 : decide ((1 : Int) < (x.length : Int)) = true := by simp; omega
            have w1 := wrapS t (by omega)
            have w2 : IntKind.i64.wrap (((t - p k : Nat) : Int) + 1) = ((t + 1 - p k : Nat) : Int) := by
              rw [wrap64_id _ (by omega) (by omega)]; omega
            refine aw_cut (fun fr st => fr = [.any, .any, .any, .any, .any, db true, .ref σ.length 0, .any, .any, .any, dn (first + k + 1), .any, .any, .any, dn t, dn (t - p k), .any, .any, .any, .any, .any, .any, .any, .any, .any, .any, .any, .any, .any, .any, .any, .any, .any, .any, .any, .any, .any, .any, .any, .any, .any, .any, .any, .any, .any, .any, .any, .any, .any, .any, .any, .any, .any, .any, .any, .any, .any, .any, .any, .any, .any, .any, .any, .any, .any, .any, .any, .any, .any, .any, .any, .any, .any, .any, .any, .any, .any, .any, .any, .any, .any, .any, .any, .any, .any, .any, .any, .any, .any, .any, .any, .any, .any, .any, .any, .any, .any, .any, .any, .any, .any, .any, .any, .any, .any, .any, .any, .any, .any, .any, .any, .any, .any, .any, .any, .any, .any, .any, .any, .any, .any, .any, .any, .any, .any, .any, .any, .any, .any, .any, .any, .any, .any, .any, .any, .any, .any, .any, .any, .any, .any, .any, .any, .any, .any, .any, .any, .any, .any, .any, .any, .any, .any, .any, .any, .any, .any, .any, .any, .any, .any, .any, .any, .any, .any, .any, .any, .any, .any, .any, .any, .any, .any, .any, .any, .any, .any, .any, .any, .any, .any, .any, .any, .any, .any, .any, .any, .any, .any, .any, .any, .any, .any, .any, .any, .any, .any, .any, .any, .any, .any, .any, .any, .any, .any, .any, .any, .any, .any] ∧ st = σ ++ [some (.cells [dn N, .d (.sl 1 (fc.map isD))])]) ?_ ?_
            · have hpick : ((x.getD 0 0 == ((first + k + 1 : Nat) : Int)) = true) ∨ ((x.getD 0 0 == ((first + k + 1 : Nat) : Int)) = false ∧ (x.getD 0 0 == -((first + k + 1 : Nat) : Int)) = true) := heads_pick d3
              rcases hpick with hb | ⟨hb, hb2⟩
              · simp only [go_sem, w0, wn, hd1, hxt, hd2, e0, hb, List.length_map, Int.toNat_natCast, Int.toNat_zero, Tryd.results5]
                exact ⟨⟨by omega, by omega⟩, ⟨by omega, by omega⟩, ⟨by omega, by omega⟩, Wk.mask [5, 6, 10, 14, 15] ⟨rfl, rfl⟩⟩
              · simp only [go_sem, w0, wn, hd1, hxt, hd2, e0, hb, hb2, List.length_map, Int.toNat_natCast, Int.toNat_zero, Tryd.results5]
                exact ⟨⟨by omega, by omega⟩, ⟨by omega, by omega⟩, ⟨by omega, by omega⟩, ⟨by omega, by omega⟩, ⟨by omega, by omega⟩, Wk.mask [5, 6, 10, 14, 15] ⟨rfl, rfl⟩⟩
            rintro fr st ⟨rfl, rfl⟩
            simp only [go_sem]
            refine aw_cut (fun fr st => fr = [.any, .any, .any, .any, .any, db true, .ref σ.length 0, .any, .any, .any, dn (first + k + 1), .any, .any, .any, dn t, dn (t - p k), .any, .any, .any, .any, .any, .any, .any, .any, .any, .any, .any, .any, .any, .any, .any, .any, .any, .any, .any, .any, .any, .any, .any, .any, .any, .any, .any, .any, .any, .any, .any, .any, .any, .any, .any, .any, .any, .any, .any, .any, .any, .any, .any, .any, .any, .any, .any, .any, .any, .any, .any, .any, .any, .any, .any, .any, .any, .any, .any, .any, .any, .any, .any, .any, .any, .any, .any, .any, .any, .any, .any, .any, .any, .any, .any, .any, .any, .any, .any, .any, .any, .any, .any, .any, .any, .any, .any, .any, .any, .any, .any, .any, .any, .any, .any, .any, .any, .any, .any, .any, .any, .any, .any, .any, .any, .any, .any, .any, .any, .any, .any, .any, .any, .any, .any, .any, .any, .any, .any, .any, .any, .any, .any, .any, .any, .any, .any, .any, .any, .any, .any, .any, .any, .any, .any, .any, .any, .any, .any, .any, .any, .any, .any, .any, .any, .any, .any, .any, .any, .any, .any, .any, .any, .any, .any, .any, .any, .any, .any, .any, .any, .any, .any, .any, .any, .any, .any, .any, .any, .any, .any, .any, .any, .any, .any, .any, .any, .any, .any, .any, .any, .any, .any, .any, .any, .any, .any, .any, .any, .any, .any, .any, .any] ∧ st = σ ++ [some (.cells [dn N, .d (.sl 1 (fc.map isD))])]) ?_ ?_
            · simp only [go_sem]
              refine aw_loop (fun m fr st => ∃ s : Nat, 1 ≤ s ∧ s ≤ x.length ∧ m = x.length - s ∧ fr = [.any, .any, .any, .any, .any, db true, .ref σ.length 0, .any, .any, .any, dn (first + k + 1), .any, .any, .any, dn t, dn (t - p k), dn s, .any, .any, .any, .any, .any, .any, .any, .any, .any, .any, .any, .any, .any, .any, .any, .any, .any, .any, .any, .any, .any, .any, .any, .any, .any, .any, .any, .any, .any, .any, .any, .any, .any, .any, .any, .any, .any, .any, .any, .any, .any, .any, .any, .any, .any, .any, .any, .any, .any, .any, .any, .any, .any, .any, .any, .any, .any, .any, .any, .any, .any, .any, .any, .any, .any, .any, .any, .any, .any, .any, .any, .any, .any, .any, .any, .any, .any, .any, .any, .any, .any, .any, .any, .any, .any, .any, .any, .any, .any, .any, .any, .any, .any, .any, .any, .any, .any, .any, .any, .any, .any, .any, .any, .any, .any, .any, .any, .any, .any, .any, .any, .any, .any, .any, .any, .any, .any, .any, .any, .any, .any, .any, .any, .any, .any, .any, .any, .any, .any, .any, .any, .any, .any, .any, .any, .any, .any, .any, .any, .any, .any, .any, .any, .any, .any, .any, .any, .any, .any, .any, .any, .any, .any, .any, .any, .any, .any, .any, .any, .any, .any, .any, .any, .any, .any, .any, .any, .any, .any, .any, .any, .any, .any, .any, .any, .any, .any, .any, .any, .any, .any, .any, .any, .any, .any, .any, .any, .any, .any, .any, .any, .any] ∧ st = σ ++ [some (.cells [dn N, .d (.sl 1 (fc.map isD))])]) (x.length - 1) _ (Wk.mask [5, 6, 10, 14, 15, 16] ⟨1, by omega, by omega, rfl, rfl, rfl⟩) ?_
              rintro m fr st ⟨s, hs1, hs2, hm, rfl, rfl⟩
              rcases Nat.lt_or_ge s x.length with hsl | hsg
              · obtain ⟨r1, r2⟩ := d4 s hs1 hsl
                have es := getD_isD (l := x) (j := s) (by omega)
                have ws := wrapS s (by omega)
                have hq1 : decide ((s : Int) < (x.length : Int)) = true := by simp; omega
                have hq2 : decide (((first + k + 1 : Nat) : Int) ≤ x.getD s 0) = false := rng1 r2
                have hq3 : decide (x.getD s 0 ≤ -((first + k + 1 : Nat) : Int)) = false := rng2 r1
                simp only [go_sem, wn, hxt, es, ws, hq1, hq2, hq3, List.length_map, Int.toNat_natCast, Tryd.results5]
                exact ⟨⟨by omega, by omega⟩, ⟨by omega, by omega⟩, ⟨by omega, by omega⟩, Wk.mask [5, 6, 10, 14, 15, 16] ⟨x.length - (s + 1), by omega, s + 1, by omega, by omega, rfl, rfl, rfl⟩⟩
              · have hq1 : decide ((s : Int) < (x.length : Int)) = false := by simp; omega
                simp only [go_sem, hxt, hq1, List.length_map, Int.toNat_natCast, Tryd.results5]
                exact ⟨⟨by omega, by omega⟩, Wk.mask [5, 6, 10, 14, 15] ⟨rfl, rfl⟩⟩
            rintro fr st ⟨rfl, rfl⟩
            simp only [go_sem, w1, w2]
            exact Wk.mask [5, 6, 10, 14, 15] ⟨p (k + 1) - (t + 1), by omega, t + 1, by omega, by omega, rfl, rfl, rfl⟩
          · obtain rfl : t = p (k + 1) := by omega
            clear htg ht1 ht2
            refine aw_cut (fun _ _ => False) ?_ (fun _ _ h => h.elim)
            rcases Nat.lt_or_ge (k + 1) gs.length with hlt2 | hge2
            · have hs2 := hgr.size (k + 1) hlt2
              have hp2 := hple (k + 1 + 1) hlt2
              obtain ⟨d1, d2, d3, d4⟩ := hgr.defs (k + 1) (p (k + 1)) hlt2 (Nat.le_refl _) (by omega)
              have hxt := hx (p (k + 1)) (by omega)
              obtain ⟨x, hxx⟩ : ∃ x, fc.getD (p (k + 1)) [] = x := ⟨_, rfl⟩
              rw [hxx] at d1 d2 d3 d4 hxt
              have e0 := getD_isD (l := x) (j := 0) (by omega)
              have hd1 : decide (((p (k + 1) : Nat) : Int) < ((fc.length - 1 : Nat) : Int)) = true := by simp; omega
              have hd2 : decide ((1 : Int) < (x.length : Int)) = true := by simp; omega
              rw [show first + (k + 1) + 1 = first + k + 1 + 1 by omega] at d3
              obtain ⟨hb, hb2⟩ := heads_other d3
              simp only [go_sem, w0, wn, hd1, hxt, hd2, e0, hb, hb2, List.length_map, Int.toNat_natCast, Int.toNat_zero, Tryd.results5]
              exact ⟨⟨by omega, by omega⟩, ⟨by omega, by omega⟩, ⟨by omega, by omega⟩, ⟨by omega, by omega⟩, ⟨by omega, by omega⟩, Wk.mask [5, 6, 10, 14, 15] ⟨rfl, rfl⟩⟩
            · have hK : k + 1 = gs.length := by omega
              have hhi := hgr.hi
              rw [← hK] at hhi
              have hd1 : decide (((p (k + 1) : Nat) : Int) < ((fc.length - 1 : Nat) : Int)) = false := by simp; omega
              have hxt : List.getD (fc.map isD) (p (k + 1)) default = .sl 1 [iD root] := by
                rw [hx (p (k + 1)) (by omega), show p (k + 1) = fc.length - 1 by omega, hC1]; rfl
              simp only [go_sem, w0, wn, hd1, hxt, List.length_map, List.length_cons, List.length_nil, List.getD_cons_zero, Int.toNat_natCast, Int.toNat_zero, Tryd.results5]
              exact Wk.mask [5, 6, 10, 14, 15] ⟨rfl, rfl⟩
        rintro fr st ⟨rfl, rfl⟩
        have w1 := wrapS (first + k + 1) (by omega)
        have hne : ((((p (k + 1) - p k : Nat) : Int) != 3) && (((p (k + 1) - p k : Nat) : Int) != 4)) = false := by
          rcases hsz1 with e | e <;> simp [e]
        simp only [go_sem, w1, hne, Tryd.results5]
        exact Wk.mask [5, 6, 10, 14] ⟨gs.length - (k + 1), by omega, k + 1, by omega, rfl, rfl, rfl⟩
      · obtain rfl : k = gs.length := by omega
        have hhi := hgr.hi
        have hd : decide (((p gs.length : Nat) : Int) < ((fc.length - 1 : Nat) : Int)) = false := by simp; omega
        simp only [go_sem, w0, hd, List.length_map]
        exact Wk.mask [5, 6, 10] ⟨by rw [hN]; rfl, rfl⟩
    rintro fr st ⟨rfl, rfl⟩
    have w1 := wrapS N (by omega)
    have e1 : (((N + 1 : Nat) : Int) == ((N + 1 : Nat) : Int)) = true := by simp
    simp only [go_sem, w1, e1, Tryd.results5]
    exact ret_d hbd h
  · refine aw_cut (fun fr st => fr = [.d (celsD cs), .any, .any, .ref σ.length 0, .any, db true, .ref (σ.length + 1) 0, di 2, .any, .any, .any, .any, .any, .any, .any, .any, .any, .any, .any, .any, .any, .any, .any, .any, .any, .any, .any, .any, .any, .any, .any, .any, .any, .any, .any, .any, .any, .any, .any, .any, .any, .any, .any, .any, .any, .any, .any, .any, .any, .any, .any, .any, .any, .any, .any, .any, .any, .any, .any, .any, .any, .any, .any, .any, .any, .any, .any, .any, .any, .any, .any, .any, .any, .any, .any, .any, .any, .any, .any, .any, .any, .any, .any, .any, .any, .any, .any, .any, .any, .any, .any, .any, .any, .any, .any, .any, .any, .any, .any, .any, .any, .any, .any, .any, .any, .any, .any, .any, .any, .any, .any, .any, .any, .any, .any, .any, .any, .any, .any, .any, .any, .any, .any, .any, .any, .any, .any, .any, .any, .any, .any, .any, .any, .any, .any, .any, .any, .any, .any, .any, .any, .any, .any, .any, .any, .any, .any, .any, .any, .any, .any, .any, .any, .any, .any, .any, .any, .any, .any, .any, .any, .any, .any, .any, .any, .any, .any, .any, .any, .any, .any, .any, .any, .any, .any, .any, .any, .any, .any, .any, .any, .any, .any, .any, .any, .any, .any, .any, .any, .any, .any, .any, .any, .any, .any, .any, .any, .any, .any, .any, .any, .any, .any, .any, .any, .any, .any, .any, .any] ∧ st = σ ++ [cdO c, fO ⟨0, []⟩]) ?_ ?_
    · simp only [go_sem]
      rw [← cndD]
      refine ac' (neg_ac cs c hok he _ _ hG _ ?_)
      rw [hn]
      simp only [cnfD, go_sem]
      exact Wk.mask [0, 3, 5, 6, 7] ⟨by simp only [go_sem], by simp only [go_sem]⟩
    rintro fr st ⟨rfl, rfl⟩
    simp only [go_sem, Int.reduceBEq, Tryd.results5]
    exact ret_d hbd h
end Go.Proofs.YtkjlefahpdconaaDoor
end PartD11

section PartR5
/- EncodeShape: the law answers true for every input, and leaves its input as it was. Its condition: the laid table holds what the text of the program lays (tied by the card). -/
set_option maxRecDepth 100000
set_option linter.unusedSimpArgs false
set_option linter.unusedVariables false
namespace Go.Proofs.YtkjlefahpdconaaDoor
open Go Go.Ab Go.RowKit Go.ChangeShapes Go.WideShapes
theorem liftedEncodeShape (os : Os) (started : os.Started) (H : Type) (enc : TypeId × Value → H) :
    ReturnsInHanded {} Tryd.checked os 5 .any (fun w args => (Rows.encodeShapeSpec.pre enc Tryd.prog Tryd.f5 [] false w args ∧ laidMetH Tryd.prog laid1 w) ∧ sizedMet enc Tryd.prog Tryd.f5 (OpenSpec.ofChange Rows.encodeShapeSpec) false w args)
      (Rows.encodeShapeSpec.post enc Tryd.prog Tryd.f5 false true false false) := by
  refine returnsInHanded_of_change_and (C := Tryd.checked) (X := fun w _ => laidMetH Tryd.prog laid1 w) (fun _ _ _ hh h => h.of_heap hh) own started (by kernel_rfl) Tryd.func5
    (ChangeSpec.witness_shaped (enc := enc) (C := Tryd.checked) (os := os) (X := fun w _ => laidMetH Tryd.prog laid1 w) false (World.doorLaid Tryd.prog 400 os) #[.slice none 0 0, .agg #[.string ⟨#[]⟩, .int .i64 0, .int .i64 0, .int .i64 0, .int .i64 0, .int .i64 0, .int .i64 0, .int .i64 0, .int .i64 0, .slice none 0 0, .int .i64 0, .int .i64 0, .int .i64 0, .slice none 0 0]] 8 rfl (World.shaped_of_RefB (by kernel_rfl) (by kernel_rfl)) (by kernel_rfl) (by kernel_rfl) (by kernel_rfl) (door_met os _)) ?_
  intro W base args ds gs before hval hW _ hz hL _
  refine calls_true (G := globs) (S := [3, 4, 9, 22, 23, 25, 27, 45]) (tb := 4) hW hval (by kernel_rfl) (by rw [Tryd.params5]; kernel_rfl) (by kernel_rfl) (by rw [Tryd.params5]; kernel_rfl) rfl (by kernel_rfl) Tryd.underlying4 (fun ds hds => ?_) (globs_rep hL) hz (fun xs hx => ?_)
  · rw [Tryd.params5] at hds
    match ds, hds with
    | [d0, d1], _ => rfl
  · skip
    rw [Tryd.params5] at hx
    generalize args.toList = vs at hx
    cases hx with
    | cons h0 _ hx =>
      obtain ⟨n0, h0⟩ := h0
      obtain ⟨x0, rfl, k0⟩ := dty_cels h0
      cases hx with
      | cons h1 _ hx =>
        obtain ⟨n1, h1⟩ := h1
        obtain ⟨x1, rfl, k1⟩ := dty_cnd h1
        cases hx
        exact law5_ac x0 k0 x1 k1 [] globs rfl _ rfl
theorem closedEncodeShape : joinedFacts Tryd.prog 5 Tryd.f5 Rows.encodeShapeSpec Rows.encodeShapeRow = true := by
  rw [joinedFacts, mayEnter, liftsFinal, makes]
  kernel_rfl
theorem encodeShape_said : Rows.EncodeShapeSaid :=
  OpenClaim.holds_of_wide 5 Tryd.f5 rfl rfl rfl rfl rfl rfl rfl ⟨rfl, rfl, rfl, rfl, rfl⟩ rfl rfl rfl rfl rfl (by kernel_rfl) Tryd.func5 closedEncodeShape
    (of_decide_eq_true (by kernel_rfl)) (by unfold Func.isWrapper; first | (rw [if_pos (by decide +kernel)]; kernel_rfl) | (rw [if_neg (by decide +kernel)]; exact ⟨rfl, rfl⟩))
    (fun os started H enc _ => liftedEncodeShape os started H enc)
theorem encodeShape_holds : Rows.EncodeShapeCardSaid :=
  Claim7.holds_tied_plain_at .later [] [.data] true (true, "72c9db1a6ec1e694200300a047bfb27b2dd7b2f9f23a1f4a062271b7d63cbd0c") true
    encodeShape_said (fun _ h => by cases h) (by kernel_rfl) (fun _ h => by cases h) encodeShape_row_tie rfl ⟨rfl, rfl⟩ (by kernel_rfl) rfl
    (fun f fn hf hfn => by
      obtain rfl : f = 5 := Option.some.inj ((show Tryd.prog.funcNamed "relyguard/relyguardlaw22.EncodeShape" = some 5 by kernel_rfl).symm.trans hf) |>.symm
      obtain rfl : fn = Tryd.f5 := (Option.some.inj (Tryd.func5.symm.trans hfn)).symm
      exact ⟨by kernel_rfl, fun j t ht => by
        rw [Tryd.params5] at ht
        have hm : t ∈ [22, 27] := by simpa using Array.mem_of_getElem? ht
        have hall : ([22, 27].all fun u => !Tryd.prog.wantsStandIn u) = true := by kernel_rfl
        exact (show Tryd.prog.wantsStandIn t = false by simpa using List.all_eq_true.1 hall t hm)⟩)
    (by kernel_rfl)
#print axioms encodeShape_holds
end Go.Proofs.YtkjlefahpdconaaDoor
end PartR5
