import Derived.Test.YtkjlefahpdconaaDoorX37

section PartD5
/- Law 22.5: states. -/
set_option linter.unusedSimpArgs false
set_option linter.unusedVariables false
set_option maxRecDepth 100000
namespace Go.Proofs.YtkjlefahpdconaaDoor
open Go Go.Ab

theorem getD_over {l : List Int} {j : Nat} (h : l.length ≤ j) : l.getD j 0 = 0 := by
  rw [List.getD_eq_getElem?_getD, List.getElem?_eq_none h]; rfl
set_option maxHeartbeats 16000000 in
theorem law4_ac (cs : List Cel) (hc : cs.length ≤ reachBytes) (c : Cnd) (hok : c.Ok) (old now : List Int) (ho : old.length ≤ reachBytes) (hn : now.length ≤ reachBytes) (σ : St) (G : Glob) (hG : G.g 0 = some masksD) (R : A → St → Prop) (h : R (db true) σ) : AC Tryd.prog G 4 [.d (celsD cs), .d (cndD c), dL old, dL now] σ R := by
  refine ac_enterC' [4, 5, 9, 11, 17, 19, 22, 25] mixed Tryd.func4 rfl Tryd.ntmps4 (by simp only [go_sem]) fun hbd => ?_
  simp only [List.length_cons, List.length_nil, Nat.reduceAdd, Nat.reduceSub, List.replicate_succ, List.replicate_zero, List.cons_append, List.nil_append]
  simp only [cndD, go_sem]
  refine ac' (head_ac _ _ hG _ ?_)
  simp only [go_sem]
  refine aw_cut (fun fr st => (encR cs c = true ∧ old.length ≤ 50 ∧ now.length ≤ 50) ∧ fr = [.d (celsD cs), .any, dL old, dL now, .any, .ref σ.length 0, .any, .any, .any, db true, .any, .any, .any, .any, .any, .any, .any, .any, .any, .any, .any, .any, .any, .any, .any, .any, .any, .any, .any, .any, .any, .any, .any, .any, .any, .any, .any, .any, .any, .any, .any, .any, .any, .any, .any, .any, .any, .any, .any, .any, .any, .any, .any, .any, .any, .any, .any, .any, .any, .any, .any, .any, .any, .any, .any, .any, .any, .any, .any, .any, .any, .any, .any, .any, .any, .any, .any, .any, .any, .any, .any, .any, .any, .any, .any, .any, .any, .any, .any, .any, .any, .any, .any, .any, .any, .any, .any, .any, .any, .any, .any, .any, .any, .any, .any, .any, .any, .any, .any, .any, .any, .any, .any, .any, .any, .any, .any, .any, .any, .any, .any, .any, .any, .any, .any, .any, .any, .any, .any, .any, .any, .any, .any, .any, .any, .any, .any, .any, .any, .any, .any, .any, .any, .any, .any, .any, .any, .any, .any, .any, .any, .any, .any, .any, .any, .any, .any, .any, .any, .any, .any, .any, .any, .any] ∧ st = σ ++ [cdO c]) ?_ ?_
  · simp only [go_sem]
    rw [← cndD]
    refine ac' (lsmall_ac cs hc c hok 60 (by omega) _ _ _ ?_)
    cases hB : (smallR cs c 60 && encR cs c)
    · simp only [dL, isD, go_sem, Bool.not_false, Tryd.results4]
      exact ret_d hbd h
    have he : encR cs c = true := by rw [Bool.and_eq_true] at hB; exact hB.2
    simp only [dL, isD, go_sem, Bool.not_true, List.length_map, Tryd.results4]
    refine ⟨fun q => ret_d hbd h, fun q => ?_⟩
    simp only [Bool.false_or, Bool.or_eq_false_iff, decide_eq_false_iff_not, Bool.or_eq_true, not_or] at q
    refine Wk.mask [0, 2, 3, 5, 9] ⟨⟨he, ?_, ?_⟩, rfl, rfl⟩
    · omega
    · omega
  rintro fr st ⟨⟨he, ho5, hn5⟩, rfl, rfl⟩
  have E := enc_of he
  cases ht : transM cs c.hyp c.goal [] with
  | none =>
    have hext : extR cs c old now = ([], 2) := by rw [extR, ht]
    refine aw_cut (fun fr st => fr = [.any, .any, .any, .any, .any, .any, .any, .any, .any, db true, .any, di 2, .any, .any, .any, .any, .any, .any, .any, .any, .any, .any, .any, .any, .any, .any, .any, .any, .any, .any, .any, .any, .any, .any, .any, .any, .any, .any, .any, .any, .any, .any, .any, .any, .any, .any, .any, .any, .any, .any, .any, .any, .any, .any, .any, .any, .any, .any, .any, .any, .any, .any, .any, .any, .any, .any, .any, .any, .any, .any, .any, .any, .any, .any, .any, .any, .any, .any, .any, .any, .any, .any, .any, .any, .any, .any, .any, .any, .any, .any, .any, .any, .any, .any, .any, .any, .any, .any, .any, .any, .any, .any, .any, .any, .any, .any, .any, .any, .any, .any, .any, .any, .any, .any, .any, .any, .any, .any, .any, .any, .any, .any, .any, .any, .any, .any, .any, .any, .any, .any, .any, .any, .any, .any, .any, .any, .any, .any, .any, .any, .any, .any, .any, .any, .any, .any, .any, .any, .any, .any, .any, .any, .any, .any, .any, .any, .any, .any, .any, .any, .any, .any, .any, .any] ∧ st = σ) ?_ ?_
    · simp only [go_sem]
      rw [← cndD]
      refine ac' (ext_ac cs c hok he old now ho hn _ _ hG _ ?_)
      rw [hext]
      simp only [go_sem]
      exact Wk.keep [9, 11] [] (by decide) (Nat.le_refl _) hbd ⟨by simp only [go_sem], by simp only [go_sem]⟩
    rintro fr st ⟨rfl, rfl⟩
    simp only [go_sem, Int.reduceBNe, Int.reduceBEq, Tryd.results4]
    exact ret_d0 h
  | some p =>
    obtain ⟨root, gs⟩ := p
    have t := E.tr ht
    have hext : extR cs c old now = (extV cs c.hyp c.goal old now gs, 0) := by rw [extR, ht]
    have hvl : (extV cs c.hyp c.goal old now gs).length = firstV cs c.hyp c.goal + gs.length := ext_len
    have hfit := t.good.fit.1
    have hst := fun i hi => E.states (old := old) (now := now) (gs := gs) (i := i) hi
    have hfo := E.layO_fit
    have hfn := E.layN_fit
    have hlO := E.lO_len
    have hlN := E.lN_len
    have hcl := E.len
    obtain ⟨V, hV⟩ : ∃ V, extV cs c.hyp c.goal old now gs = V := ⟨_, rfl⟩
    rw [hV] at hvl hext
    rw [hV] at hst
    refine aw_cut (fun fr st => fr = [.d (celsD cs), .any, dL old, dL now, .any, .ref σ.length 0, .any, .any, .any, db true, .d (bsD V), di 0, .any, .any, .any, .any, .any, .any, .any, .any, .any, .any, .any, .any, .any, .any, .any, .any, .any, .any, .any, .any, .any, .any, .any, .any, .any, .any, .any, .any, .any, .any, .any, .any, .any, .any, .any, .any, .any, .any, .any, .any, .any, .any, .any, .any, .any, .any, .any, .any, .any, .any, .any, .any, .any, .any, .any, .any, .any, .any, .any, .any, .any, .any, .any, .any, .any, .any, .any, .any, .any, .any, .any, .any, .any, .any, .any, .any, .any, .any, .any, .any, .any, .any, .any, .any, .any, .any, .any, .any, .any, .any, .any, .any, .any, .any, .any, .any, .any, .any, .any, .any, .any, .any, .any, .any, .any, .any, .any, .any, .any, .any, .any, .any, .any, .any, .any, .any, .any, .any, .any, .any, .any, .any, .any, .any, .any, .any, .any, .any, .any, .any, .any, .any, .any, .any, .any, .any, .any, .any, .any, .any, .any, .any, .any, .any, .any, .any, .any, .any, .any, .any, .any, .any] ∧ st = σ ++ [cdO c]) ?_ ?_
    · simp only [go_sem]
      rw [← cndD]
      refine ac' (ext_ac cs c hok he old now ho hn _ _ hG _ ?_)
      rw [hext]
      simp only [go_sem]
      exact Wk.mask [0, 2, 3, 5, 9, 10, 11] ⟨by simp only [go_sem], by simp only [go_sem]⟩
    rintro fr st ⟨rfl, rfl⟩
    simp only [go_sem, Int.reduceBNe, Int.reduceBEq, Tryd.results4]
    rw [← cndD]
    refine ac' (dec_ac cs c hok he V (reach_le (by omega)) _ _ hG _ ?_)
    have hXl := decS_len (cs := cs) (vs := V) (lO cs c.hyp c.goal)
    have hYl := decS_len (cs := cs) (vs := V) (lN cs c.hyp c.goal)
    generalize decS cs (lO cs c.hyp c.goal) V = X at *
    generalize decS cs (lN cs c.hyp c.goal) V = Y at *
    generalize hL : lO cs c.hyp c.goal = L at *
    generalize hM : lN cs c.hyp c.goal = M at *
    simp only [go_sem, Int.reduceBNe, Int.reduceBEq, Tryd.results4]
    refine aw_cut (fun fr st => fr = [.d (celsD cs), .any, dL old, dL now, .any, .any, .any, .any, .any, db true, .any, di 0, dL X, dL Y, dL L, dL M, .any, .any, .any, .any, .any, .any, .any, .any, .any, .any, .any, .any, .any, .any, .any, .any, .any, .any, .any, .any, .any, .any, .any, .any, .any, .any, .any, .any, .any, .any, .any, .any, .any, .any, .any, .any, .any, .any, .any, .any, .any, .any, .any, .any, .any, .any, .any, .any, .any, .any, .any, .any, .any, .any, .any, .any, .any, .any, .any, .any, .any, .any, .any, .any, .any, .any, .any, .any, .any, .any, .any, .any, .any, .any, .any, .any, .any, .any, .any, .any, .any, .any, .any, .any, .any, .any, .any, .any, .any, .any, .any, .any, .any, .any, .any, .any, .any, .any, .any, .any, .any, .any, .any, .any, .any, .any, .any, .any, .any, .any, .any, .any, .any, .any, .any, .any, .any, .any, .any, .any, .any, .any, .any, .any, .any, .any, .any, .any, .any, .any, .any, .any, .any, .any, .any, .any, .any, .any, .any, .any, .any, .any, .any, .any, .any, .any, .any, .any] ∧ st = σ) ?_ ?_
    · simp only [go_sem]
      rw [← cndD]
      refine ac' (lay_ac cs c hok he _ _ hG _ ?_)
      rw [hL, hM]
      simp only [go_sem]
      exact Wk.keep [0, 2, 3, 9, 11, 12, 13, 14, 15] [] (by decide) (Nat.le_refl _) hbd ⟨by simp only [go_sem], by simp only [go_sem]⟩
    rintro fr st ⟨rfl, rfl⟩
    have b0 : ((cs.length : Int) != (cs.length : Int)) = false := by simp
    refine aw_cut (fun fr s2 => fr = [.d (celsD cs), .any, dL old, dL now, .any, .any, .any, .any, .any, db true, .any, .any, dL X, dL Y, dL L, dL M, .any, .any, .any, .any, .any, .any, .any, .any, .any, .any, .any, .any, .any, .any, .any, .any, .any, .any, .any, .any, .any, .any, .any, .any, .any, .any, .any, .any, .any, .any, .any, .any, .any, .any, .any, .any, .any, .any, .any, .any, .any, .any, .any, .any, .any, .any, .any, .any, .any, .any, .any, .any, .any, .any, .any, .any, .any, .any, .any, .any, .any, .any, .any, .any, .any, .any, .any, .any, .any, .any, .any, .any, .any, .any, .any, .any, .any, .any, .any, .any, .any, .any, .any, .any, .any, .any, .any, .any, .any, .any, .any, .any, .any, .any, .any, .any, .any, .any, .any, .any, .any, .any, .any, .any, .any, .any, .any, .any, .any, .any, .any, .any, .any, .any, .any, .any, .any, .any, .any, .any, .any, .any, .any, .any, .any, .any, .any, .any, .any, .any, .any, .any, .any, .any, .any, .any, .any, .any, .any, .any, .any, .any, .any, .any, .any, .any, .any, .any] ∧ s2 = st) ?_ ?_
    · simp only [dL, isD, celsD, go_sem, List.length_map, hXl, hYl, hlO, hlN, b0, Int.reduceBNe, Int.reduceBEq, Tryd.results4]
      exact Wk.mask [0, 2, 3, 9, 12, 13, 14, 15] ⟨by simp only [go_sem], rfl⟩
    rintro fr s2 ⟨rfl, rfl⟩
    simp only [dL, isD, celsD, go_sem]
    refine aw_loop (fun m fr st => ∃ j : Nat, j ≤ cs.length ∧ m = cs.length - j ∧ fr = [.d (.sl 6 (cs.map celD)), .any, .d (.sl 1 (old.map iD)), .d (.sl 1 (now.map iD)), .any, .any, .any, .any, .any, db true, .any, .any, .d (.sl 1 (X.map iD)), .d (.sl 1 (Y.map iD)), .d (.sl 1 (L.map iD)), .d (.sl 1 (M.map iD)), dn j, .any, .any, .any, .any, .any, .any, .any, .any, .any, .any, .any, .any, .any, .any, .any, .any, .any, .any, .any, .any, .any, .any, .any, .any, .any, .any, .any, .any, .any, .any, .any, .any, .any, .any, .any, .any, .any, .any, .any, .any, .any, .any, .any, .any, .any, .any, .any, .any, .any, .any, .any, .any, .any, .any, .any, .any, .any, .any, .any, .any, .any, .any, .any, .any, .any, .any, .any, .any, .any, .any, .any, .any, .any, .any, .any, .any, .any, .any, .any, .any, .any, .any, .any, .any, .any, .any, .any, .any, .any, .any, .any, .any, .any, .any, .any, .any, .any, .any, .any, .any, .any, .any, .any, .any, .any, .any, .any, .any, .any, .any, .any, .any, .any, .any, .any, .any, .any, .any, .any, .any, .any, .any, .any, .any, .any, .any, .any, .any, .any, .any, .any, .any, .any, .any, .any, .any, .any, .any, .any, .any, .any, .any, .any, .any, .any, .any, .any] ∧ st = s2) cs.length _ (Wk.mask [0, 2, 3, 9, 12, 13, 14, 15, 16] ⟨0, by omega, rfl, rfl, rfl⟩) ?_
    rintro m fr st ⟨j, hj, hm, rfl, rfl⟩
    rcases Nat.lt_or_ge j cs.length with hlt | hge
    · have hd : decide ((j : Int) < (cs.length : Int)) = true := by simp; omega
      obtain ⟨x1, x2⟩ := hst j hlt
      simp only [go_sem, hd, List.length_map, Tryd.results4]
      have e2 := celD_at (l := cs) (j := j) (by omega)
      simp only [celD] at e2
      have e3 : (cs.getD j cel0).w = wOf cs j := rfl
      rw [e3] at e2
      obtain ⟨Z, hZ⟩ : ∃ Z, (if L.getD j 0 = 0 then (cs.getD j cel0).init else ((lowb (old.getD j 0) (wOf cs j).toNat : Nat) : Int)) = Z := ⟨_, rfl⟩
      obtain ⟨T, hT⟩ : ∃ T, (if M.getD j 0 = 0 then (cs.getD j cel0).init else ((lowb (now.getD j 0) (wOf cs j).toNat : Nat) : Int)) = T := ⟨_, rfl⟩
      rw [hZ] at x1
      rw [hT] at x2
      refine aw_cut (fun fr s3 => fr = [.d (.sl 6 (cs.map celD)), .any, .d (.sl 1 (old.map iD)), .d (.sl 1 (now.map iD)), .any, .any, .any, .any, .any, db true, .any, .any, .d (.sl 1 (X.map iD)), .d (.sl 1 (Y.map iD)), .d (.sl 1 (L.map iD)), .d (.sl 1 (M.map iD)), dn j, di (old.getD j 0), di 0, .any, .any, .any, .any, .any, .any, .any, .any, .any, .any, .any, .any, .any, .any, .any, .any, .any, .any, .any, .any, .any, .any, .any, .any, .any, .any, .any, .any, .any, .any, .any, .any, .any, .any, .any, .any, .any, .any, .any, .any, .any, .any, .any, .any, .any, .any, .any, .any, .any, .any, .any, .any, .any, .any, .any, .any, .any, .any, .any, .any, .any, .any, .any, .any, .any, .any, .any, .any, .any, .any, .any, .any, .any, .any, .any, .any, .any, .any, .any, .any, .any, .any, .any, .any, .any, .any, .any, .any, .any, .any, .any, .any, .any, .any, .any, .any, .any, .any, .any, .any, .any, .any, .any, .any, .any, .any, .any, .any, .any, .any, .any, .any, .any, .any, .any, .any, .any, .any, .any, .any, .any, .any, .any, .any, .any, .any, .any, .any, .any, .any, .any, .any, .any, .any, .any, .any, .any, .any, .any, .any, .any, .any, .any, .any, .any] ∧ st = s3) ?_ ?_
      · simp only [go_sem, List.length_map, Tryd.results4]
        refine ⟨fun q => ?_, fun q => ?_⟩
        · have q : j < old.length := by simpa using q
          have e1 := getD_isD (l := old) (j := j) q
          simp only [go_sem, e1, List.length_map, Int.toNat_natCast, Tryd.results4]
          exact ⟨⟨by omega, by omega⟩, Wk.mask [0, 2, 3, 9, 12, 13, 14, 15, 16, 17, 18] ⟨rfl, rfl⟩⟩
        · have q : ¬ j < old.length := by simpa using q
          have e1 : old.getD j 0 = 0 := getD_over (by omega)
          rw [e1]
          exact Wk.mask [0, 2, 3, 9, 12, 13, 14, 15, 16, 17, 18] ⟨rfl, rfl⟩
      rintro fr s3 ⟨rfl, rfl⟩
      refine aw_cut (fun fr s3 => fr = [.d (.sl 6 (cs.map celD)), .any, .d (.sl 1 (old.map iD)), .d (.sl 1 (now.map iD)), .any, .any, .any, .any, .any, db true, .any, .any, .d (.sl 1 (X.map iD)), .d (.sl 1 (Y.map iD)), .d (.sl 1 (L.map iD)), .d (.sl 1 (M.map iD)), dn j, di (old.getD j 0), di (now.getD j 0), .any, .any, .any, .any, .any, .any, .any, .any, .any, .any, .any, .any, .any, .any, .any, .any, .any, .any, .any, .any, .any, .any, .any, .any, .any, .any, .any, .any, .any, .any, .any, .any, .any, .any, .any, .any, .any, .any, .any, .any, .any, .any, .any, .any, .any, .any, .any, .any, .any, .any, .any, .any, .any, .any, .any, .any, .any, .any, .any, .any, .any, .any, .any, .any, .any, .any, .any, .any, .any, .any, .any, .any, .any, .any, .any, .any, .any, .any, .any, .any, .any, .any, .any, .any, .any, .any, .any, .any, .any, .any, .any, .any, .any, .any, .any, .any, .any, .any, .any, .any, .any, .any, .any, .any, .any, .any, .any, .any, .any, .any, .any, .any, .any, .any, .any, .any, .any, .any, .any, .any, .any, .any, .any, .any, .any, .any, .any, .any, .any, .any, .any, .any, .any, .any, .any, .any, .any, .any, .any, .any, .any, .any, .any, .any, .any] ∧ st = s3) ?_ ?_
      · simp only [go_sem, List.length_map, Tryd.results4]
        refine ⟨fun q => ?_, fun q => ?_⟩
        · have q : j < now.length := by simpa using q
          have e1 := getD_isD (l := now) (j := j) q
          simp only [go_sem, e1, List.length_map, Int.toNat_natCast, Tryd.results4]
          exact ⟨⟨by omega, by omega⟩, Wk.mask [0, 2, 3, 9, 12, 13, 14, 15, 16, 17, 18] ⟨rfl, rfl⟩⟩
        · have q : ¬ j < now.length := by simpa using q
          have e1 : now.getD j 0 = 0 := getD_over (by omega)
          rw [e1]
          exact Wk.mask [0, 2, 3, 9, 12, 13, 14, 15, 16, 17, 18] ⟨rfl, rfl⟩
      rintro fr s3 ⟨rfl, rfl⟩
      refine aw_cut (fun fr s3 => fr = [.d (.sl 6 (cs.map celD)), .any, .d (.sl 1 (old.map iD)), .d (.sl 1 (now.map iD)), .any, .any, .any, .any, .any, db true, .any, .any, .d (.sl 1 (X.map iD)), .d (.sl 1 (Y.map iD)), .d (.sl 1 (L.map iD)), .d (.sl 1 (M.map iD)), dn j, di Z, di (now.getD j 0), .any, .any, .any, .any, .any, .any, .any, .any, .any, .any, .any, .any, .any, .any, .any, .any, .any, .any, .any, .any, .any, .any, .any, .any, .any, .any, .any, .any, .any, .any, .any, .any, .any, .any, .any, .any, .any, .any, .any, .any, .any, .any, .any, .any, .any, .any, .any, .any, .any, .any, .any, .any, .any, .any, .any, .any, .any, .any, .any, .any, .any, .any, .any, .any, .any, .any, .any, .any, .any, .any, .any, .any, .any, .any, .any, .any, .any, .any, .any, .any, .any, .any, .any, .any, .any, .any, .any, .any, .any, .any, .any, .any, .any, .any, .any, .any, .any, .any, .any, .any, .any, .any, .any, .any, .any, .any, .any, .any, .any, .any, .any, .any, .any, .any, .any, .any, .any, .any, .any, .any, .any, .any, .any, .any, .any, .any, .any, .any, .any, .any, .any, .any, .any, .any, .any, .any, .any, .any, .any, .any, .any, .any, .any, .any, .any] ∧ st = s3) ?_ ?_
      · have e1 := getD_isD (l := L) (j := j) (by omega)
        simp only [go_sem, e1, List.length_map, Int.toNat_natCast, Tryd.results4]
        refine ⟨⟨by omega, by omega⟩, fun q => ?_, fun q => ?_⟩
        · have q : L.getD j 0 = 0 := by simpa using q
          have eZ : Z = (cs.getD j cel0).init := by rw [← hZ, if_pos q]
          rw [eZ]
          simp only [go_sem, e2, List.length_map, Int.toNat_natCast, Nat.mul_one, Tryd.results4]
          exact ⟨⟨by omega, by omega⟩, Wk.mask [0, 2, 3, 9, 12, 13, 14, 15, 16, 17, 18] ⟨rfl, rfl⟩⟩
        · have q : ¬ L.getD j 0 = 0 := by simpa using q
          obtain ⟨_, _, p3, p4⟩ := hfo j hlt q
          obtain ⟨W, hW⟩ : ∃ W : Nat, wOf cs j = W := ⟨(wOf cs j).toNat, by omega⟩
          have eZ : Z = (lowb (old.getD j 0) W : Nat) := by rw [← hZ, if_neg q, hW, Int.toNat_natCast]
          rw [eZ]
          rw [hW] at e2
          simp only [go_sem, e2, List.length_map, Int.toNat_natCast, Nat.mul_one, Tryd.results4]
          refine ⟨⟨by omega, by omega⟩, ac' (pow_ac W (by omega) _ _ _ ?_)⟩
          have hbm := bAnd_mask (old.getD j 0) (w := W) (by omega)
          have hp2 := pow_le8 (w := W) (by omega)
          have hp1 := Nat.two_pow_pos W
          have hw1 : IntKind.i64.wrap (((2 ^ W : Nat) : Int) - 1) = ((2 ^ W : Nat) : Int) - 1 := wrap64_id _ (by omega) (by omega)
          simp only [go_sem, hw1, hbm, Tryd.results4]
          exact Wk.mask [0, 2, 3, 9, 12, 13, 14, 15, 16, 17, 18] ⟨rfl, rfl⟩
      rintro fr s3 ⟨rfl, rfl⟩
      refine aw_cut (fun fr s3 => fr = [.d (.sl 6 (cs.map celD)), .any, .d (.sl 1 (old.map iD)), .d (.sl 1 (now.map iD)), .any, .any, .any, .any, .any, db true, .any, .any, .d (.sl 1 (X.map iD)), .d (.sl 1 (Y.map iD)), .d (.sl 1 (L.map iD)), .d (.sl 1 (M.map iD)), dn j, di Z, di T, .any, .any, .any, .any, .any, .any, .any, .any, .any, .any, .any, .any, .any, .any, .any, .any, .any, .any, .any, .any, .any, .any, .any, .any, .any, .any, .any, .any, .any, .any, .any, .any, .any, .any, .any, .any, .any, .any, .any, .any, .any, .any, .any, .any, .any, .any, .any, .any, .any, .any, .any, .any, .any, .any, .any, .any, .any, .any, .any, .any, .any, .any, .any, .any, .any, .any, .any, .any, .any, .any, .any, .any, .any, .any, .any, .any, .any, .any, .any, .any, .any, .any, .any, .any, .any, .any, .any, .any, .any, .any, .any, .any, .any, .any, .any, .any, .any, .any, .any, .any, .any, .any, .any, .any, .any, .any, .any, .any, .any, .any, .any, .any, .any, .any, .any, .any, .any, .any, .any, .any, .any, .any, .any, .any, .any, .any, .any, .any, .any, .any, .any, .any, .any, .any, .any, .any, .any, .any, .any, .any, .any, .any, .any, .any, .any] ∧ st = s3) ?_ ?_
      · have e1 := getD_isD (l := M) (j := j) (by omega)
        simp only [go_sem, e1, List.length_map, Int.toNat_natCast, Tryd.results4]
        refine ⟨⟨by omega, by omega⟩, fun q => ?_, fun q => ?_⟩
        · have q : M.getD j 0 = 0 := by simpa using q
          have eZ : T = (cs.getD j cel0).init := by rw [← hT, if_pos q]
          rw [eZ]
          simp only [go_sem, e2, List.length_map, Int.toNat_natCast, Nat.mul_one, Tryd.results4]
          exact ⟨⟨by omega, by omega⟩, Wk.mask [0, 2, 3, 9, 12, 13, 14, 15, 16, 17, 18] ⟨rfl, rfl⟩⟩
        · have q : ¬ M.getD j 0 = 0 := by simpa using q
          obtain ⟨_, _, p3, p4⟩ := hfn j hlt q
          obtain ⟨W, hW⟩ : ∃ W : Nat, wOf cs j = W := ⟨(wOf cs j).toNat, by omega⟩
          have eZ : T = (lowb (now.getD j 0) W : Nat) := by rw [← hT, if_neg q, hW, Int.toNat_natCast]
          rw [eZ]
          rw [hW] at e2
          simp only [go_sem, e2, List.length_map, Int.toNat_natCast, Nat.mul_one, Tryd.results4]
          refine ⟨⟨by omega, by omega⟩, ac' (pow_ac W (by omega) _ _ _ ?_)⟩
          have hbm := bAnd_mask (now.getD j 0) (w := W) (by omega)
          have hp2 := pow_le8 (w := W) (by omega)
          have hp1 := Nat.two_pow_pos W
          have hw1 : IntKind.i64.wrap (((2 ^ W : Nat) : Int) - 1) = ((2 ^ W : Nat) : Int) - 1 := wrap64_id _ (by omega) (by omega)
          simp only [go_sem, hw1, hbm, Tryd.results4]
          exact Wk.mask [0, 2, 3, 9, 12, 13, 14, 15, 16, 17, 18] ⟨rfl, rfl⟩
      rintro fr s3 ⟨rfl, rfl⟩
      have e5 := getD_isD (l := X) (j := j) (by omega)
      have e6 := getD_isD (l := Y) (j := j) (by omega)
      have w1 := wrapS j (by omega)
      have n1 : (Z != Z) = false := by simp
      have n2 : (T != T) = false := by simp
      rw [x1] at e5
      rw [x2] at e6
      simp only [go_sem, e5, e6, n1, n2, w1, List.length_map, Int.toNat_natCast, Tryd.results4]
      exact ⟨⟨by omega, by omega⟩, ⟨by omega, by omega⟩, Wk.mask [0, 2, 3, 9, 12, 13, 14, 15, 16] ⟨cs.length - (j + 1), by omega, j + 1, hlt, rfl, rfl, rfl⟩⟩
    · have hd : decide ((j : Int) < (cs.length : Int)) = false := by simp; omega
      simp only [go_sem, hd, List.length_map, Tryd.results4]
      exact ret_d0 h
end Go.Proofs.YtkjlefahpdconaaDoor
end PartD5

section PartD6
/- Folding: plain facts; the closure that negates. -/
set_option linter.unusedSimpArgs false
set_option linter.unusedVariables false
set_option maxRecDepth 100000
namespace Go.Proofs.YtkjlefahpdconaaDoor
open Go Go.Ab

def kX (n : Int) : Ex := .mk 1 1 n []
theorem kX_d (n : Int) : (kX n).d = .agg [iD 1, iD 1, iD n, .sl 4 []] := by rw [Ex.d_eq]; rfl
theorem occ_false {cs : List Cel} {h g : Ex} {o : Int} (hn : ∀ n ∈ h.lvs ++ g.lvs, n.op ≠ o) : occB cs h g o = List.replicate cs.length false := by
  apply List.ext_getElem (by simp [occB])
  intro i h1 h2
  simp only [occB, List.getElem_map, List.getElem_range, List.getElem_replicate]
  rw [List.any_eq_false]
  intro n hm
  have := hn n hm
  simp [this]
theorem place_false : ∀ (n : Nat) (cs : List Cel) (m : Nat), (placeL (List.replicate n false) cs m).2 = m
  | 0, cs, m => rfl
  | n + 1, cs, m => by simp only [List.replicate_succ, placeL]; exact place_false n _ _
theorem first_const (cs : List Cel) (a b : Int) : firstV cs (kX a) (kX b) = 1 := by
  have hl : ∀ o : Int, o ≠ 1 → ∀ n ∈ (kX a).lvs ++ (kX b).lvs, n.op ≠ o := by
    intro o ho n hn
    rw [show (kX a).lvs ++ (kX b).lvs = [kX a, kX b] by rw [Ex.lvs_leaf rfl, Ex.lvs_leaf rfl]; rfl] at hn
    simp only [List.mem_cons, List.not_mem_nil, or_false] at hn
    rcases hn with rfl | rfl <;> exact fun e => ho e.symm
  simp only [firstV, layN, layO, occ_false (hl 2 (by decide)), occ_false (hl 3 (by decide)), place_false]
theorem trans_const (cs : List Cel) : transM cs (kX 1) (kX 0) [] = some (1, []) := rfl
theorem neg_const (cs : List Cel) : negR cs (cdA (kX 1) (kX 0)) = (⟨1, [[1], [1]]⟩, 0) := by
  rw [negR, trans_const, first_const]; rfl
theorem kX_formed1 : (kX 1).formed = true := by kernel_rfl
theorem kX_formed0 : (kX 0).formed = true := by kernel_rfl
theorem kX_over (n : Int) (cs : List Cel) : (kX n).over cs true = true := by
  simp [Ex.over, overL, Ex.overN, kX, Ex.op, Ex.n, Ex.w, Ex.kids]
theorem enc_const {cs : List Cel} (h : cs.length ≤ 32) : encR cs (cdA (kX 1) (kX 0)) = true :=
  encR_iff.2 ⟨h, ⟨kX_formed1, kX_over _ _⟩, ⟨kX_formed0, kX_over _ _⟩, rfl, rfl⟩
theorem enc_one {cs : List Cel} {c : Cnd} (h : encR cs c = true) : encR cs (cdA c.hyp (kX 1)) = true := by
  obtain ⟨h1, h2, h3, h4, h5⟩ := encR_iff.1 h
  exact encR_iff.2 ⟨h1, h2, ⟨kX_formed1, kX_over _ _⟩, h4, rfl⟩
def notX (e : Ex) : Ex := .mk 4 1 0 [e]
theorem notX_d (e : Ex) : (notX e).d = .agg [iD 4, iD 1, iD 0, .sl 4 [e.d]] := by rw [Ex.d_eq]; rfl
theorem not_ac (e : Ex) (σ : St) (G : Glob) (R : A → St → Prop) (h : R (.d (notX e).d) σ) : AC Tryd.prog G 24 [.d e.d] σ R := by
  rw [notX_d, Ex.d_eq e] at h
  rw [Ex.d_eq]
  refine ac_enter mixed Tryd.func24 rfl Tryd.ntmps24 (by simp only [go_sem]) fun hbd => ?_
  simp only [List.length_cons, List.length_nil, Nat.reduceAdd, Nat.reduceSub, List.replicate_succ, List.replicate_zero, List.cons_append, List.nil_append]
  simp only [go_sem, Tryd.results24]
  refine ret_w (Weak.deep [2] 6) ?_
  simp only [go_sem]
  exact ret_bd hbd rfl h
/-- What negating comes to. -/
theorem neg_cases {cs : List Cel} {c : Cnd} (he : encR cs c = true) : (∃ root gs, transM cs c.hyp c.goal [] = some (root, gs) ∧ negR cs c = (negF (firstV cs c.hyp c.goal) (root, gs), 0) ∧ ∀ old now, extR cs c old now = (extV cs c.hyp c.goal old now gs, 0)) ∨ (transM cs c.hyp c.goal [] = none ∧ negR cs c = (⟨0, []⟩, 2) ∧ ∀ old now, extR cs c old now = ([], 2)) := by
  cases ht : transM cs c.hyp c.goal [] with
  | none => exact .inr ⟨rfl, by rw [negR, ht], fun old now => by rw [extR, ht]⟩
  | some p => exact .inl ⟨p.1, p.2, rfl, by rw [negR, ht], fun old now => by rw [extR, ht]⟩
theorem neg_sizes {cs : List Cel} {c : Cnd} (he : encR cs c = true) : (negR cs c).1.cls.length ≤ 40000 ∧ ∀ x ∈ (negR cs c).1.cls, x.length ≤ 3 := by
  rcases neg_cases he with ⟨root, gs, ht, hn, -⟩ | ⟨-, hn, -⟩ <;> rw [hn]
  · exact ⟨((enc_of he).tr ht).len, neg_short⟩
  · exact ⟨by simp, by simp⟩
end Go.Proofs.YtkjlefahpdconaaDoor
end PartD6

section PartD7
/- Law 22.7: folding. -/
set_option linter.unusedSimpArgs false
set_option linter.unusedVariables false
set_option maxRecDepth 100000
namespace Go.Proofs.YtkjlefahpdconaaDoor
open Go Go.Ab

abbrev fO (f : Cnf) : Option Ob := some (.cells [di f.vars, .d (clsD f.cls)])
theorem one_last {cs : List Cel} {c : Cnd} (he : encR cs c = true) : (negR cs (cdA c.hyp (kX 1))).2 = 2 ∨ ((negR cs (cdA c.hyp (kX 1))).2 = 0 ∧ fineC (negR cs (cdA c.hyp (kX 1))).1 = true ∧ ∃ M : List (List Int), M.length < 40000 ∧ (negR cs (cdA c.hyp (kX 1))).1.cls = M ++ [[-1]]) := by
  have he1 := enc_one he
  rcases neg_cases he1 with ⟨root, gs, ht, hn, -⟩ | ⟨-, hn, -⟩ <;> rw [hn]
  · have t := (enc_of he1).tr ht
    have hr : root = -1 := root_one ht
    subst hr
    have := t.len
    simp only [negF, List.length_append, List.length_cons, List.length_nil] at this
    exact .inr ⟨rfl, t.fine, mostC (firstV cs c.hyp (kX 1)) gs, by omega, rfl⟩
  · exact .inl rfl
set_option maxHeartbeats 16000000 in
theorem law6_ac (cs : List Cel) (hc : cs.length ≤ reachBytes) (c : Cnd) (hok : c.Ok) (old now : List Int) (ho : old.length ≤ reachBytes) (hn : now.length ≤ reachBytes) (σ : St) (G : Glob) (hG : G.g 0 = some masksD) (R : A → St → Prop) (h : R (db true) σ) : AC Tryd.prog G 6 [.d (celsD cs), .d (cndD c), dL old, dL now] σ R := by
  refine ac_enterC' [4, 5, 6, 7, 9, 11, 13, 15, 16, 17, 21] mixed Tryd.func6 rfl Tryd.ntmps6 (by simp only [go_sem]) fun hbd => ?_
  simp only [List.length_cons, List.length_nil, Nat.reduceAdd, Nat.reduceSub, List.replicate_succ, List.replicate_zero, List.cons_append, List.nil_append]
  simp only [cndD, go_sem]
  refine ac' (head_ac _ _ hG _ ?_)
  simp only [go_sem]
  refine aw_cut (fun fr st => (encR cs c = true ∧ old.length ≤ 50 ∧ now.length ≤ 50) ∧ fr = [.d (celsD cs), .any, dL old, dL now, .any, .ref σ.length 0, .any, .any, .any, db true, .any, .any, .any, .any, .any, .any, .any, .any, .any, .any, .any, .any, .any, .any, .any, .any, .any, .any, .any, .any, .any, .any, .any, .any, .any, .any, .any, .any, .any, .any, .any, .any, .any, .any, .any, .any, .any, .any, .any, .any, .any, .any, .any, .any, .any, .any, .any, .any, .any, .any, .any, .any, .any, .any, .any, .any, .any, .any, .any, .any, .any, .any, .any, .any, .any, .any, .any, .any, .any, .any, .any, .any, .any, .any, .any, .any, .any, .any, .any, .any, .any, .any, .any, .any, .any, .any, .any, .any, .any, .any, .any, .any, .any, .any, .any, .any, .any, .any, .any, .any, .any, .any, .any, .any, .any, .any, .any, .any, .any, .any, .any, .any, .any, .any, .any, .any, .any, .any, .any, .any, .any, .any, .any, .any, .any, .any, .any, .any, .any, .any, .any, .any, .any, .any, .any, .any, .any, .any, .any, .any, .any, .any, .any, .any, .any, .any, .any, .any, .any] ∧ st = σ ++ [cdO c]) ?_ ?_
  · simp only [go_sem]
    rw [← cndD]
    refine ac' (lsmall_ac cs hc c hok 40 (by omega) _ _ _ ?_)
    cases hB : (smallR cs c 40 && encR cs c)
    · simp only [dL, isD, go_sem, Bool.not_false, Tryd.results6]
      exact ret_d hbd h
    have he : encR cs c = true := by rw [Bool.and_eq_true] at hB; exact hB.2
    simp only [dL, isD, go_sem, Bool.not_true, List.length_map, Tryd.results6]
    refine ⟨fun q => ret_d hbd h, fun q => ?_⟩
    simp only [Bool.false_or, Bool.or_eq_false_iff, decide_eq_false_iff_not, Bool.or_eq_true, not_or] at q
    refine Wk.mask [0, 2, 3, 5, 9] ⟨⟨he, ?_, ?_⟩, rfl, rfl⟩
    · omega
    · omega
  rintro fr st ⟨⟨he, ho5, hn5⟩, rfl, rfl⟩
  have E := enc_of he
  have he1 := enc_one he
  have hs1 := neg_sizes he1
  have h1 := one_last he
  obtain ⟨f1, hf1⟩ : ∃ f1, negR cs (cdA c.hyp (kX 1)) = f1 := ⟨_, rfl⟩
  rw [hf1] at h1 hs1
  refine aw_cut (fun fr st => fr = [.d (celsD cs), .any, dL old, dL now, .any, .ref σ.length 0, .any, .any, .any, db true, .ref (σ.length + 1) 0, .ref (σ.length + 2) 0, .any, .any, .any, .any, .any, .any, .any, .any, .any, .any, .any, .any, .any, .any, .any, .any, .any, .any, .any, .any, .any, .any, .any, .any, .any, .any, .any, .any, .any, .any, .any, .any, .any, .any, .any, .any, .any, .any, .any, .any, .any, .any, .any, .any, .any, .any, .any, .any, .any, .any, .any, .any, .any, .any, .any, .any, .any, .any, .any, .any, .any, .any, .any, .any, .any, .any, .any, .any, .any, .any, .any, .any, .any, .any, .any, .any, .any, .any, .any, .any, .any, .any, .any, .any, .any, .any, .any, .any, .any, .any, .any, .any, .any, .any, .any, .any, .any, .any, .any, .any, .any, .any, .any, .any, .any, .any, .any, .any, .any, .any, .any, .any, .any, .any, .any, .any, .any, .any, .any, .any, .any, .any, .any, .any, .any, .any, .any, .any, .any, .any, .any, .any, .any, .any, .any, .any, .any, .any, .any, .any, .any, .any, .any, .any, .any, .any, .any] ∧ st = σ ++ [cdO c, exA 1 1 1 [], exA 1 1 0 []]) ?_ ?_
  · simp only [go_sem]
    refine ac' (const_ac _ _ _ _ _ ?_)
    rw [show Ex.mk 1 1 1 [] = kX 1 from rfl, kX_d]
    simp only [go_sem]
    refine ac' (const_ac _ _ _ _ _ ?_)
    rw [show Ex.mk 1 1 0 [] = kX 0 from rfl, kX_d]
    simp only [go_sem]
    exact Wk.mask [0, 2, 3, 5, 9, 10, 11] ⟨by simp only [go_sem], by simp only [go_sem]⟩
  rintro fr st ⟨rfl, rfl⟩
  refine aw_cut (fun fr st => fr = [.d (celsD cs), .any, dL old, dL now, .any, .ref σ.length 0, .any, .any, .any, db true, .ref (σ.length + 1) 0, .ref (σ.length + 2) 0, .ref (σ.length + 3) 0, di f1.2, .any, .any, .any, .any, .any, .any, .any, .any, .any, .any, .any, .any, .any, .any, .any, .any, .any, .any, .any, .any, .any, .any, .any, .any, .any, .any, .any, .any, .any, .any, .any, .any, .any, .any, .any, .any, .any, .any, .any, .any, .any, .any, .any, .any, .any, .any, .any, .any, .any, .any, .any, .any, .any, .any, .any, .any, .any, .any, .any, .any, .any, .any, .any, .any, .any, .any, .any, .any, .any, .any, .any, .any, .any, .any, .any, .any, .any, .any, .any, .any, .any, .any, .any, .any, .any, .any, .any, .any, .any, .any, .any, .any, .any, .any, .any, .any, .any, .any, .any, .any, .any, .any, .any, .any, .any, .any, .any, .any, .any, .any, .any, .any, .any, .any, .any, .any, .any, .any, .any, .any, .any, .any, .any, .any, .any, .any, .any, .any, .any, .any, .any, .any, .any, .any, .any, .any, .any, .any, .any, .any, .any, .any, .any, .any, .any] ∧ st = σ ++ [cdO c, exA 1 1 1 [], exA 1 1 0 [], fO f1.1]) ?_ ?_
  · simp only [go_sem]
    refine ac' (neg_ac cs (cdA c.hyp (kX 1)) ⟨hok.hyp, ok0 _ _ _⟩ he1 _ _ hG _ ?_)
    rw [hf1]
    simp only [cnfD, go_sem]
    exact Wk.mask [0, 2, 3, 5, 9, 10, 11, 12, 13] ⟨by simp only [go_sem], by simp only [go_sem]⟩
  rintro fr st ⟨rfl, rfl⟩
  refine aw_cut (fun fr st => fr = [.d (celsD cs), .any, dL old, dL now, .any, .ref σ.length 0, .any, .any, .any, db true, .any, .any, .ref (σ.length + 1) 0, di f1.2, .ref (σ.length + 2) 0, di 0, .any, .any, .any, .any, .any, .any, .any, .any, .any, .any, .any, .any, .any, .any, .any, .any, .any, .any, .any, .any, .any, .any, .any, .any, .any, .any, .any, .any, .any, .any, .any, .any, .any, .any, .any, .any, .any, .any, .any, .any, .any, .any, .any, .any, .any, .any, .any, .any, .any, .any, .any, .any, .any, .any, .any, .any, .any, .any, .any, .any, .any, .any, .any, .any, .any, .any, .any, .any, .any, .any, .any, .any, .any, .any, .any, .any, .any, .any, .any, .any, .any, .any, .any, .any, .any, .any, .any, .any, .any, .any, .any, .any, .any, .any, .any, .any, .any, .any, .any, .any, .any, .any, .any, .any, .any, .any, .any, .any, .any, .any, .any, .any, .any, .any, .any, .any, .any, .any, .any, .any, .any, .any, .any, .any, .any, .any, .any, .any, .any, .any, .any, .any, .any, .any, .any, .any, .any, .any, .any, .any, .any, .any, .any] ∧ st = σ ++ [cdO c, fO f1.1, fO ⟨1, [[1], [1]]⟩]) ?_ ?_
  · simp only [go_sem]
    refine ac' (neg_ac cs (cdA (kX 1) (kX 0)) ⟨ok0 _ _ _, ok0 _ _ _⟩ (enc_const E.len) _ _ hG _ ?_)
    rw [neg_const]
    simp only [cnfD, go_sem]
    exact Wk.keep [0, 2, 3, 5, 9, 12, 13, 14, 15] [0, 3, 4] (by decide) (Nat.le_refl _) hbd ⟨by simp only [go_sem], by simp only [go_sem]⟩
  rintro fr st ⟨rfl, rfl⟩
  refine aw_cut (fun fr st => fr = [.d (celsD cs), .any, dL old, dL now, .any, .ref σ.length 0, .any, .any, .any, db true, .any, .any, .ref (σ.length + 1) 0, di f1.2, .any, .any, .any, .any, .any, .any, .any, .any, .any, .any, .any, .any, .any, .any, .any, .any, .any, .any, .any, .any, .any, .any, .any, .any, .any, .any, .any, .any, .any, .any, .any, .any, .any, .any, .any, .any, .any, .any, .any, .any, .any, .any, .any, .any, .any, .any, .any, .any, .any, .any, .any, .any, .any, .any, .any, .any, .any, .any, .any, .any, .any, .any, .any, .any, .any, .any, .any, .any, .any, .any, .any, .any, .any, .any, .any, .any, .any, .any, .any, .any, .any, .any, .any, .any, .any, .any, .any, .any, .any, .any, .any, .any, .any, .any, .any, .any, .any, .any, .any, .any, .any, .any, .any, .any, .any, .any, .any, .any, .any, .any, .any, .any, .any, .any, .any, .any, .any, .any, .any, .any, .any, .any, .any, .any, .any, .any, .any, .any, .any, .any, .any, .any, .any, .any, .any, .any, .any, .any, .any, .any, .any, .any, .any, .any, .any] ∧ st = σ ++ [cdO c, fO f1.1]) ?_ ?_
  · simp only [go_sem, Int.reduceBNe]
    refine exs ⟨fun _ => ?_, fun h => Bool.noConfusion h⟩
    simp only [go_sem]
    refine ac' (ac_weak (Weak.deep [3, 4, 5] 6) ?_)
    simp only [go_sem]
    refine same_ac ⟨1, [[1], [1]]⟩ ⟨1, [[1], [1]]⟩ (by decide) (by decide) (by decide) (by decide) _ _ _ ?_
    simp only [go_sem, and_self, decide_true, Bool.not_true, Int.reduceBNe, Tryd.results6]
    refine Wk.pre [0, 2, 3, 5, 9, 12, 13] ?_
    exact Wk.keep [0, 2, 3, 5, 9, 12, 13] [0, 1] (by decide) (Nat.le_refl _) hbd ⟨by simp only [go_sem], by simp only [go_sem]⟩
  rintro fr st ⟨rfl, rfl⟩
  refine aw_cut (fun fr st => fr = [.d (celsD cs), .any, dL old, dL now, .any, .ref σ.length 0, .any, .any, .any, db true, .any, .any, .any, .any, .any, .any, .any, .any, .any, .any, .any, .any, .any, .any, .any, .any, .any, .any, .any, .any, .any, .any, .any, .any, .any, .any, .any, .any, .any, .any, .any, .any, .any, .any, .any, .any, .any, .any, .any, .any, .any, .any, .any, .any, .any, .any, .any, .any, .any, .any, .any, .any, .any, .any, .any, .any, .any, .any, .any, .any, .any, .any, .any, .any, .any, .any, .any, .any, .any, .any, .any, .any, .any, .any, .any, .any, .any, .any, .any, .any, .any, .any, .any, .any, .any, .any, .any, .any, .any, .any, .any, .any, .any, .any, .any, .any, .any, .any, .any, .any, .any, .any, .any, .any, .any, .any, .any, .any, .any, .any, .any, .any, .any, .any, .any, .any, .any, .any, .any, .any, .any, .any, .any, .any, .any, .any, .any, .any, .any, .any, .any, .any, .any, .any, .any, .any, .any, .any, .any, .any, .any, .any, .any, .any, .any, .any, .any, .any, .any] ∧ st = σ ++ [cdO c]) ?_ ?_
  · rcases h1 with e0 | ⟨e0, hfine, M, hM, hcl⟩
    · simp only [e0, go_sem, Int.reduceBEq]
      refine ex' (.bool true) ⟨fun q => ?_, ?_⟩
      · exact Bool.noConfusion q
      simp only [clsD, go_sem, List.length_map, Bool.not_true, Tryd.results6]
      refine ex' (.bool true) ⟨fun q => ?_, ?_⟩
      · exact Bool.noConfusion q
      simp only [go_sem, Tryd.results6]
      exact Wk.keep [0, 2, 3, 5, 9] [0] (by decide) (Nat.le_refl _) hbd ⟨by simp only [go_sem], by simp only [go_sem]⟩
    · obtain ⟨⟨fv, fc⟩, fe⟩ := f1
      simp only at e0 hcl hfine hs1
      subst e0 hcl
      simp only [go_sem, Int.reduceBEq]
      refine exs ⟨fun _ => ?_, fun h => Bool.noConfusion h⟩
      simp only [go_sem]
      refine ac' (fine_ac ⟨fv, M ++ [[-1]]⟩ (reach_le (show (M ++ [[-1]]).length ≤ 100000 by omega)) (fun x hx => reach_le (Nat.le_trans (hs1.2 x hx) (by omega))) _ _ _ ?_)
      rw [hfine]
      have w1 : IntKind.i64.wrap (((M.length + 1 : Nat) : Int) - 1) = (M.length : Nat) := by
        rw [wrap64_id _ (by omega) (by omega)]; omega
      have g1 : List.getD ((M ++ [[-1]]).map isD) M.length default = .sl 1 [iD (-1)] := by
        rw [List.map_append, List.getD_eq_getElem?_getD, List.getElem?_append_right (by simp)]; simp [isD]
      simp only [clsD, go_sem, Bool.not_true, List.length_map, List.length_append, List.length_cons, List.length_nil, Nat.zero_add, w1, Int.toNat_natCast, g1, Tryd.results6]
      refine ⟨⟨by omega, by omega⟩, exs ⟨fun _ => ?_, fun h => Bool.noConfusion h⟩⟩
      simp only [go_sem]
      refine ac' (ac_weak (Weak.deep [2] 6) ?_)
      simp only [go_sem]
      refine sameInts_ac [-1] [-1] (by decide) (by decide) _ _ _ ?_
      simp only [go_sem, decide_true, Bool.not_true, Tryd.results6]
      refine Wk.pre [0, 2, 3, 5, 9] ?_
      exact Wk.keep [0, 2, 3, 5, 9] [0] (by decide) (Nat.le_refl _) hbd ⟨by simp only [go_sem], by simp only [go_sem]⟩
  rintro fr st ⟨rfl, rfl⟩
  simp only [go_sem]
  refine aw_cut (fun fr st => fr = [.d (celsD cs), .any, dL old, dL now, .any, .ref σ.length 0, .any, .any, .any, db true, .any, .any, .any, .any, .any, .any, .any, .ref (σ.length + 1) 0, .any, .any, .any, .any, .any, .any, .any, .any, .any, .any, .any, .any, .any, .any, .any, .any, .any, .any, .any, .any, .any, .any, .any, .any, .any, .any, .any, .any, .any, .any, .any, .any, .any, .any, .any, .any, .any, .any, .any, .any, .any, .any, .any, .any, .any, .any, .any, .any, .any, .any, .any, .any, .any, .any, .any, .any, .any, .any, .any, .any, .any, .any, .any, .any, .any, .any, .any, .any, .any, .any, .any, .any, .any, .any, .any, .any, .any, .any, .any, .any, .any, .any, .any, .any, .any, .any, .any, .any, .any, .any, .any, .any, .any, .any, .any, .any, .any, .any, .any, .any, .any, .any, .any, .any, .any, .any, .any, .any, .any, .any, .any, .any, .any, .any, .any, .any, .any, .any, .any, .any, .any, .any, .any, .any, .any, .any, .any, .any, .any, .any, .any, .any, .any, .any, .any, .any, .any, .any, .any, .any, .any] ∧ st = σ ++ [cdO c, cdO (cdA (notX c.goal) (notX c.hyp))]) ?_ ?_
  · simp only [go_sem]
    refine aw_plan (.tk 3 0 <| .take 4 <| .pure 3 <| .tk 2 5 <| .pure 7 <| .tk 3 8 <| .done) (by kernel_rfl) ?_
    simp only [go_sem]
    refine exP (.d (notX c.goal).d) ⟨fun σ' => ?_, ?_⟩
    · simp only [go_sem]
      rw [← Ex.d_eq]
      exact ac' (not_ac c.goal _ _ _ ⟨rfl, rfl⟩)
    simp only [go_sem]
    refine exP (.d (notX c.hyp).d) ⟨fun σ' => ?_, ?_⟩
    · simp only [go_sem]
      rw [← Ex.d_eq]
      exact ac' (not_ac c.hyp _ _ _ ⟨rfl, rfl⟩)
    rw [notX_d, notX_d]
    simp only [go_sem]
    exact Wk.mask [0, 2, 3, 5, 9, 17] ⟨by simp only [go_sem], rfl⟩
  rintro fr st ⟨rfl, rfl⟩
  have hok2 : (cdA (notX c.goal) (notX c.hyp)).Ok := ⟨ok1 _ _ _ hok.goal, ok1 _ _ _ hok.hyp⟩
  refine aw_cut (fun fr st => encR cs (cdA (notX c.goal) (notX c.hyp)) = true ∧ fr = [.d (celsD cs), .any, dL old, dL now, .any, .ref σ.length 0, .any, .any, .any, db true, .any, .any, .any, .any, .any, .any, .any, .ref (σ.length + 1) 0, .any, .any, .any, .any, .any, .any, .any, .any, .any, .any, .any, .any, .any, .any, .any, .any, .any, .any, .any, .any, .any, .any, .any, .any, .any, .any, .any, .any, .any, .any, .any, .any, .any, .any, .any, .any, .any, .any, .any, .any, .any, .any, .any, .any, .any, .any, .any, .any, .any, .any, .any, .any, .any, .any, .any, .any, .any, .any, .any, .any, .any, .any, .any, .any, .any, .any, .any, .any, .any, .any, .any, .any, .any, .any, .any, .any, .any, .any, .any, .any, .any, .any, .any, .any, .any, .any, .any, .any, .any, .any, .any, .any, .any, .any, .any, .any, .any, .any, .any, .any, .any, .any, .any, .any, .any, .any, .any, .any, .any, .any, .any, .any, .any, .any, .any, .any, .any, .any, .any, .any, .any, .any, .any, .any, .any, .any, .any, .any, .any, .any, .any, .any, .any, .any, .any, .any, .any, .any, .any, .any, .any] ∧ st = σ ++ [cdO c, cdO (cdA (notX c.goal) (notX c.hyp))]) ?_ ?_
  · simp only [go_sem]
    refine ac' (lsmall_ac cs hc (cdA (notX c.goal) (notX c.hyp)) hok2 42 (by omega) _ _ _ ?_)
    cases hB : (smallR cs (cdA (notX c.goal) (notX c.hyp)) 42 && encR cs (cdA (notX c.goal) (notX c.hyp)))
    · simp only [go_sem, Bool.not_false, Tryd.results6]
      exact ret_d hbd h
    have he : encR cs (cdA (notX c.goal) (notX c.hyp)) = true := by rw [Bool.and_eq_true] at hB; exact hB.2
    simp only [go_sem, Bool.not_true, Tryd.results6]
    exact Wk.mask [0, 2, 3, 5, 9, 17] ⟨he, by simp only [go_sem], rfl⟩
  rintro fr st ⟨he2, rfl, rfl⟩
  generalize hd2 : cdA (notX c.goal) (notX c.hyp) = d at he2 hok2
  have E2 := enc_of he2
  refine aw_cut (fun fr st => fr = [.d (celsD cs), .any, dL old, dL now, .any, .ref σ.length 0, .any, .any, .any, db true, .any, .any, .any, .any, .any, .any, .any, .ref (σ.length + 1) 0, .ref (σ.length + 2) 0, di (negR cs c).2, .any, .any, .any, .any, .any, .any, .any, .any, .any, .any, .any, .any, .any, .any, .any, .any, .any, .any, .any, .any, .any, .any, .any, .any, .any, .any, .any, .any, .any, .any, .any, .any, .any, .any, .any, .any, .any, .any, .any, .any, .any, .any, .any, .any, .any, .any, .any, .any, .any, .any, .any, .any, .any, .any, .any, .any, .any, .any, .any, .any, .any, .any, .any, .any, .any, .any, .any, .any, .any, .any, .any, .any, .any, .any, .any, .any, .any, .any, .any, .any, .any, .any, .any, .any, .any, .any, .any, .any, .any, .any, .any, .any, .any, .any, .any, .any, .any, .any, .any, .any, .any, .any, .any, .any, .any, .any, .any, .any, .any, .any, .any, .any, .any, .any, .any, .any, .any, .any, .any, .any, .any, .any, .any, .any, .any, .any, .any, .any, .any, .any, .any, .any, .any, .any, .any, .any, .any, .any, .any] ∧ st = σ ++ [cdO c, cdO d, fO (negR cs c).1]) ?_ ?_
  · simp only [go_sem]
    rw [← cndD]
    refine ac' (neg_ac cs c hok he _ _ hG _ ?_)
    simp only [cnfD, go_sem]
    exact Wk.mask [0, 2, 3, 5, 9, 17, 18, 19] ⟨by simp only [go_sem], by simp only [go_sem]⟩
  rintro fr st ⟨rfl, rfl⟩
  refine aw_cut (fun fr st => fr = [.d (celsD cs), .any, dL old, dL now, .any, .ref σ.length 0, .any, .any, .any, db true, .any, .any, .any, .any, .any, .any, .any, .ref (σ.length + 1) 0, .ref (σ.length + 2) 0, di (negR cs c).2, .ref (σ.length + 3) 0, di (negR cs d).2, .any, .any, .any, .any, .any, .any, .any, .any, .any, .any, .any, .any, .any, .any, .any, .any, .any, .any, .any, .any, .any, .any, .any, .any, .any, .any, .any, .any, .any, .any, .any, .any, .any, .any, .any, .any, .any, .any, .any, .any, .any, .any, .any, .any, .any, .any, .any, .any, .any, .any, .any, .any, .any, .any, .any, .any, .any, .any, .any, .any, .any, .any, .any, .any, .any, .any, .any, .any, .any, .any, .any, .any, .any, .any, .any, .any, .any, .any, .any, .any, .any, .any, .any, .any, .any, .any, .any, .any, .any, .any, .any, .any, .any, .any, .any, .any, .any, .any, .any, .any, .any, .any, .any, .any, .any, .any, .any, .any, .any, .any, .any, .any, .any, .any, .any, .any, .any, .any, .any, .any, .any, .any, .any, .any, .any, .any, .any, .any, .any, .any, .any, .any, .any, .any, .any, .any, .any] ∧ st = σ ++ [cdO c, cdO d, fO (negR cs c).1, fO (negR cs d).1]) ?_ ?_
  · simp only [go_sem]
    rw [← cndD]
    refine ac' (neg_ac cs d hok2 he2 _ _ hG _ ?_)
    simp only [cnfD, go_sem]
    exact Wk.mask [0, 2, 3, 5, 9, 17, 18, 19, 20, 21] ⟨by simp only [go_sem], by simp only [go_sem]⟩
  rintro fr st ⟨rfl, rfl⟩
  have hs1 := neg_sizes he
  have hs2 := neg_sizes he2
  have hev : ∀ root gs, transM cs c.hyp c.goal [] = some (root, gs) → evalC (negF (firstV cs c.hyp c.goal) (root, gs)) (extV cs c.hyp c.goal old now gs) = bad c old now := fun root gs ht => E.meaning_all (E.tr ht)
  have hev2 : ∀ root gs, transM cs d.hyp d.goal [] = some (root, gs) → evalC (negF (firstV cs d.hyp d.goal) (root, gs)) (extV cs d.hyp d.goal old now gs) = bad c old now := fun root gs ht => by
    rw [E2.meaning_all (E2.tr ht), ← hd2]
    exact E.folded
  have hxl : ∀ root gs, transM cs c.hyp c.goal [] = some (root, gs) → (extV cs c.hyp c.goal old now gs).length ≤ reachBytes := fun root gs ht => by
    rw [ext_len]; exact reach_le (Nat.le_trans (E.tr ht).good.fit.1 (by omega))
  have hxl2 : ∀ root gs, transM cs d.hyp d.goal [] = some (root, gs) → (extV cs d.hyp d.goal old now gs).length ≤ reachBytes := fun root gs ht => by
    rw [ext_len]; exact reach_le (Nat.le_trans (E2.tr ht).good.fit.1 (by omega))
  rcases neg_cases he with ⟨root, gs, ht, hn1, hx⟩ | ⟨-, hn1, -⟩
  · rcases neg_cases he2 with ⟨root2, gs2, ht2, hn2, hx2⟩ | ⟨-, hn2, -⟩
    · replace hev := hev _ _ ht
      replace hev2 := hev2 _ _ ht2
      replace hxl := hxl _ _ ht
      replace hxl2 := hxl2 _ _ ht2
      replace hx := hx old now
      replace hx2 := hx2 old now
      rw [hn1] at hs1 ⊢
      rw [hn2] at hs2 ⊢
      generalize negF (firstV cs c.hyp c.goal) (root, gs) = F at *
      generalize negF (firstV cs d.hyp d.goal) (root2, gs2) = F2 at *
      generalize extV cs c.hyp c.goal old now gs = X at *
      generalize extV cs d.hyp d.goal old now gs2 = X2 at *
      simp only [go_sem, Int.reduceBNe, Tryd.results6]
      rw [← cndD]
      refine ac' (ext_ac cs c hok he old now ho hn _ _ hG _ ?_)
      rw [hx]
      simp only [go_sem]
      refine aw_cut (fun fr st => fr = [.any, .any, .any, .any, .any, .any, .any, .any, .any, db true, .any, .any, .any, .any, .any, .any, .any, .any, .ref σ.length 0, .any, .ref (σ.length + 1) 0, .any, .d (bsD X), di 0, .d (bsD X2), di 0, .any, .any, .any, .any, .any, .any, .any, .any, .any, .any, .any, .any, .any, .any, .any, .any, .any, .any, .any, .any, .any, .any, .any, .any, .any, .any, .any, .any, .any, .any, .any, .any, .any, .any, .any, .any, .any, .any, .any, .any, .any, .any, .any, .any, .any, .any, .any, .any, .any, .any, .any, .any, .any, .any, .any, .any, .any, .any, .any, .any, .any, .any, .any, .any, .any, .any, .any, .any, .any, .any, .any, .any, .any, .any, .any, .any, .any, .any, .any, .any, .any, .any, .any, .any, .any, .any, .any, .any, .any, .any, .any, .any, .any, .any, .any, .any, .any, .any, .any, .any, .any, .any, .any, .any, .any, .any, .any, .any, .any, .any, .any, .any, .any, .any, .any, .any, .any, .any, .any, .any, .any, .any, .any, .any, .any, .any, .any, .any, .any, .any, .any, .any, .any] ∧ st = σ ++ [fO F, fO F2]) ?_ ?_
      · simp only [go_sem]
        rw [← cndD]
        refine ac' (ext_ac cs d hok2 he2 old now ho hn _ _ hG _ ?_)
        rw [hx2]
        simp only [go_sem]
        exact Wk.keep [9, 18, 20, 22, 23, 24, 25] [2, 3] (by decide) (Nat.le_refl _) hbd ⟨by simp only [go_sem], by simp only [go_sem]⟩
      rintro fr st ⟨rfl, rfl⟩
      simp only [go_sem]
      refine aw_plan (.tk 12 0 <| .take 14 <| .pure 12 <| .take 13 <| .pure 15 <| .tk 3 16 <| .done) (by kernel_rfl) ?_
      simp only [go_sem, Int.reduceBEq]
      refine exQ (.bool (bad c old now)) ⟨fun _ => ?_, ?_⟩
      · simp only [go_sem]
        exact fun σ' => ac' (ceval_ac F X (reach_le (Nat.le_trans hs1.1 (by omega))) (fun x hx => reach_le (Nat.le_trans (hs1.2 x hx) (by omega))) hxl _ _ _ ⟨by rw [hev], rfl⟩)
      simp only [go_sem, Int.reduceBEq]
      refine exQ (.bool (bad c old now)) ⟨fun _ => ?_, ?_⟩
      · simp only [go_sem]
        exact fun σ' => ac' (ceval_ac F2 X2 (reach_le (Nat.le_trans hs2.1 (by omega))) (fun x hx => reach_le (Nat.le_trans (hs2.2 x hx) (by omega))) hxl2 _ _ _ ⟨by rw [hev2], rfl⟩)
      have e1 : (bad c old now == bad c old now) = true := by simp
      simp only [go_sem, Int.reduceBEq, e1, Tryd.results6]
      exact ret_d hbd h
    · rw [hn1, hn2]
      simp only [go_sem, Int.reduceBNe, Tryd.results6]
      exact ret_d hbd h
  · rw [hn1]
    simp only [go_sem, Int.reduceBNe, Tryd.results6]
    exact ret_d hbd h
end Go.Proofs.YtkjlefahpdconaaDoor
end PartD7

section PartD8
/- Satisfiable: all assignments by numbers. -/
set_option linter.unusedSimpArgs false
set_option linter.unusedVariables false
set_option maxRecDepth 100000
namespace Go.Proofs.YtkjlefahpdconaaDoor
open Go Go.Ab

def vsN (N n : Nat) : List Bool := (List.range N).map fun i => n.testBit i
theorem vsN_len (N n : Nat) : (vsN N n).length = N := by simp [vsN]
theorem vsN_all : ∀ (l : List Bool), ∃ n, n < 2 ^ l.length ∧ vsN l.length n = l
  | [] => ⟨0, by simp, rfl⟩
  | b :: l => by
    obtain ⟨n, hn, e⟩ := vsN_all l
    refine ⟨b2n b + 2 * n, ?_, ?_⟩
    · have : b2n b < 2 := b2n_lt b
      simp only [List.length_cons, Nat.pow_succ]; omega
    · have hb0 : (b2n b + 2 * n).testBit 0 = b := by
        cases b <;> simp [b2n, Nat.testBit_zero]
      have hbs : ∀ i, (b2n b + 2 * n).testBit (i + 1) = n.testBit i := fun i => by
        rw [Nat.testBit_succ]; congr 1
        have : b2n b < 2 := b2n_lt b
        omega
      simp only [vsN, List.length_cons, List.range_succ_eq_map, List.map_cons, List.map_map, hb0]
      congr 1
      refine Eq.trans ?_ e
      simp only [vsN]
      apply List.map_congr_left
      intro i _
      exact hbs i
section
variable (cs : List Cel) (c : Cnd) (F : Cnf) (N : Nat)
/-- Does the assignment of number n denote states that falsify the condition? -/
def badN (n : Nat) : Bool := bad c (decS cs (lO cs c.hyp c.goal) (vsN N n)) (decS cs (lN cs c.hyp c.goal) (vsN N n))
def someB (p : Nat → Bool) (n : Nat) : Bool := (List.range n).any p
theorem someB_succ (p : Nat → Bool) (n : Nat) : someB p (n + 1) = (someB p n || p n) := by simp [someB, List.range_succ]
theorem someB_iff (p : Nat → Bool) (n : Nat) : someB p n = true ↔ ∃ i, i < n ∧ p i = true := by simp [someB]
end
/-- SATISFIABLE, both ways. -/
theorem sat_iff {cs : List Cel} {c : Cnd} (E : Enc cs c.hyp c.goal) {root : Int} {gs : List Gt} (t : TR cs c.hyp c.goal root gs) :
    (∀ n, evalC (negF (firstV cs c.hyp c.goal) (root, gs)) (vsN (firstV cs c.hyp c.goal + gs.length) n) = true → badN cs c (firstV cs c.hyp c.goal + gs.length) n = true) ∧
    someB (fun n => evalC (negF (firstV cs c.hyp c.goal) (root, gs)) (vsN (firstV cs c.hyp c.goal + gs.length) n)) (2 ^ (firstV cs c.hyp c.goal + gs.length)) = someB (badN cs c (firstV cs c.hyp c.goal + gs.length)) (2 ^ (firstV cs c.hyp c.goal + gs.length)) := by
  have h1 : ∀ n, evalC (negF (firstV cs c.hyp c.goal) (root, gs)) (vsN (firstV cs c.hyp c.goal + gs.length) n) = true → badN cs c (firstV cs c.hyp c.goal + gs.length) n = true := fun n he => E.sat_bad t (vsN_len _ _) he
  refine ⟨h1, ?_⟩
  rw [Bool.eq_iff_iff, someB_iff, someB_iff]
  constructor
  · rintro ⟨i, hi, he⟩
    exact ⟨i, hi, h1 i he⟩
  · rintro ⟨i, hi, hb⟩
    have hs := E.bad_sat t hb
    generalize hX : extV cs c.hyp c.goal (decS cs (lO cs c.hyp c.goal) (vsN (firstV cs c.hyp c.goal + gs.length) i)) (decS cs (lN cs c.hyp c.goal) (vsN (firstV cs c.hyp c.goal + gs.length) i)) gs = X at hs
    have hl : X.length = firstV cs c.hyp c.goal + gs.length := by rw [← hX, ext_len]
    obtain ⟨n, hn, e⟩ := vsN_all X
    rw [hl] at hn e
    exact ⟨n, hn, by rw [e]; exact hs⟩
/-- The bit that the law's program computes. -/
theorem bit_div (n i : Nat) : ((Int.tdiv (n : Int) ((2 ^ i : Nat) : Int)).tmod 2 == 1) = n.testBit i := by
  have e : (Int.tdiv (n : Int) ((2 ^ i : Nat) : Int)) = ((n / 2 ^ i : Nat) : Int) := by
    rw [Int.tdiv_eq_ediv_of_nonneg (by omega)]; simp
  rw [e, show (2 : Int) = ((2 : Nat) : Int) from rfl]
  have e2 : ((n / 2 ^ i : Nat) : Int).tmod ((2 : Nat) : Int) = ((n / 2 ^ i % 2 : Nat) : Int) := by
    rw [Int.tmod_eq_emod_of_nonneg (Int.natCast_nonneg _)]; simp
  rw [e2, Nat.testBit_eq_decide_div_mod_eq, Bool.eq_iff_iff, beq_iff_eq, decide_eq_true_eq]
  omega
end Go.Proofs.YtkjlefahpdconaaDoor
end PartD8

section PartD9
/- Law 22.4: satisfiable. -/
set_option linter.unusedSimpArgs false
set_option linter.unusedVariables false
set_option maxRecDepth 100000
namespace Go.Proofs.YtkjlefahpdconaaDoor
open Go Go.Ab

def bpart (N n i : Nat) : List Bool := (List.range N).map fun k => decide (k < i) && n.testBit k
theorem bpart_len (N n i : Nat) : (bpart N n i).length = N := by simp [bpart]
theorem bpart_zero (N n : Nat) : bpart N n 0 = List.replicate N false := by
  apply List.ext_getElem (by simp [bpart])
  intro i h1 h2
  simp [bpart]
theorem bpart_all (N n : Nat) : bpart N n N = vsN N n := by
  simp only [bpart, vsN]
  apply List.map_congr_left
  intro i hi
  rw [List.mem_range] at hi
  simp [hi]
theorem bpart_set (N n i : Nat) : (bpart N n i).set i (n.testBit i) = bpart N n (i + 1) := by
  apply List.ext_getElem (by simp [bpart])
  intro k h1 h2
  rw [List.getElem_set]
  simp only [bpart, List.getElem_map, List.getElem_range]
  split
  · rename_i e
    subst e
    simp
  · rename_i e
    have : decide (k < i + 1) = decide (k < i) := by apply decide_eq_decide.2; omega
    rw [this]
theorem pow_le12 {N : Nat} (h : N ≤ 12) : 2 ^ N ≤ 4096 := Nat.pow_le_pow_right (n := 2) (j := 12) (by omega) h
set_option maxHeartbeats 16000000 in
theorem law8_ac (cs : List Cel) (hc : cs.length ≤ reachBytes) (c : Cnd) (hok : c.Ok) (σ : St) (G : Glob) (hG : G.g 0 = some masksD) (R : A → St → Prop) (h : R (db true) σ) : AC Tryd.prog G 8 [.d (celsD cs), .d (cndD c)] σ R := by
  refine ac_enterC' [4, 5, 7, 9, 18] mixed Tryd.func8 rfl Tryd.ntmps8 (by simp only [go_sem]) fun hbd => ?_
  simp only [List.length_cons, List.length_nil, Nat.reduceAdd, Nat.reduceSub, List.replicate_succ, List.replicate_zero, List.cons_append, List.nil_append]
  simp only [cndD, go_sem]
  refine ac' (head_ac _ _ hG _ ?_)
  simp only [go_sem]
  refine aw_cut (fun fr st => encR cs c = true ∧ fr = [.d (celsD cs), .any, .any, .ref σ.length 0, .any, db true, .any, .any, .any, .any, .any, .any, .any, .any, .any, .any, .any, .any, .any, .any, .any, .any, .any, .any, .any, .any, .any, .any, .any, .any, .any, .any, .any, .any, .any, .any, .any, .any, .any, .any, .any, .any, .any, .any, .any, .any, .any, .any, .any, .any, .any, .any, .any, .any, .any, .any, .any, .any, .any, .any, .any, .any, .any, .any, .any, .any, .any, .any, .any, .any, .any, .any, .any, .any, .any, .any, .any, .any, .any, .any, .any, .any, .any, .any, .any, .any, .any, .any, .any, .any, .any, .any, .any, .any] ∧ st = σ ++ [cdO c]) ?_ ?_
  · simp only [go_sem]
    rw [← cndD]
    refine ac' (lsmall_ac cs hc c hok 30 (by omega) _ _ _ ?_)
    cases hB : (smallR cs c 30 && encR cs c)
    · simp only [go_sem, Bool.not_false, Tryd.results8]
      exact ret_d hbd h
    have he : encR cs c = true := by rw [Bool.and_eq_true] at hB; exact hB.2
    simp only [go_sem, Bool.not_true, Tryd.results8]
    exact Wk.mask [0, 3, 5] ⟨he, rfl, rfl⟩
  rintro fr st ⟨he, rfl, rfl⟩
  have E := enc_of he
  have hsz := neg_sizes he
  rcases neg_cases he with ⟨root, gs, ht, hn, -⟩ | ⟨-, hn, -⟩
  · have t := E.tr ht
    have hsat := sat_iff E t
    have hfine := t.fine
    have hfit := t.good.fit.1
    obtain ⟨N, hN⟩ : ∃ N, firstV cs c.hyp c.goal + gs.length = N := ⟨_, rfl⟩
    have hFv : (negF (firstV cs c.hyp c.goal) (root, gs)).vars = (N : Nat) := by rw [← hN]; rfl
    rw [hn] at hsz
    rw [hN] at hsat hfit
    generalize negF (firstV cs c.hyp c.goal) (root, gs) = F at *
    obtain ⟨s1, s2⟩ := hsat
    obtain ⟨fv, fc⟩ := F
    simp only at hFv hsz
    subst hFv
    refine aw_cut (fun fr st => fr = [.d (celsD cs), .any, .any, .ref σ.length 0, .any, db true, .ref (σ.length + 1) 0, di 0, .any, .any, .any, .any, .any, .any, .any, .any, .any, .any, .any, .any, .any, .any, .any, .any, .any, .any, .any, .any, .any, .any, .any, .any, .any, .any, .any, .any, .any, .any, .any, .any, .any, .any, .any, .any, .any, .any, .any, .any, .any, .any, .any, .any, .any, .any, .any, .any, .any, .any, .any, .any, .any, .any, .any, .any, .any, .any, .any, .any, .any, .any, .any, .any, .any, .any, .any, .any, .any, .any, .any, .any, .any, .any, .any, .any, .any, .any, .any, .any, .any, .any, .any, .any, .any, .any] ∧ st = σ ++ [cdO c, fO ⟨N, fc⟩]) ?_ ?_
    · simp only [go_sem]
      rw [← cndD]
      refine ac' (neg_ac cs c hok he _ _ hG _ ?_)
      rw [hn]
      simp only [cnfD, go_sem]
      exact Wk.mask [0, 3, 5, 6, 7] ⟨by simp only [go_sem], by simp only [go_sem]⟩
    rintro fr st ⟨rfl, rfl⟩
    refine aw_cut (fun fr st => N ≤ 12 ∧ fr = [.d (celsD cs), .any, .any, .ref σ.length 0, .any, db true, .ref (σ.length + 1) 0, di 0, .any, .any, .any, .any, .any, .any, .any, .any, .any, .any, .any, .any, .any, .any, .any, .any, .any, .any, .any, .any, .any, .any, .any, .any, .any, .any, .any, .any, .any, .any, .any, .any, .any, .any, .any, .any, .any, .any, .any, .any, .any, .any, .any, .any, .any, .any, .any, .any, .any, .any, .any, .any, .any, .any, .any, .any, .any, .any, .any, .any, .any, .any, .any, .any, .any, .any, .any, .any, .any, .any, .any, .any, .any, .any, .any, .any, .any, .any, .any, .any, .any, .any, .any, .any, .any, .any] ∧ st = σ ++ [cdO c, fO ⟨N, fc⟩]) ?_ ?_
    · simp only [go_sem, Int.reduceBEq]
      simp only [Tryd.results8, go_sem]
      refine ⟨fun q => ret_d hbd h, fun q => ?_⟩
      have q : ¬ (12 : Int) < N := by simpa using q
      exact Wk.mask [0, 3, 5, 6, 7] ⟨by omega, by simp only [go_sem], by simp only [go_sem]⟩
    rintro fr st ⟨h12, rfl, rfl⟩
    have hp2 := pow_le12 h12
    have hp1 := Nat.two_pow_pos N
    refine aw_cut (fun fr st => fr = [.d (celsD cs), .any, .any, .ref σ.length 0, .any, db true, .ref (σ.length + 1) 0, .any, .any, .any, .any, .any, .any, .any, .any, .any, .any, .any, .any, .any, .any, .any, .any, .any, .any, .any, .any, .any, .any, .any, .any, .any, .any, .any, .any, .any, .any, .any, .any, .any, .any, .any, .any, .any, .any, .any, .any, .any, .any, .any, .any, .any, .any, .any, .any, .any, .any, .any, .any, .any, .any, .any, .any, .any, .any, .any, .any, .any, .any, .any, .any, .any, .any, .any, .any, .any, .any, .any, .any, .any, .any, .any, .any, .any, .any, .any, .any, .any, .any, .any, .any, .any, .any, .any] ∧ st = σ ++ [cdO c, fO ⟨N, fc⟩]) ?_ ?_
    · simp only [go_sem, Int.reduceBNe]
      refine exs ⟨fun _ => ?_, fun h => Bool.noConfusion h⟩
      simp only [go_sem]
      refine ac' (fine_ac ⟨N, fc⟩ (reach_le (Nat.le_trans hsz.1 (by omega))) (fun x hx => reach_le (Nat.le_trans (hsz.2 x hx) (by omega))) _ _ _ ?_)
      rw [hfine]
      simp only [go_sem, Bool.not_true, Tryd.results8]
      exact Wk.mask [0, 3, 5, 6] ⟨by simp only [go_sem], by simp only [go_sem]⟩
    rintro fr st ⟨rfl, rfl⟩
    simp only [go_sem]
    refine aw_loop (fun m fr st => ∃ j : Nat, j ≤ 2 ^ N ∧ m = 2 ^ N - j ∧ fr = [.d (celsD cs), .any, .any, .ref σ.length 0, .any, db true, .ref (σ.length + 1) 0, .any, db (someB (fun n => evalC ⟨N, fc⟩ (vsN N n)) j), db (someB (badN cs c N) j), dn j, .any, .any, .any, .any, .any, .any, .any, .any, .any, .any, .any, .any, .any, .any, .any, .any, .any, .any, .any, .any, .any, .any, .any, .any, .any, .any, .any, .any, .any, .any, .any, .any, .any, .any, .any, .any, .any, .any, .any, .any, .any, .any, .any, .any, .any, .any, .any, .any, .any, .any, .any, .any, .any, .any, .any, .any, .any, .any, .any, .any, .any, .any, .any, .any, .any, .any, .any, .any, .any, .any, .any, .any, .any, .any, .any, .any, .any, .any, .any, .any, .any, .any, .any] ∧ st = σ ++ [cdO c, fO ⟨N, fc⟩]) (2 ^ N) _ (Wk.mask [0, 3, 5, 6, 8, 9, 10] ⟨0, by omega, rfl, rfl, rfl⟩) ?_
    rintro m fr st ⟨j, hj, hm, rfl, rfl⟩
    simp only [go_sem]
    refine ac' (pow_ac N (by omega) _ _ _ ?_)
    rcases Nat.lt_or_ge j (2 ^ N) with hlt | hge
    · have hd : decide ((j : Int) < ((2 ^ N : Nat) : Int)) = true := by simp only [decide_eq_true_eq]; omega
      simp only [go_sem, hd, Int.toNat_natCast, falses_cells]
      refine ⟨⟨by omega, by omega, by omega, by omega⟩, ?_⟩
      refine aw_cut (fun fr st => fr = [.d (celsD cs), .any, .any, .ref σ.length 0, .any, db true, .ref (σ.length + 1) 0, .any, db (someB (fun n => evalC ⟨N, fc⟩ (vsN N n)) j), db (someB (badN cs c N) j), dn j, .d (bsD (vsN N j)), .any, .any, .any, .any, .any, .any, .any, .any, .any, .any, .any, .any, .any, .any, .any, .any, .any, .any, .any, .any, .any, .any, .any, .any, .any, .any, .any, .any, .any, .any, .any, .any, .any, .any, .any, .any, .any, .any, .any, .any, .any, .any, .any, .any, .any, .any, .any, .any, .any, .any, .any, .any, .any, .any, .any, .any, .any, .any, .any, .any, .any, .any, .any, .any, .any, .any, .any, .any, .any, .any, .any, .any, .any, .any, .any, .any, .any, .any, .any, .any, .any, .any] ∧ st = σ ++ [cdO c, fO ⟨N, fc⟩]) ?_ ?_
      · simp only [go_sem]
        refine aw_loop (fun m fr st => ∃ i : Nat, i ≤ N ∧ m = N - i ∧ fr = [.d (celsD cs), .any, .any, .ref σ.length 0, .any, db true, .ref (σ.length + 1) 0, .any, db (someB (fun n => evalC ⟨N, fc⟩ (vsN N n)) j), db (someB (badN cs c N) j), dn j, .rs (σ.length + 2) 1 0 N (some 4), dn i, .any, .any, .any, .any, .any, .any, .any, .any, .any, .any, .any, .any, .any, .any, .any, .any, .any, .any, .any, .any, .any, .any, .any, .any, .any, .any, .any, .any, .any, .any, .any, .any, .any, .any, .any, .any, .any, .any, .any, .any, .any, .any, .any, .any, .any, .any, .any, .any, .any, .any, .any, .any, .any, .any, .any, .any, .any, .any, .any, .any, .any, .any, .any, .any, .any, .any, .any, .any, .any, .any, .any, .any, .any, .any, .any, .any, .any, .any, .any, .any, .any] ∧ st = σ ++ [cdO c, fO ⟨N, fc⟩, some (.cells ((bpart N j i).map fun x => A.d (.bool x)))]) N _ (Wk.mask [0, 3, 5, 6, 8, 9, 10, 11, 12] ⟨0, by omega, rfl, rfl, by rw [bpart_zero]⟩) ?_
        rintro m fr st ⟨i, hi, hm, rfl, rfl⟩
        rcases Nat.lt_or_ge i N with hlt2 | hge2
        · have hd2 : decide ((i : Int) < (N : Int)) = true := by simp; omega
          simp only [go_sem, hd2]
          refine ac' (pow_ac i (by omega) _ _ _ ?_)
          have hpi := Nat.two_pow_pos i
          have hw2 : IntKind.i64.wrap (Int.tdiv (j : Int) ((2 ^ i : Nat) : Int)) = Int.tdiv (j : Int) ((2 ^ i : Nat) : Int) := by
            have e : (Int.tdiv (j : Int) ((2 ^ i : Nat) : Int)) = ((j / 2 ^ i : Nat) : Int) := by
              rw [Int.tdiv_eq_ediv_of_nonneg (by omega)]; simp
            have hle := Nat.div_le_self j (2 ^ i)
            rw [e]
            generalize j / 2 ^ i = q at hle
            rw [wrap64_id _ (by omega) (by omega)]
          have hb := bit_div j i
          have hsp := splice_boolsA (l := bpart N j i) (j := i) (j.testBit i) (by rw [bpart_len]; omega)
          rw [bpart_set] at hsp
          have w1 := wrapS i (by omega)
          simp only [go_sem, hw2, hb, w1, bpart_len, List.length_map, Int.toNat_natCast, Nat.mul_one, Nat.zero_add]
          rw [hsp]
          exact ⟨Int.natCast_ne_zero.2 (by omega), by decide, ⟨by omega, by omega⟩, by omega, Wk.mask [0, 3, 5, 6, 8, 9, 10, 11, 12] ⟨N - (i + 1), by omega, i + 1, hlt2, rfl, by simp only [go_sem], rfl⟩⟩
        · have hd2 : decide ((i : Int) < (N : Int)) = false := by simp; omega
          obtain rfl : i = N := by omega
          rw [bpart_all]
          simp only [go_sem, hd2]
          refine Wk.pre [0, 3, 5, 6, 8, 9, 10, 11] ?_
          refine Wk.frz 2 1 0 ((vsN i j).map D.bool) rfl (lies_map D.bool (fun _ => ⟨rfl, rfl⟩) _) ?_
          simp only [go_sem, frzL, A.frz, List.length_map, vsN_len, List.set_cons_succ, List.set_cons_zero, and_self, if_true]
          exact Wk.keep [0, 3, 5, 6, 8, 9, 10, 11] [0, 1] (by decide) (Nat.le_refl _) hbd ⟨by simp only [go_sem, bsD], by simp only [go_sem]⟩
      rintro fr st ⟨rfl, rfl⟩
      simp only [go_sem]
      rw [← cndD]
      refine ac' (dec_ac cs c hok he (vsN N j) (by rw [vsN_len]; exact reach_le (by omega)) _ _ hG _ ?_)
      simp only [go_sem]
      rw [← cndD]
      refine ac' (violated_ac c hok E.hf E.gf _ _ (by rw [decS_len]; exact hc) (by rw [decS_len]; exact hc) _ _ hG _ ?_)
      have hb : bad c (decS cs (lO cs c.hyp c.goal) (vsN N j)) (decS cs (lN cs c.hyp c.goal) (vsN N j)) = badN cs c N j := rfl
      have hb2 := someB_succ (badN cs c N) j
      have hs2 := someB_succ (fun n => evalC ⟨N, fc⟩ (vsN N n)) j
      rw [hb]
      simp only [go_sem]
      refine ac' (ceval_ac ⟨N, fc⟩ (vsN N j) (reach_le (Nat.le_trans hsz.1 (by omega))) (fun x hx => reach_le (Nat.le_trans (hsz.2 x hx) (by omega))) (by rw [vsN_len]; exact reach_le (by omega)) _ _ _ ?_)
      have w1 := wrapS j (by omega)
      cases hev : evalC ⟨N, fc⟩ (vsN N j)
      · rw [hev, Bool.or_false] at hs2
        simp only [go_sem, w1]
        rw [← hb2, ← hs2]
        exact Wk.mask [0, 3, 5, 6, 8, 9, 10] ⟨2 ^ N - (j + 1), by omega, j + 1, hlt, rfl, rfl, rfl⟩
      · rw [hev, Bool.or_true] at hs2
        have hbt := s1 j hev
        rw [hbt, Bool.or_true] at hb2
        simp only [go_sem, w1, hbt, Bool.not_true]
        exact Wk.mask [0, 3, 5, 6, 8, 9, 10] ⟨2 ^ N - (j + 1), by omega, j + 1, hlt, rfl, by rw [hs2, hb2]; rfl, rfl⟩
    · have hd : decide ((j : Int) < ((2 ^ N : Nat) : Int)) = false := by simp only [decide_eq_false_iff_not]; omega
      obtain rfl : j = 2 ^ N := by omega
      rw [s2]
      have e1 : (someB (badN cs c N) (2 ^ N) == someB (badN cs c N) (2 ^ N)) = true := by simp
      simp only [go_sem, hd, e1, Tryd.results8]
      exact ret_d hbd h
  · refine aw_cut (fun fr st => fr = [.d (celsD cs), .any, .any, .ref σ.length 0, .any, db true, .ref (σ.length + 1) 0, di 2, .any, .any, .any, .any, .any, .any, .any, .any, .any, .any, .any, .any, .any, .any, .any, .any, .any, .any, .any, .any, .any, .any, .any, .any, .any, .any, .any, .any, .any, .any, .any, .any, .any, .any, .any, .any, .any, .any, .any, .any, .any, .any, .any, .any, .any, .any, .any, .any, .any, .any, .any, .any, .any, .any, .any, .any, .any, .any, .any, .any, .any, .any, .any, .any, .any, .any, .any, .any, .any, .any, .any, .any, .any, .any, .any, .any, .any, .any, .any, .any, .any, .any, .any, .any, .any, .any] ∧ st = σ ++ [cdO c, fO ⟨0, []⟩]) ?_ ?_
    · simp only [go_sem]
      rw [← cndD]
      refine ac' (neg_ac cs c hok he _ _ hG _ ?_)
      rw [hn]
      simp only [cnfD, go_sem]
      exact Wk.mask [0, 3, 5, 6, 7] ⟨by simp only [go_sem], by simp only [go_sem]⟩
    rintro fr st ⟨rfl, rfl⟩
    refine aw_cut (fun _ _ => False) ?_ (fun _ _ h => h.elim)
    simp only [go_sem, Int.reduceBEq, Tryd.results8]
    exact ret_d hbd h
end Go.Proofs.YtkjlefahpdconaaDoor
end PartD9

section PartD10
/- Shape: plain facts. -/
set_option linter.unusedSimpArgs false
set_option linter.unusedVariables false
set_option maxRecDepth 100000
namespace Go.Proofs.YtkjlefahpdconaaDoor
open Go Go.Ab

theorem place_at : ∀ (bs : List Bool) (cs : List Cel) (n j : Nat), (placeL bs cs n).1.getD j 0 = if bs.getD j false = true then (((placeL (bs.take j) cs n).2 + 1 : Nat) : Int) else 0
  | [], cs, n, j => by simp [placeL]
  | true :: bs, cs, n, 0 => by simp [placeL]
  | false :: bs, cs, n, 0 => by simp [placeL]
  | true :: bs, cs, n, j + 1 => by
    simp only [placeL, List.getD_cons_succ, List.take_succ_cons]
    exact place_at bs cs.tail _ j
  | false :: bs, cs, n, j + 1 => by
    simp only [placeL, List.getD_cons_succ, List.take_succ_cons]
    exact place_at bs cs.tail _ j
theorem place_step {bs : List Bool} {cs : List Cel} {n j : Nat} (h : j < bs.length) : (placeL (bs.take (j + 1)) cs n).2 = if bs.getD j false = true then (placeL (bs.take j) cs n).2 + (wOf cs j).toNat else (placeL (bs.take j) cs n).2 := by
  have := congrArg Prod.snd (placeL_snoc (bs.getD j false) (bs.take j) cs n)
  rw [← take_snoc false h, List.length_take, Nat.min_eq_left (by omega)] at this
  exact this
/-- The variables of a list of cells follow one another. -/
structure Seqv (cs : List Cel) (P : List Int) (v : Nat → Nat) (a b : Nat) : Prop where
  len : P.length = cs.length
  lo : v 0 = a
  hi : v cs.length = b
  step : ∀ j, j < cs.length → (P.getD j 0 = 0 ∧ v (j + 1) = v j) ∨ (P.getD j 0 = ((v j + 1 : Nat) : Int) ∧ (v (j + 1) : Int) = v j + wOf cs j ∧ 1 ≤ wOf cs j)
theorem seqv_place {bs : List Bool} {cs : List Cel} {n : Nat} (hl : bs.length = cs.length) (hw : ∀ i, bs.getD i false = true → 1 ≤ wOf cs i) : Seqv cs (placeL bs cs n).1 (fun j => (placeL (bs.take j) cs n).2) n (placeL bs cs n).2 := by
  refine ⟨by rw [placeL_len, hl], by simp [placeL], by simp only [← hl, List.take_length], fun j hj => ?_⟩
  have h1 := place_at bs cs n j
  have h2 := place_step (cs := cs) (n := n) (show j < bs.length by omega)
  have h3 := hw j
  cases hb : bs.getD j false <;> rw [hb] at h1 h2 h3 <;> simp only [Bool.false_eq_true, if_true, if_false, forall_const] at h1 h2 h3
  · exact .inl ⟨h1, h2⟩
  · refine .inr ⟨h1, ?_, h3⟩
    simp only [h2]; omega
theorem Seqv.le {cs : List Cel} {P : List Int} {v : Nat → Nat} {a b : Nat} (h : Seqv cs P v a b) : ∀ i, i ≤ cs.length → v i ≤ b := by
  have key : ∀ d i, i + d = cs.length → v i ≤ b := by
    intro d
    induction d with
    | zero => intro i hi; rw [show i = cs.length by omega, h.hi]; exact Nat.le_refl _
    | succ d ih =>
      intro i hi
      have h1 := ih (i + 1) (by omega)
      have h2 := h.step i (by omega)
      omega
  exact fun i hi => key (cs.length - i) i (by omega)
section
variable {cs : List Cel} {h g : Ex}
theorem Enc.seqO (E : Enc cs h g) : ∃ v, Seqv cs (lO cs h g) v 1 (layO cs h g).2 :=
  ⟨_, seqv_place (by simp [occB]) fun i hi => (E.width (.inr rfl) hi).1⟩
theorem Enc.seqN (E : Enc cs h g) : ∃ v, Seqv cs (lN cs h g) v (layO cs h g).2 (firstV cs h g) :=
  ⟨_, seqv_place (by simp [occB]) fun i hi => (E.width (.inl rfl) hi).1⟩
end
/-- The clauses of a gate. -/
theorem clsG_cut : ∀ (gs : List Gt) (first k : Nat) (g : Gt), gs[k]? = some g → clsG first gs = clsG first (gs.take k) ++ (gateCls ((first + k + 1 : Nat) : Int) g ++ clsG (first + k + 1) (gs.drop (k + 1)))
  | [], first, k, g, h => by simp at h
  | a :: gs, first, 0, g, h => by
    obtain rfl : a = g := by simpa using h
    simp [clsG]
  | a :: gs, first, k + 1, g, h => by
    have ih := clsG_cut gs (first + 1) k g (by simpa using h)
    simp only [clsG, List.take_succ_cons, List.drop_succ_cons, ih, List.append_assoc]
    rw [show first + 1 + k + 1 = first + (k + 1) + 1 by omega]
theorem clsG_take : ∀ (gs : List Gt) (first k : Nat) (g : Gt), gs[k]? = some g → (clsG first (gs.take (k + 1))).length = (clsG first (gs.take k)).length + (gateCls ((first + k + 1 : Nat) : Int) g).length := fun gs first k g h => by
  have hk : k < gs.length := by
    rcases Nat.lt_or_ge k gs.length with h' | h'
    · exact h'
    · rw [List.getElem?_eq_none h'] at h; cases h
  have e : gs.take (k + 1) = gs.take k ++ [g] := by rw [List.take_add_one, h]; rfl
  rw [e, clsG_snoc, List.length_append, List.length_take, Nat.min_eq_left (by omega)]
theorem gate_len {n : Int} {g : Gt} : (gateCls n g).length = 3 ∨ (gateCls n g).length = 4 := by
  unfold gateCls; split
  · exact .inr rfl
  · exact .inl rfl
/-- A gate's clause: its variable or the negative first, then smaller ones. -/
structure Defs (n : Nat) (x : List Int) : Prop where
  two : 2 ≤ x.length
  three : x.length ≤ 3
  head : x.getD 0 0 = n ∨ x.getD 0 0 = -(n : Int)
  rest : ∀ s, 1 ≤ s → s < x.length → -(n : Int) < x.getD s 0 ∧ x.getD s 0 < n
theorem defs3 {n : Nat} {a b c : Int} (ha : a = n ∨ a = -(n : Int)) (hb : -(n : Int) < b ∧ b < n) (hc : -(n : Int) < c ∧ c < n) : Defs n [a, b, c] :=
  ⟨by simp, by simp, ha, fun s h1 h2 => by
    have : s = 1 ∨ s = 2 := by simp at h2; omega
    rcases this with rfl | rfl
    · exact hb
    · exact hc⟩
theorem defs2 {n : Nat} {a b : Int} (ha : a = n ∨ a = -(n : Int)) (hb : -(n : Int) < b ∧ b < n) : Defs n [a, b] :=
  ⟨by simp, by simp, ha, fun s h1 h2 => by
    have : s = 1 := by simp at h2; omega
    subst this
    exact hb⟩
theorem gate_defs {n : Nat} {g : Gt} (h1 : Lit n g.1) (h2 : Lit n g.2.1) : ∀ x ∈ gateCls ((n + 1 : Nat) : Int) g, Defs (n + 1) x := by
  obtain ⟨_, a1, a2⟩ := h1
  obtain ⟨_, b1, b2⟩ := h2
  intro x hx
  unfold gateCls at hx
  split at hx <;> simp only [List.mem_cons, List.not_mem_nil, or_false] at hx
  · rcases hx with rfl | rfl | rfl | rfl
    · exact defs3 (.inr rfl) ⟨by omega, by omega⟩ ⟨by omega, by omega⟩
    · exact defs3 (.inr rfl) ⟨by omega, by omega⟩ ⟨by omega, by omega⟩
    · exact defs3 (.inl rfl) ⟨by omega, by omega⟩ ⟨by omega, by omega⟩
    · exact defs3 (.inl rfl) ⟨by omega, by omega⟩ ⟨by omega, by omega⟩
  · rcases hx with rfl | rfl | rfl
    · exact defs2 (.inr rfl) ⟨by omega, by omega⟩
    · exact defs2 (.inr rfl) ⟨by omega, by omega⟩
    · exact defs3 (.inl rfl) ⟨by omega, by omega⟩ ⟨by omega, by omega⟩
/-- THE GROUPS OF CLAUSES of a formula: p k is the place of the first clause of gate k. -/
structure Grps (C : List (List Int)) (first K : Nat) (p : Nat → Nat) : Prop where
  lo : p 0 = 1
  hi : p K + 1 = C.length
  size : ∀ k, k < K → p (k + 1) = p k + 3 ∨ p (k + 1) = p k + 4
  defs : ∀ k t, k < K → p k ≤ t → t < p (k + 1) → Defs (first + k + 1) (C.getD t [])
theorem Grps.le {C : List (List Int)} {first K : Nat} {p : Nat → Nat} (h : Grps C first K p) : ∀ k, k ≤ K → p k + 1 ≤ C.length := by
  have key : ∀ d k, k + d = K → p k + 1 ≤ C.length := by
    intro d
    induction d with
    | zero => intro k hk; rw [show k = K by omega, h.hi]; exact Nat.le_refl _
    | succ d ih =>
      intro k hk
      have h1 := ih (k + 1) (by omega)
      have h2 := h.size k (by omega)
      omega
  exact fun k hk => key (K - k) k (by omega)
theorem grps {first : Nat} {gs : List Gt} {root : Int} (hg : OkG first gs) : Grps (negF first (root, gs)).cls first gs.length (fun k => 1 + (clsG first (gs.take k)).length) := by
  refine ⟨by simp [clsG], by simp [negF, mostC, List.take_length]; omega, fun k hk => ?_, fun k t hk h1 h2 => ?_⟩
  · have hat : gs[k]? = some gs[k] := List.getElem?_eq_getElem hk
    have := clsG_take gs first k _ hat
    have hl := gate_len (n := ((first + k + 1 : Nat) : Int)) (g := gs[k])
    omega
  · have hat : gs[k]? = some gs[k] := List.getElem?_eq_getElem hk
    have h3 := clsG_take gs first k _ hat
    have hc := clsG_cut gs first k _ hat
    obtain ⟨g1, g2, -⟩ := hg k _ hat
    refine gate_defs g1 g2 _ ?_
    obtain ⟨s, rfl⟩ : ∃ s, t = 1 + (clsG first (gs.take k)).length + s := ⟨t - (1 + (clsG first (gs.take k)).length), by omega⟩
    have hs : s < (gateCls ((first + k + 1 : Nat) : Int) gs[k]).length := by omega
    have e : (negF first (root, gs)).cls.getD (1 + (clsG first (gs.take k)).length + s) [] = (gateCls ((first + k + 1 : Nat) : Int) gs[k]).getD s [] := by
      rw [negF, mostC]
      simp only
      rw [List.cons_append, show 1 + (clsG first (gs.take k)).length + s = ((clsG first (gs.take k)).length + s) + 1 by omega, List.getD_cons_succ, hc, List.append_assoc, List.append_assoc, List.getD_eq_getElem?_getD, List.getElem?_append_right (by omega), Nat.add_sub_cancel_left, List.getElem?_append_left hs, List.getD_eq_getElem?_getD]
    rw [e]
    exact getD_mem [] hs
end Go.Proofs.YtkjlefahpdconaaDoor
end PartD10

section PartD13
/- The reference's Occur; the number of the cells' variables. -/
set_option linter.unusedSimpArgs false
set_option linter.unusedVariables false
set_option maxRecDepth 100000
namespace Go.Proofs.YtkjlefahpdconaaDoor
open Go Go.Ab

theorem idxL_ext {a b : List Bool} : ∀ {n : Nat}, (∀ i, i < n → a.getD i false = b.getD i false) → idxL a n = idxL b n
  | 0, h => rfl
  | n + 1, h => by rw [idxL_succ, idxL_succ, idxL_ext fun i hi => h i (by omega), h n (by omega)]
theorem idxL_over {a : List Bool} {n : Nat} (h : ∀ i, n ≤ i → a.getD i false = false) : ∀ d, idxL a (n + d) = idxL a n
  | 0 => rfl
  | d + 1 => by
    rw [← Nat.add_assoc, idxL_succ, idxL_over h d, h (n + d) (by omega)]; simp
section
variable {cs : List Cel} {hy go : Ex}
theorem Enc.occL (E : Enc cs hy go) {o : Int} (ho : o = 2 ∨ o = 3) : idxL (markI (idxL (supB o go) 32) (markI (idxL (supB o hy) 32) (List.replicate 32 false))) 32 = idxL (occB cs hy go o) cs.length := by
  have hcl := E.len
  have hr := E.in_range ho
  have hb : ∀ i, i < 32 → (markI (idxL (supB o go) 32) (markI (idxL (supB o hy) 32) (List.replicate 32 false))).getD i false = (occB cs hy go o).getD i false := fun i hi => by
    have hf : (List.replicate 32 false).getD i false = false := by rw [List.getD_eq_getElem?_getD, List.getElem?_replicate]; split <;> rfl
    rw [markI_at _ _ _ (by rw [markI_len]; simpa using hi), markI_at _ _ _ (by simpa using hi), idxL_any, idxL_any, supB_at o hy hi, supB_at o go hi, hf]
    have hd : decide (i < 32) = true := by simp [hi]
    rw [hd, Bool.true_and, Bool.true_and, Bool.false_or, ← List.any_append]
    rcases Nat.lt_or_ge i cs.length with h1 | h1
    · rw [occB_at h1]
    · have h2 : (occB cs hy go o).getD i false = false := by rw [List.getD_eq_getElem?_getD, List.getElem?_eq_none (by rw [occB_len]; exact h1)]; rfl
      rw [h2, List.any_eq_false]
      intro n hn hq
      simp only [Bool.and_eq_true, beq_iff_eq] at hq
      have := (E.leaf hn (by rw [hq.1]; exact ho)).2.1
      omega
  rw [idxL_ext hb]
  have := idxL_over (a := occB cs hy go o) (n := cs.length) (fun i hi => by rw [List.getD_eq_getElem?_getD, List.getElem?_eq_none (by rw [occB_len]; exact hi)]; rfl) (32 - cs.length)
  rw [show cs.length + (32 - cs.length) = 32 by omega] at this
  exact this
end
/-- The number behind the variables of cells. -/
def sumL (cs : List Cel) (l : List Int) (n : Int) : Int := l.foldl (fun n i => n + wOf cs i.toNat) n
theorem sumL_snoc (cs : List Cel) (l : List Int) (i n : Int) : sumL cs (l ++ [i]) n = sumL cs l n + wOf cs i.toNat := by simp [sumL]
theorem sumL_idx {cs : List Cel} {bs : List Bool} {n : Nat} (hw : ∀ i, bs.getD i false = true → 1 ≤ wOf cs i) : ∀ j, j ≤ bs.length → sumL cs (idxL bs j) n = ((placeL (bs.take j) cs n).2 : Nat)
  | 0, _ => by simp [idxL, sumL, placeL]
  | j + 1, hj => by
    rw [idxL_succ, place_step (by omega)]
    have ih := sumL_idx (n := n) hw j (by omega)
    have hwj := hw j
    cases hb : bs.getD j false
    · simp only [Bool.false_eq_true, if_false, List.append_nil]; exact ih
    · rw [hb] at hwj
      have hwj := hwj rfl
      simp only [if_true, sumL_snoc, ih, Int.toNat_natCast]
      omega
section
variable {cs : List Cel} {hy go : Ex}
theorem Enc.sums (E : Enc cs hy go) : sumL cs (idxL (occB cs hy go 2) cs.length) (sumL cs (idxL (occB cs hy go 3) cs.length) 1) = firstV cs hy go := by
  have h3 := sumL_idx (n := 1) (bs := occB cs hy go 3) (fun i hi => (E.width (.inr rfl) hi).1) cs.length (by rw [occB_len]; exact Nat.le_refl _)
  have h2 := sumL_idx (n := (layO cs hy go).2) (bs := occB cs hy go 2) (fun i hi => (E.width (.inl rfl) hi).1) cs.length (by rw [occB_len]; exact Nat.le_refl _)
  rw [List.take_of_length_le (by rw [occB_len]; exact Nat.le_refl _)] at h3 h2
  rw [show sumL cs (idxL (occB cs hy go 3) cs.length) 1 = ((layO cs hy go).2 : Nat) from h3, h2]; rfl
end
theorem occur_ac (cs : List Cel) (c : Cnd) (hok : c.Ok) (E : Enc cs c.hyp c.goal) (σ : St) (G : Glob) (R : A → St → Prop) (h : R (.tup [dL (idxL (occB cs c.hyp c.goal 3) cs.length), dL (idxL (occB cs c.hyp c.goal 2) cs.length)]) σ) : AC Tryd.prog G 14 [.d (cndD c)] σ R := by
  have r3 := E.in_range (.inr rfl)
  have r2 := E.in_range (.inl rfl)
  have hcl := E.len
  refine ac_enter' mixed Tryd.func14 rfl Tryd.ntmps14 (by simp only [go_sem]) fun hbd => ?_
  simp only [List.length_cons, List.length_nil, Nat.reduceAdd, Nat.reduceSub, List.replicate_succ, List.replicate_zero, List.cons_append, List.nil_append]
  simp only [cndD, go_sem]
  rw [← Ex.d_eq]
  refine ac' (rsupport_ac c.hyp hok.hyp E.hf _ _ _ ?_)
  simp only [go_sem]
  rw [← Ex.d_eq]
  refine ac' (rsupport_ac c.goal hok.goal E.gf _ _ _ ?_)
  simp only [go_sem]
  refine ac' (merge_ac _ _ (idxL_len32 _) (idxL_len32 _) (fun i hi => ?_) (fun i hi => ?_) _ _ _ ?_)
  · have := r3 _ (List.mem_cons_self ..) i hi; omega
  · have := r3 _ (List.mem_cons_of_mem _ (List.mem_cons_self ..)) i hi; omega
  rw [E.occL (.inr rfl)]
  simp only [go_sem]
  refine ac' (merge_ac _ _ (idxL_len32 _) (idxL_len32 _) (fun i hi => ?_) (fun i hi => ?_) _ _ _ ?_)
  · have := r2 _ (List.mem_cons_self ..) i hi; omega
  · have := r2 _ (List.mem_cons_of_mem _ (List.mem_cons_self ..)) i hi; omega
  rw [E.occL (.inl rfl)]
  simp only [go_sem, Tryd.results14]
  exact ret_bd hbd rfl h
end Go.Proofs.YtkjlefahpdconaaDoor
end PartD13
