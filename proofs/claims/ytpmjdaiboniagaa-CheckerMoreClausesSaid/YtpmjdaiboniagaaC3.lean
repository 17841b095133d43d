/- The reference's functions of layers 25 and 26, evaluated. -/
import Derived.Test.YtpmjdaiboniagaaC2
set_option linter.unusedSimpArgs false
namespace Go.Proofs.Ytpmjdaiboniagaa
open Go Go.Ab

theorem rstep_ac (vars num : Int) (s : Stp) (h1 : s.lits.length ≤ reachBytes) (h2 : s.hints.length ≤ reachBytes) (σ : St) (G : Glob) (R : A → St → Prop) (h : R (db (stepOk vars num s)) σ) : AC Try.prog G 66 [di vars, di num, .d (stpD s)] σ R := by
  obtain ⟨lits, hints⟩ := s
  refine ac_enter mixed Try.func66 rfl Try.ntmps66 (by simp only [go_sem]) fun hbd => ?_
  simp only [List.length_cons, List.length_nil, Nat.reduceAdd, Nat.reduceSub, List.replicate_succ, List.replicate_zero, List.cons_append, List.nil_append]
  simp only [stpD, isD, go_sem, List.length_map, Try.results66]
  simp only [reachBytes] at h1 h2
  rw [stepOk] at h
  simp only at h
  generalize hH : hintsOk num hints = H at h
  refine aw_loop (fun m fr st => ∃ j : Nat, j ≤ lits.length ∧ m = lits.length - j ∧ R (db (litsFrom vars (lits.take j) (lits.drop j) && H)) σ ∧ fr = [di vars, di num, .any, .any, .any, .ref σ.length 0, .any, dn j, .any, .any, .any, .any, .any, .any, .any, .any, .any, .any, .any, .any, .any, .any, .any, .any, .any, .any, .any, .any, .any, .any, .any, .any, .any, .any, .any, .any, .any, .any, .any, .any, .any, .any, .any, .any, .any, .any, .any, .any, .any, .any, .any, .any, .any, .any, .any, .any, .any, .any, .any, .any, .any, .any, .any, .any, .any, .any] ∧ st = σ ++ [some (Ob.cells [A.d (.sl 1 (lits.map iD)), A.d (.sl 1 (hints.map iD))])]) lits.length _
    (Wk.mask [0, 1, 5, 7] ⟨0, by omega, rfl, h, rfl, rfl⟩) ?_
  clear h
  rintro m fr st ⟨j, hj, hm, hR, rfl, rfl⟩
  rcases Nat.lt_or_ge j lits.length with hlt | hge
  · have hd : decide ((j : Int) < (lits.length : Int)) = true := by simp; omega
    have e1 : List.getD (List.map iD lits) j default = iD (lits.getD j 0) := getD_mapD hlt
    have w2 := wrapS j (by omega)
    rw [drop_getD 0 hlt, litsFrom] at hR
    simp only [go_sem, List.length_map, hd, e1, w2]
    refine ⟨⟨by omega, by omega⟩, ac' (var_ac _ _ _ _ ?_)⟩
    simp only [go_sem, List.length_map, e1, w2, Try.results66]
    refine ⟨fun hb => ret_d hbd ?_, fun hb => ?_⟩
    · rw [hb] at hR; simpa using hR
    rw [hb] at hR
    simp only [Bool.not_false, Bool.true_and] at hR
    have htk : lits.take j ++ [lits.getD j 0] = lits.take (j + 1) := by
      rw [List.take_add_one, List.getD_eq_getElem?_getD, List.getElem?_eq_getElem hlt]; rfl
    rw [htk] at hR
    generalize hv : lits.getD j 0 = l at hR
    generalize hrest : litsFrom vars (lits.take (j + 1)) (lits.drop (j + 1)) = rest at hR
    refine aw_loop (fun m fr st => ∃ k : Nat, k ≤ j ∧ m = j - k ∧ R (db ((!((lits.take j).drop k).any fun x => absI x == absI l) && rest && H)) σ ∧ fr = [di vars, di num, .any, .any, .any, .ref σ.length 0, .any, dn j, di (absI l), dn k, .any, .any, .any, .any, .any, .any, .any, .any, .any, .any, .any, .any, .any, .any, .any, .any, .any, .any, .any, .any, .any, .any, .any, .any, .any, .any, .any, .any, .any, .any, .any, .any, .any, .any, .any, .any, .any, .any, .any, .any, .any, .any, .any, .any, .any, .any, .any, .any, .any, .any, .any, .any, .any, .any, .any, .any] ∧ st = σ ++ [some (Ob.cells [A.d (.sl 1 (lits.map iD)), A.d (.sl 1 (hints.map iD))])]) j _
      (Wk.mask [0, 1, 5, 7, 8, 9] ⟨0, by omega, rfl, hR, rfl, rfl⟩) ?_
    clear hR
    rintro m fr st ⟨k, hk, hm, hR, rfl, rfl⟩
    rcases Nat.lt_or_ge k j with klt | kge
    · have kd : decide ((k : Int) < (j : Int)) = true := by simp; omega
      have e2 : List.getD (List.map iD lits) k default = iD (lits.getD k 0) := getD_mapD (by omega)
      have w3 := wrapS k (by omega)
      have e3 : (lits.take j).getD k 0 = lits.getD k 0 := by simp [List.getD_eq_getElem?_getD, klt]
      rw [drop_getD 0 (by rw [List.length_take]; omega), List.any_cons, e3] at hR
      simp only [go_sem, List.length_map, kd, e2, w3]
      refine ⟨⟨by omega, by omega⟩, ac' (var_ac _ _ _ _ ?_)⟩
      simp only [go_sem, List.length_map, e2, w3, Try.results66]
      refine ⟨fun hb => ret_d hbd ?_, fun hb => Wk.mask [0, 1, 5, 7, 8, 9] ⟨j - (k + 1), by omega, k + 1, klt, rfl, ?_, rfl, rfl⟩⟩
      · rw [hb] at hR; simpa using hR
      · rw [hb, Bool.false_or] at hR; exact hR
    · have kd : decide ((k : Int) < (j : Int)) = false := by simp; omega
      simp only [go_sem, List.length_map, kd, w2]
      rw [List.drop_eq_nil_of_le (by rw [List.length_take]; omega)] at hR
      simp only [List.any_nil, Bool.not_false, Bool.true_and, ← hrest] at hR
      exact Wk.mask [0, 1, 5, 7] ⟨lits.length - (j + 1), by omega, j + 1, hlt, rfl, hR, rfl, rfl⟩
  · have hd : decide ((j : Int) < (lits.length : Int)) = false := by simp; omega
    rw [List.drop_eq_nil_of_le hge, litsFrom, Bool.true_and, ← hH, hintsOk] at hR
    simp only [go_sem, List.length_map, hd]
    refine aw_loop (fun m fr st => ∃ k : Nat, k ≤ hints.length ∧ m = hints.length - k ∧ R (db ((hints.drop k).all fun h => !(decide (h < 0) || decide (num ≤ h)))) σ ∧ fr = [.any, di num, .any, .any, .any, .ref σ.length 0, .any, .any, .any, .any, dn k, .any, .any, .any, .any, .any, .any, .any, .any, .any, .any, .any, .any, .any, .any, .any, .any, .any, .any, .any, .any, .any, .any, .any, .any, .any, .any, .any, .any, .any, .any, .any, .any, .any, .any, .any, .any, .any, .any, .any, .any, .any, .any, .any, .any, .any, .any, .any, .any, .any, .any, .any, .any, .any, .any, .any] ∧ st = σ ++ [some (Ob.cells [A.d (.sl 1 (lits.map iD)), A.d (.sl 1 (hints.map iD))])]) hints.length _
      (Wk.mask [1, 5, 10] ⟨0, by omega, rfl, hR, rfl, rfl⟩) ?_
    clear hR
    rintro m fr st ⟨k, hk, hm, hR, rfl, rfl⟩
    rcases Nat.lt_or_ge k hints.length with klt | kge
    · have kd : decide ((k : Int) < (hints.length : Int)) = true := by simp; omega
      have e2 : List.getD (List.map iD hints) k default = iD (hints.getD k 0) := getD_mapD (by omega)
      have w3 := wrapS k (by omega)
      rw [drop_getD 0 klt, List.all_cons] at hR
      simp only [go_sem, List.length_map, kd, e2, w3, Try.results66]
      refine ⟨⟨by omega, by omega⟩, fun _ => ⟨by omega, by omega⟩, fun hb => ret_d hbd ?_, fun hb => Wk.mask [1, 5, 10] ⟨hints.length - (k + 1), by omega, k + 1, klt, rfl, ?_, rfl, rfl⟩⟩
      · rw [hb] at hR; simpa using hR
      · rw [hb] at hR; simpa using hR
    · have kd : decide ((k : Int) < (hints.length : Int)) = false := by simp; omega
      simp only [go_sem, List.length_map, kd, Try.results66]
      refine ret_d hbd ?_
      rw [List.drop_eq_nil_of_le kge] at hR; exact hR
theorem clause_ac (f : Cnf) (l : List Stp) (n : Nat) (h1 : f.cls.length ≤ reachBytes) (h2 : l.length ≤ reachBytes) (hn : n < f.cls.length + l.length) (σ : St) (G : Glob) (R : A → St → Prop) (h : R (.d (isD (clauseAt f.cls l n))) σ) : AC Try.prog G 84 [.d (cnfD f), .d (stpsD l), dn n] σ R := by
  obtain ⟨vars, cls⟩ := f
  refine ac_enter mixed Try.func84 rfl Try.ntmps84 (by simp only [go_sem]) fun hbd => ?_
  simp only [List.length_cons, List.length_nil, Nat.reduceAdd, Nat.reduceSub, List.replicate_succ, List.replicate_zero, List.cons_append, List.nil_append]
  simp only [reachBytes] at h1 h2
  simp only at hn h1
  rcases Nat.lt_or_ge n cls.length with hlt | hge
  · have hd : decide ((n : Int) < (cls.length : Int)) = true := by simp; omega
    have e1 := isD_getD hlt
    simp only [cnfD, clsD, stpsD, go_sem, List.length_map, hd, e1, Try.results84]
    rw [clauseAt, if_pos hlt] at h
    exact ⟨⟨by omega, by omega⟩, ret_d hbd h⟩
  · have hd : decide ((n : Int) < (cls.length : Int)) = false := by simp; omega
    have w1 : IntKind.i64.wrap ((n : Int) - (cls.length : Int)) = ((n - cls.length : Nat) : Int) := by rw [wrap64_id _ (by omega) (by omega)]; omega
    have e1 := stpD_getD (l := l) (j := n - cls.length) (by omega)
    simp only [cnfD, clsD, stpsD, go_sem, List.length_map, hd, w1, e1, Try.results84]
    rw [clauseAt, if_neg (by simp only; omega)] at h
    exact ⟨⟨by omega, by omega⟩, ret_d hbd h⟩
theorem fals_ac (T c : List Int) (h1 : T.length ≤ reachBytes) (h2 : c.length ≤ reachBytes) (hl : ∀ l ∈ c, -8000 ≤ l ∧ l ≤ 8000) (σ : St) (G : Glob) (R : A → St → Prop) (h : R (db (falsS T c)) σ) : AC Try.prog G 85 [.ea (.agg [isD T]) 0, .d (isD c)] σ R := by
  refine ac_enter mixed Try.func85 rfl Try.ntmps85 (by simp only [go_sem]) fun hbd => ?_
  simp only [List.length_cons, List.length_nil, Nat.reduceAdd, Nat.reduceSub, List.replicate_succ, List.replicate_zero, List.cons_append, List.nil_append]
  simp only [isD, go_sem, List.length_map]
  rw [falsS] at h
  refine aw_loop (fun m fr st => ∃ j : Nat, j ≤ c.length ∧ m = c.length - j ∧ R (db ((c.drop j).all fun l => decide (-l ∈ T))) σ ∧ fr = [.ea (.agg [.sl 1 (T.map iD)]) 0, .d (.sl 1 (c.map iD)), .any, .any, .any, dn j, .any, .any, .any, .any, .any, .any, .any, .any, .any, .any, .any, .any, .any, .any, .any, .any, .any] ∧ st = σ) c.length _
    (Wk.mask [0, 1, 5] ⟨0, by omega, rfl, h, rfl, rfl⟩) ?_
  clear h
  rintro m fr σ ⟨j, hj, hm, hR, rfl, rfl⟩
  rcases Nat.lt_or_ge j c.length with hlt | hge
  · have hd : decide ((j : Int) < (c.length : Int)) = true := by simp; omega
    have e1 : List.getD (List.map iD c) j default = iD (c.getD j 0) := getD_mapD hlt
    have w2 := wrapS j (by simp only [reachBytes] at h2; omega)
    have w4 : IntKind.i64.wrap (0 - c.getD j 0) = -(c.getD j 0) := by
      have := hl _ (getD_mem 0 hlt)
      rw [wrap64_id _ (by omega) (by omega)]; omega
    rw [drop_getD 0 hlt, List.all_cons] at hR
    simp only [go_sem, List.length_map, hd, e1, w2, w4, Try.results85]
    refine ⟨⟨by omega, by omega⟩, ac' (has_ac T _ h1 _ _ _ ?_)⟩
    simp only [go_sem, w2, Try.results85]
    refine ⟨fun he => ret_d0 ?_, fun hne => Wk.mask [0, 1, 5] ⟨c.length - (j + 1), by omega, j + 1, hlt, rfl, ?_, rfl, rfl⟩⟩
    · simp at he; simpa [he] using hR
    · simp at hne; simpa [hne] using hR
  · have hd : decide ((j : Int) < (c.length : Int)) = false := by simp; omega
    simp only [go_sem, List.length_map, hd, Try.results85]
    refine ret_d0 ?_
    rw [List.drop_eq_nil_of_le hge] at hR; exact hR
theorem unit_ac (T c : List Int) (h1 : T.length ≤ reachBytes) (h2 : c.length ≤ reachBytes) (hl : ∀ l ∈ c, -8000 ≤ l ∧ l ≤ 8000) (σ : St) (G : Glob) (R : A → St → Prop) (h : R (di (unitS T c 0)) σ) : AC Try.prog G 86 [.ea (.agg [isD T]) 0, .d (isD c)] σ R := by
  refine ac_enter mixed Try.func86 rfl Try.ntmps86 (by simp only [go_sem]) fun hbd => ?_
  simp only [List.length_cons, List.length_nil, Nat.reduceAdd, Nat.reduceSub, List.replicate_succ, List.replicate_zero, List.cons_append, List.nil_append]
  simp only [isD, go_sem, List.length_map]
  refine aw_loop (fun m fr st => ∃ (j : Nat) (o : Int), j ≤ c.length ∧ m = c.length - j ∧ R (di (unitS T (c.drop j) o)) σ ∧ fr = [.ea (.agg [.sl 1 (T.map iD)]) 0, .d (.sl 1 (c.map iD)), .any, .any, .any, di o, dn j, .any, .any, .any, .any, .any, .any, .any, .any, .any, .any, .any, .any, .any, .any, .any, .any, .any, .any, .any, .any, .any, .any, .any, .any, .any, .any, .any, .any, .any, .any, .any, .any, .any, .any, .any, .any, .any, .any, .any, .any] ∧ st = σ) c.length _
    (Wk.mask [0, 1, 5, 6] ⟨0, 0, by omega, rfl, h, rfl, rfl⟩) ?_
  clear h
  rintro m fr σ ⟨j, o, hj, hm, hR, rfl, rfl⟩
  rcases Nat.lt_or_ge j c.length with hlt | hge
  · have hd : decide ((j : Int) < (c.length : Int)) = true := by simp; omega
    have e1 : List.getD (List.map iD c) j default = iD (c.getD j 0) := getD_mapD hlt
    have w2 := wrapS j (by simp only [reachBytes] at h2; omega)
    have w4 : IntKind.i64.wrap (0 - c.getD j 0) = -(c.getD j 0) := by
      have := hl _ (getD_mem 0 hlt)
      rw [wrap64_id _ (by omega) (by omega)]; omega
    rw [drop_getD 0 hlt, unitS] at hR
    simp only [go_sem, List.length_map, hd, e1, w2, w4, Try.results86]
    refine ⟨⟨by omega, by omega⟩, ac' (has_ac T _ h1 _ _ _ ?_)⟩
    simp only [go_sem, List.length_map, e1, w2, w4, Try.results86]
    refine ⟨fun he => ret_d0 ?_, fun hne => ⟨⟨by omega, by omega⟩, ac' (has_ac T _ h1 _ _ _ ?_)⟩⟩
    · rw [if_pos (by simpa using he)] at hR; exact hR
    rw [if_neg (by simpa using hne)] at hR
    simp only [go_sem, List.length_map, e1, w2, w4, Try.results86]
    refine ⟨fun _ => ⟨by omega, by omega⟩, fun hb => Wk.mask [0, 1, 5, 6] ⟨c.length - (j + 1), by omega, j + 1, o, hlt, rfl, ?_, rfl, rfl⟩, fun hb => ⟨fun ho => ret_d0 ?_, fun ho => ⟨⟨by omega, by omega⟩, Wk.mask [0, 1, 5, 6] ⟨c.length - (j + 1), by omega, j + 1, _, hlt, rfl, ?_, rfl, rfl⟩⟩⟩⟩
    · rw [if_pos (by simpa using hb)] at hR; exact hR
    · rw [if_neg (by simpa using hb), if_pos (by simpa using ho)] at hR; exact hR
    · rw [if_neg (by simpa using hb), if_neg (by simpa using ho)] at hR; exact hR
  · have hd : decide ((j : Int) < (c.length : Int)) = false := by simp; omega
    simp only [go_sem, List.length_map, hd, Try.results86]
    refine ret_d0 ?_
    rw [List.drop_eq_nil_of_le hge] at hR; exact hR
end Go.Proofs.Ytpmjdaiboniagaa
