/- The reference's functions of layer 21, evaluated. -/
import Derived.Test.YtpmjdaiboniagaaC1
set_option linter.unusedSimpArgs false
namespace Go.Proofs.Ytpmjdaiboniagaa
open Go Go.Ab

theorem has_ac (c : List Int) (l : Int) (hc : c.length ≤ reachBytes) (σ : St) (G : Glob) (R : A → St → Prop) (h : R (db (decide (l ∈ c))) σ) : AC Try.prog G 49 [.d (isD c), di l] σ R := by
  refine ac_enter mixed Try.func49 rfl Try.ntmps49 (by simp only [go_sem]) fun hbd => ?_
  simp only [List.length_cons, List.length_nil, Nat.reduceAdd, Nat.reduceSub, List.replicate_succ, List.replicate_zero, List.cons_append, List.nil_append]
  simp only [isD, go_sem]
  refine aw_loop (fun m fr st => ∃ j : Nat, j ≤ c.length ∧ m = c.length - j ∧ R (db (decide (l ∈ c.drop j))) σ ∧ fr = [.d (.sl 1 (c.map iD)), di l, .any, .any, .any, dn j, .any, .any, .any, .any, .any, .any, .any, .any, .any, .any, .any, .any] ∧ st = σ) c.length _
    (Wk.mask [0, 1, 5] ⟨0, by omega, rfl, h, rfl, rfl⟩) ?_
  rintro m fr σ ⟨j, hj, hm, hR, rfl, rfl⟩
  rcases Nat.lt_or_ge j c.length with hlt | hge
  · have hd : decide ((j : Int) < (c.length : Int)) = true := by simp; omega
    have e1 : List.getD (List.map iD c) j default = iD (c.getD j 0) := getD_mapD hlt
    have w2 := wrapS j (by simp only [reachBytes] at hc; omega)
    rw [drop_getD 0 hlt] at hR
    simp only [go_sem, List.length_map, hd, e1, w2, Try.results49]
    refine ⟨⟨by omega, by omega⟩, fun he => ret_d0 ?_, fun hne => Wk.mask [0, 1, 5] ⟨c.length - (j + 1), by omega, j + 1, hlt, rfl, ?_, rfl, rfl⟩⟩
    · simp at he; simpa [he] using hR
    · have : ¬ l = c.getD j 0 := fun e => by simp [e] at hne
      simpa only [List.mem_cons, this, false_or] using hR
  · have hd : decide ((j : Int) < (c.length : Int)) = false := by simp; omega
    simp only [go_sem, List.length_map, hd, Try.results49]
    refine ret_d0 ?_
    rw [List.drop_eq_nil_of_le hge] at hR; simpa using hR
theorem abs_ac (l : Int) (σ : St) (G : Glob) (R : A → St → Prop) (h : R (di (absI l)) σ) : AC Try.prog G 71 [di l] σ R := by
  refine ac_enter mixed Try.func71 rfl Try.ntmps71 (by simp only [go_sem]) fun hbd => ?_
  simp only [List.length_cons, List.length_nil, Nat.reduceAdd, Nat.reduceSub, List.replicate_succ, List.replicate_zero, List.cons_append, List.nil_append]
  simp only [go_sem, Try.results71]
  refine ⟨fun hc => ret_d0 ?_, fun hc => ret_d0 ?_⟩
  · rw [absI, if_pos (by simpa using hc)] at h; exact h
  · rw [absI, if_neg (by simpa using hc)] at h; exact h
theorem var_ac (l : Int) (σ : St) (G : Glob) (R : A → St → Prop) (h : R (di (absI l)) σ) : AC Try.prog G 83 [di l] σ R := by
  refine ac_enter mixed Try.func83 rfl Try.ntmps83 (by simp only [go_sem]) fun hbd => ?_
  simp only [List.length_cons, List.length_nil, Nat.reduceAdd, Nat.reduceSub, List.replicate_succ, List.replicate_zero, List.cons_append, List.nil_append]
  simp only [go_sem, Try.results83]
  refine ⟨fun hc => ret_d0 ?_, fun hc => ret_d0 ?_⟩
  · rw [absI, if_pos (by simpa using hc)] at h; exact h
  · rw [absI, if_neg (by simpa using hc)] at h; exact h
theorem true_ac (l : Int) (v : List Bool) (hl : l ≠ 0 ∧ -8000 ≤ l ∧ l ≤ 8000) (σ : St) (G : Glob) (R : A → St → Prop) (h : R (db (holdsL v l)) σ) : AC Try.prog G 61 [di l, .d (bsD v)] σ R := by
  refine ac_enter mixed Try.func61 rfl Try.ntmps61 (by simp only [go_sem]) fun hbd => ?_
  simp only [List.length_cons, List.length_nil, Nat.reduceAdd, Nat.reduceSub, List.replicate_succ, List.replicate_zero, List.cons_append, List.nil_append]
  simp only [bsD, go_sem]
  refine ac' (abs_ac _ _ _ _ ?_)
  rw [absI_of (by omega)]
  have w1 : IntKind.i64.wrap ((l.natAbs : Int) - 1) = ((l.natAbs - 1 : Nat) : Int) := by rw [wrap64_id _ (by omega) (by omega)]; omega
  rcases Nat.lt_or_ge v.length l.natAbs with hgt | hle
  · have d1 : decide ((l.natAbs : Int) ≤ (v.length : Int)) = false := by simp; omega
    simp only [go_sem, List.length_map, d1]
    refine ex' (iD 0) ⟨fun hc => Bool.noConfusion hc, ?_⟩
    simp only [go_sem, List.length_map, w1, Try.results61]
    refine ret_d0 ?_
    rw [holdsL, List.getD_eq_getElem?_getD, List.getElem?_eq_none (by omega)] at h
    exact h
  · have d1 : decide ((l.natAbs : Int) ≤ (v.length : Int)) = true := by simp; omega
    have e1 : List.getD (List.map D.bool v) (l.natAbs - 1) default = .bool (v.getD (l.natAbs - 1) false) := getD_mapD (by omega)
    simp only [go_sem, List.length_map, d1]
    refine ex' (iD (l.natAbs : Nat)) ⟨fun hc => ?_, ?_⟩
    · simp only [go_sem]
      refine ac' (abs_ac _ _ _ _ ?_)
      rw [absI_of (by omega)]
      exact ⟨rfl, rfl⟩
    simp only [go_sem, List.length_map, w1, e1, Try.results61]
    refine ⟨⟨by omega, by omega⟩, ret_d0 h⟩
theorem holds_ac (c : List Int) (v : List Bool) (hc : c.length ≤ reachBytes) (hl : ∀ l ∈ c, l ≠ 0 ∧ -8000 ≤ l ∧ l ≤ 8000) (σ : St) (G : Glob) (R : A → St → Prop) (h : R (db (c.any (holdsL v))) σ) :
    AC Try.prog G 45 [.d (isD c), .d (bsD v)] σ R := by
  refine ac_enter mixed Try.func45 rfl Try.ntmps45 (by simp only [go_sem]) fun hbd => ?_
  simp only [List.length_cons, List.length_nil, Nat.reduceAdd, Nat.reduceSub, List.replicate_succ, List.replicate_zero, List.cons_append, List.nil_append]
  simp only [isD, go_sem]
  refine aw_loop (fun m fr st => ∃ j : Nat, j ≤ c.length ∧ m = c.length - j ∧ R (db ((c.drop j).any (holdsL v))) σ ∧ fr = [.d (.sl 1 (c.map iD)), .d (bsD v), .any, .any, .any, dn j, .any, .any, .any, .any, .any, .any, .any, .any, .any, .any, .any, .any] ∧ st = σ) c.length _
    (Wk.mask [0, 1, 5] ⟨0, by omega, rfl, h, rfl, rfl⟩) ?_
  rintro m fr σ ⟨j, hj, hm, hR, rfl, rfl⟩
  rcases Nat.lt_or_ge j c.length with hlt | hge
  · have hd : decide ((j : Int) < (c.length : Int)) = true := by simp; omega
    have e1 : List.getD (List.map iD c) j default = iD (c.getD j 0) := getD_mapD hlt
    have w2 := wrapS j (by simp only [reachBytes] at hc; omega)
    rw [drop_getD 0 hlt, List.any_cons] at hR
    simp only [go_sem, List.length_map, hd, e1, w2, Try.results45]
    refine ⟨⟨by omega, by omega⟩, ac' (true_ac _ _ (hl _ (getD_mem 0 hlt)) _ _ _ ?_)⟩
    simp only [go_sem, w2, Try.results45]
    refine ⟨fun he => ret_d0 ?_, fun hne => Wk.mask [0, 1, 5] ⟨c.length - (j + 1), by omega, j + 1, hlt, rfl, ?_, rfl, rfl⟩⟩
    · simpa only [he, Bool.true_or] using hR
    · simpa only [hne, Bool.false_or] using hR
  · have hd : decide ((j : Int) < (c.length : Int)) = false := by simp; omega
    simp only [go_sem, List.length_map, hd, Try.results45]
    refine ret_d0 ?_
    rw [List.drop_eq_nil_of_le hge] at hR; simpa using hR
theorem rvalid_ac (f : Cnf) (hv : I64 f.vars) (hn : f.cls.length ≤ reachBytes) (hc : ∀ c ∈ f.cls, c.length ≤ reachBytes) (σ : St) (G : Glob) (R : A → St → Prop) (h : R (db (validC f)) σ) : AC Try.prog G 43 [.d (cnfD f)] σ R := by
  obtain ⟨vars, cls⟩ := f
  refine ac_enter mixed Try.func43 rfl Try.ntmps43 (by simp only [go_sem]) fun hbd => ?_
  simp only [List.length_cons, List.length_nil, Nat.reduceAdd, Nat.reduceSub, List.replicate_succ, List.replicate_zero, List.cons_append, List.nil_append]
  simp only [cnfD, clsD, go_sem, List.length_map, Try.results43]
  simp only [reachBytes] at hv hn hc
  refine ⟨fun he => ret_d hbd ?_, fun he => ?_⟩
  · rw [validC, he] at h; exact h
  rw [validC, he] at h
  simp only [Bool.not_false, Bool.true_and] at h
  have h0 : 0 ≤ vars ∧ vars ≤ 8000 := by simp only [Bool.or_eq_false_iff, decide_eq_false_iff_not] at he; omega
  have w1 : IntKind.i64.wrap (0 - vars) = -vars := by rw [wrap64_id _ (by omega) (by omega)]; omega
  refine aw_loop (fun m fr st => ∃ j : Nat, j ≤ cls.length ∧ m = cls.length - j ∧ R (db ((cls.drop j).all fun c => c.all (litOk vars))) σ ∧ fr = [.any, .ref σ.length 0, .any, dn j, .any, .any, .any, .any, .any, .any, .any, .any, .any, .any, .any, .any, .any, .any, .any, .any, .any, .any, .any, .any, .any, .any, .any, .any, .any, .any, .any, .any, .any, .any, .any, .any, .any, .any, .any, .any, .any, .any, .any, .any, .any, .any, .any, .any, .any, .any, .any, .any, .any, .any, .any, .any, .any, .any, .any, .any] ∧ st = σ ++ [some (Ob.cells [A.d (iD vars), A.d (D.sl 1 (List.map isD cls))])]) cls.length _
    (Wk.mask [1, 3] ⟨0, by omega, rfl, h, rfl, rfl⟩) ?_
  rintro m fr st ⟨j, hj, hm, hR, rfl, rfl⟩
  rcases Nat.lt_or_ge j cls.length with hlt | hge
  · have hd : decide ((j : Int) < (cls.length : Int)) = true := by simp; omega
    have e1 := isD_getD hlt
    have w2 := wrapS j (by omega)
    have hcj := hc _ (getD_mem [] hlt)
    rw [drop_getD [] hlt, List.all_cons] at hR
    generalize hcc : cls.getD j [] = c at hR e1 hcj
    generalize hrest : ((cls.drop (j + 1)).all fun c => c.all (litOk vars)) = rest at hR
    simp only [go_sem, List.length_map, hd, e1, w2]
    refine aw_loop (fun m fr st => ∃ k : Nat, k ≤ c.length ∧ m = c.length - k ∧ R (db ((c.drop k).all (litOk vars) && rest)) σ ∧ fr = [.any, .ref σ.length 0, .any, dn j, dn k, .any, .any, .any, .any, .any, .any, .any, .any, .any, .any, .any, .any, .any, .any, .any, .any, .any, .any, .any, .any, .any, .any, .any, .any, .any, .any, .any, .any, .any, .any, .any, .any, .any, .any, .any, .any, .any, .any, .any, .any, .any, .any, .any, .any, .any, .any, .any, .any, .any, .any, .any, .any, .any, .any, .any] ∧ st = σ ++ [some (Ob.cells [A.d (iD vars), A.d (D.sl 1 (List.map isD cls))])]) c.length _
      (Wk.mask [1, 3, 4] ⟨0, by omega, rfl, hR, rfl, rfl⟩) ?_
    clear hR
    rintro m fr st ⟨k, hk, hm, hR, rfl, rfl⟩
    rcases Nat.lt_or_ge k c.length with klt | kge
    · have kd : decide ((k : Int) < (c.length : Int)) = true := by simp; omega
      have e2 : List.getD (List.map iD c) k default = iD (c.getD k 0) := getD_mapD klt
      have w3 := wrapS k (by omega)
      rw [drop_getD 0 klt, List.all_cons] at hR
      simp only [go_sem, List.length_map, kd, e1, e2, w1, w3, Try.results43]
      refine ⟨⟨by omega, by omega⟩, ⟨by omega, by omega⟩, ⟨by omega, by omega⟩, fun hb => ret_d hbd ?_, fun hb => Wk.mask [1, 3, 4] ⟨c.length - (k + 1), by omega, k + 1, klt, rfl, ?_, rfl, rfl⟩⟩
      · rw [litOk, show (decide (c.getD k 0 > vars)) = decide (vars < c.getD k 0) from rfl, hb] at hR; simpa using hR
      · rw [litOk, show (decide (c.getD k 0 > vars)) = decide (vars < c.getD k 0) from rfl, hb] at hR; simpa using hR
    · have kd : decide ((k : Int) < (c.length : Int)) = false := by simp; omega
      simp only [go_sem, List.length_map, kd, e1, w2]
      rw [List.drop_eq_nil_of_le kge, List.all_nil, Bool.true_and, ← hrest] at hR
      exact ⟨⟨by omega, by omega⟩, Wk.mask [1, 3] ⟨cls.length - (j + 1), by omega, j + 1, hlt, rfl, hR, rfl, rfl⟩⟩
  · have hd : decide ((j : Int) < (cls.length : Int)) = false := by simp; omega
    simp only [go_sem, List.length_map, hd, Try.results43]
    refine ret_d hbd ?_
    rw [List.drop_eq_nil_of_le hge] at hR; exact hR
theorem cvalid_ac (f : Cnf) (hv : I64 f.vars) (hn : f.cls.length ≤ reachBytes) (hc : ∀ c ∈ f.cls, c.length ≤ reachBytes) (σ : St) (G : Glob) (R : A → St → Prop) (h : R (db (validC f)) σ) : AC Try.prog G 62 [.d (cnfD f)] σ R := by
  obtain ⟨vars, cls⟩ := f
  refine ac_enter mixed Try.func62 rfl Try.ntmps62 (by simp only [go_sem]) fun hbd => ?_
  simp only [List.length_cons, List.length_nil, Nat.reduceAdd, Nat.reduceSub, List.replicate_succ, List.replicate_zero, List.cons_append, List.nil_append]
  simp only [cnfD, clsD, go_sem, List.length_map, Try.results62]
  simp only [reachBytes] at hv hn hc
  refine ⟨fun he => ret_d hbd ?_, fun he => ?_⟩
  · rw [validC, he] at h; exact h
  rw [validC, he] at h
  simp only [Bool.not_false, Bool.true_and] at h
  have h0 : 0 ≤ vars ∧ vars ≤ 8000 := by simp only [Bool.or_eq_false_iff, decide_eq_false_iff_not] at he; omega
  have w1 : IntKind.i64.wrap (0 - vars) = -vars := by rw [wrap64_id _ (by omega) (by omega)]; omega
  refine aw_loop (fun m fr st => ∃ j : Nat, j ≤ cls.length ∧ m = cls.length - j ∧ R (db ((cls.drop j).all fun c => c.all (litOk vars))) σ ∧ fr = [.any, .ref σ.length 0, .any, .any, .any, .any, .any, .any, .any, .any, .any, .any, .any, .any, .any, .any, .any, .any, .any, .any, .any, .any, .d (.sl 1 (cls.map isD)), dn cls.length, dn j, .any, .any, .any, .any, .any, .any, .any, .any, .any, .any, .any, .any, .any, .any, .any, .any, .any, .any, .any, .any, .any, .any, .any, .any, .any, .any] ∧ st = σ ++ [some (Ob.cells [A.d (iD vars), A.d (D.sl 1 (List.map isD cls))])]) cls.length _
    (Wk.mask [1, 22, 23, 24] ⟨0, by omega, rfl, h, rfl, rfl⟩) ?_
  rintro m fr st ⟨j, hj, hm, hR, rfl, rfl⟩
  rcases Nat.lt_or_ge j cls.length with hlt | hge
  · have hd : decide ((j : Int) < (cls.length : Int)) = true := by simp; omega
    have e1 := isD_getD hlt
    have w2 := wrapS j (by omega)
    have hcj := hc _ (getD_mem [] hlt)
    rw [drop_getD [] hlt, List.all_cons] at hR
    generalize hcc : cls.getD j [] = c at hR e1 hcj
    generalize hrest : ((cls.drop (j + 1)).all fun c => c.all (litOk vars)) = rest at hR
    simp only [go_sem, List.length_map, hd, e1, w2]
    refine ⟨⟨by omega, by omega⟩, ?_⟩
    refine aw_loop (fun m fr st => ∃ k : Nat, k ≤ c.length ∧ m = c.length - k ∧ R (db ((c.drop k).all (litOk vars) && rest)) σ ∧ fr = [.any, .ref σ.length 0, .any, .any, .any, .any, .any, .any, .any, .any, .any, .any, .any, .any, .any, .any, .any, .any, .any, .any, .any, .any, .d (.sl 1 (cls.map isD)), dn cls.length, dn j, .any, .any, .any, .d (.sl 1 (c.map iD)), dn c.length, dn k, .any, .any, .any, .any, .any, .any, .any, .any, .any, .any, .any, .any, .any, .any, .any, .any, .any, .any, .any, .any] ∧ st = σ ++ [some (Ob.cells [A.d (iD vars), A.d (D.sl 1 (List.map isD cls))])]) c.length _
      (Wk.mask [1, 22, 23, 24, 28, 29, 30] ⟨0, by omega, rfl, hR, rfl, rfl⟩) ?_
    clear hR
    rintro m fr st ⟨k, hk, hm, hR, rfl, rfl⟩
    rcases Nat.lt_or_ge k c.length with klt | kge
    · have kd : decide ((k : Int) < (c.length : Int)) = true := by simp; omega
      have e2 : List.getD (List.map iD c) k default = iD (c.getD k 0) := getD_mapD klt
      have w3 := wrapS k (by omega)
      rw [drop_getD 0 klt, List.all_cons] at hR
      simp only [go_sem, List.length_map, kd, e1, e2, w1, w3, Try.results62]
      refine ⟨⟨by omega, by omega⟩, fun hb => ret_d hbd ?_, fun hb => Wk.mask [1, 22, 23, 24, 28, 29, 30] ⟨c.length - (k + 1), by omega, k + 1, klt, rfl, ?_, rfl, rfl⟩⟩
      · rw [litOk, show (decide (c.getD k 0 > vars)) = decide (vars < c.getD k 0) from rfl, hb] at hR; simpa using hR
      · rw [litOk, show (decide (c.getD k 0 > vars)) = decide (vars < c.getD k 0) from rfl, hb] at hR; simpa using hR
    · have kd : decide ((k : Int) < (c.length : Int)) = false := by simp; omega
      simp only [go_sem, List.length_map, kd, e1, w2]
      rw [List.drop_eq_nil_of_le kge, List.all_nil, Bool.true_and, ← hrest] at hR
      exact Wk.mask [1, 22, 23, 24] ⟨cls.length - (j + 1), by omega, j + 1, hlt, rfl, hR, rfl, rfl⟩
  · have hd : decide ((j : Int) < (cls.length : Int)) = false := by simp; omega
    simp only [go_sem, List.length_map, hd, Try.results62]
    refine ret_d hbd ?_
    rw [List.drop_eq_nil_of_le hge] at hR; exact hR
end Go.Proofs.Ytpmjdaiboniagaa
