/- Well-formed refutations. -/
import Derived.Test.YtpmjdaiboniagaaC10
set_option linter.unusedSimpArgs false
set_option maxRecDepth 100000
namespace Go.Proofs.Ytpmjdaiboniagaa
open Go Go.Ab

theorem pvalid_ac (vars : Int) (xs : List D) (l : List Stp) (hx : xs.length ≤ 100000) (hl : l.length ≤ 100000) (hs : ∀ s ∈ l, s.lits.length ≤ 12 ∧ s.hints.length ≤ 100000) (σ : St) (G : Glob) (R : A → St → Prop)
    (h : R (db (!decide ((20000 : Int) < l.length) && stepsOk vars xs.length l)) σ) : AC Try.prog G 68 [.d (.agg [iD vars, .sl 1 xs]), .d (stpsD l)] σ R := by
  refine ac_enter mixed Try.func68 rfl Try.ntmps68 (by simp only [go_sem]) fun hbd => ?_
  simp only [List.length_cons, List.length_nil, Nat.reduceAdd, Nat.reduceSub, List.replicate_succ, List.replicate_zero, List.cons_append, List.nil_append]
  simp only [stpsD, go_sem, List.length_map, Try.results68]
  refine ⟨fun hb => ret_d hbd ?_, fun hb => ?_⟩
  · rw [hb] at h; exact h
  rw [hb, Bool.not_false, Bool.true_and] at h
  refine aw_loop (fun m fr st => ∃ j : Nat, j ≤ l.length ∧ m = l.length - j ∧ R (db (stepsOk vars (xs.length + j) (l.drop j))) σ ∧ fr = [.any, .any, .ref σ.length 0, .any, .any, .any, .any, .any, .any, .any, .any, .any, .d (.sl 2 (l.map stpD)), dn l.length, dn j, .any, .any, .any, .any, .any, .any, .any, .any, .any, .any, .any, .any, .any, .any, .any, .any, .any, .any, .any, .any, .any, .any, .any, .any, .any, .any, .any, .any, .any, .any] ∧
    st = σ ++ [some (.cells [.d (iD vars), .d (.sl 1 xs)])]) l.length _ (Wk.mask [2, 12, 13, 14] ⟨0, by omega, rfl, h, rfl, rfl⟩) ?_
  clear h
  rintro m fr st ⟨j, hj, hm, hR, rfl, rfl⟩
  rcases Nat.lt_or_ge j l.length with hlt | hge
  · have hd : decide ((j : Int) < (l.length : Int)) = true := decide_eq_true (by omega)
    have e1 := stpD_getD hlt
    have w2 := wrapS j (by omega)
    have w5 : IntKind.i64.wrap ((xs.length : Int) + (j : Int)) = ((xs.length + j : Nat) : Int) := by rw [wrap64_id _ (by omega) (by omega)]; omega
    have hsj := hs _ (getD_mem ⟨[], []⟩ hlt)
    rw [drop_getD ⟨[], []⟩ hlt, stepsOk, stepOk] at hR
    generalize l.getD j ⟨[], []⟩ = s at e1 hR hsj
    obtain ⟨lits, hints⟩ := s
    simp only at hsj hR e1
    simp only [go_sem, List.length_map, hd, e1, w2, w5]
    refine ⟨⟨by omega, by omega⟩, ac' (vlits_ac lits vars hsj.1 _ _ _ ?_)⟩
    simp only [go_sem, isD, List.length_map, w2, w5, Try.results68]
    refine ⟨fun hb => ret_d hbd ?_, fun hb => ?_⟩
    · simp only [Bool.not_eq_true'] at hb
      rw [hb] at hR; exact hR
    simp only [Bool.not_eq_false'] at hb
    rw [hb, Bool.true_and, hintsOk] at hR
    generalize hrest : stepsOk vars (xs.length + j + 1) (l.drop (j + 1)) = rest at hR
    refine aw_loop (fun m fr st => ∃ k : Nat, k ≤ hints.length ∧ m = hints.length - k ∧ R (db ((hints.drop k).all (fun h => !(decide (h < 0) || decide (((xs.length + j : Nat) : Int) ≤ h))) && rest)) σ ∧ fr = [.any, .any, .ref σ.length 0, .any, .any, dn j, .any, .any, .any, .any, .any, .any, .d (.sl 2 (l.map stpD)), dn l.length, dn j, .any, .any, .any, .any, .any, .any, .any, .any, .any, .any, .any, .d (.sl 1 (hints.map iD)), dn hints.length, dn k, .any, .any, .any, .any, .any, .any, .any, .any, .any, .any, .any, .any, .any, .any, .any, .any] ∧
      st = σ ++ [some (.cells [.d (iD vars), .d (.sl 1 xs)])]) hints.length _ (Wk.keep [2, 5, 12, 13, 14, 26, 27, 28] [0] (by decide) (Nat.le_refl _) hbd ⟨0, by omega, rfl, hR, by simp only [go_sem]; rfl, by simp only [go_sem]⟩) ?_
    clear hR
    rintro m' fr st ⟨k, hk, hm', hR, rfl, rfl⟩
    rcases Nat.lt_or_ge k hints.length with klt | kge
    · have kd : decide ((k : Int) < (hints.length : Int)) = true := decide_eq_true (by omega)
      have e2 : List.getD (List.map iD hints) k default = iD (hints.getD k 0) := getD_mapD klt
      have w3 := wrapS k (by omega)
      rw [drop_getD 0 klt, List.all_cons] at hR
      simp only [go_sem, List.length_map, kd, e2, w3, w5, Try.results68]
      refine ⟨⟨by omega, by omega⟩, fun hb => ret_d hbd ?_, fun hb => Wk.mask [2, 5, 12, 13, 14, 26, 27, 28] ⟨hints.length - (k + 1), by omega, k + 1, klt, rfl, ?_, rfl, rfl⟩⟩
      · rw [hb] at hR; simpa using hR
      · rw [hb] at hR; simpa using hR
    · have kd : decide ((k : Int) < (hints.length : Int)) = false := decide_eq_false (by omega)
      simp only [go_sem, List.length_map, kd, w2]
      rw [List.drop_eq_nil_of_le kge, List.all_nil, Bool.true_and, ← hrest] at hR
      exact Wk.mask [2, 12, 13, 14] ⟨l.length - (j + 1), by omega, j + 1, hlt, rfl, hR, rfl, rfl⟩
  · have hd : decide ((j : Int) < (l.length : Int)) = false := decide_eq_false (by omega)
    simp only [go_sem, List.length_map, hd, Try.results68]
    refine ret_d hbd ?_
    rw [List.drop_eq_nil_of_le hge, stepsOk] at hR; exact hR
/-- What an examination is made of. -/
abbrev exam (f : Cnf) (l : List Stp) (pl : A) (im : Nat) (made : A) : Option Ob := some (.cells [.d (iD f.vars), .d (clsD f.cls), .d (stpsD l), pl, .mapr im, made])
theorem newEx_ac (f : Cnf) (l : List Stp) (σ : St) (G : Glob) (R : A → St → Prop)
    (h : R (.ref (σ.length + 1) 0) (σ ++ [some (.map []), exam f l (.d .nils) σ.length (.d .nils)])) : AC Try.prog G 63 [.d (cnfD f), .d (stpsD l)] σ R := by
  refine ac_enter mixed Try.func63 rfl Try.ntmps63 (by simp only [go_sem]) fun hbd => ?_
  simp only [List.length_cons, List.length_nil, Nat.reduceAdd, Nat.reduceSub, List.replicate_succ, List.replicate_zero, List.cons_append, List.nil_append]
  simp only [cnfD, clsD, stpsD, go_sem, Try.results63]
  exact ret_keep [1, 2] (by decide) hbd (by simp only [go_sem]; exact h)
theorem lit1_ac (s : Stp) (σ : St) (G : Glob) (R : A → St → Prop) (h : R (.d (isD s.lits)) σ) : AC Try.prog G 97 [.d (.agg [isD s.lits, isD s.hints])] σ R := by
  refine ac_enter mixed Try.func97 rfl Try.ntmps97 (by simp only [go_sem]) fun hbd => ?_
  simp only [List.length_cons, List.length_nil, Nat.reduceAdd, Nat.reduceSub, List.replicate_succ, List.replicate_zero, List.cons_append, List.nil_append]
  simp only [go_sem, Try.results97]
  exact ret_d hbd h
theorem lit2_ac (c : List Int) (σ : St) (G : Glob) (R : A → St → Prop) (h : R (.d (isD c)) σ) : AC Try.prog G 99 [.d (isD c)] σ R := by
  refine ac_enter mixed Try.func99 rfl Try.ntmps99 (by simp only [go_sem]) fun hbd => ?_
  simp only [List.length_cons, List.length_nil, Nat.reduceAdd, Nat.reduceSub, List.replicate_succ, List.replicate_zero, List.cons_append, List.nil_append]
  simp only [go_sem, Try.results99]
  exact ret_d0 h
theorem lookL_ac (l : List Stp) (n : Nat) (hn : n < l.length) (σ : St) (G : Glob) (R : A → St → Prop) (h : R (.d (isD (l.getD n ⟨[], []⟩).lits)) σ) : AC Try.prog G 96 [.d (stpsD l), dn n, .fn (.func 97) [] []] σ R := by
  refine ac_enter mixed Try.func96 rfl Try.ntmps96 (by simp only [go_sem]) fun hbd => ?_
  simp only [List.length_cons, List.length_nil, Nat.reduceAdd, Nat.reduceSub, List.replicate_succ, List.replicate_zero, List.cons_append, List.nil_append]
  have e1 := stpD_getD hn
  simp only [stpsD, go_sem, List.length_map, e1]
  refine ⟨⟨by omega, by omega⟩, ac' (lit1_ac _ _ _ _ ?_)⟩
  simp only [go_sem, Try.results96]
  exact ret_d0 h
theorem lookC_ac (cls : List (List Int)) (n : Nat) (hn : n < cls.length) (σ : St) (G : Glob) (R : A → St → Prop) (h : R (.d (isD (cls.getD n []))) σ) : AC Try.prog G 98 [.d (clsD cls), dn n, .fn (.func 99) [] []] σ R := by
  refine ac_enter mixed Try.func98 rfl Try.ntmps98 (by simp only [go_sem]) fun hbd => ?_
  simp only [List.length_cons, List.length_nil, Nat.reduceAdd, Nat.reduceSub, List.replicate_succ, List.replicate_zero, List.cons_append, List.nil_append]
  have e1 := isD_getD hn
  simp only [clsD, go_sem, List.length_map, e1]
  refine ⟨⟨by omega, by omega⟩, ac' (lit2_ac (cls.getD n []) _ _ _ ?_)⟩
  simp only [go_sem, Try.results98]
  exact ret_d0 h
theorem exclause_ac (f : Cnf) (l : List Stp) (n : Nat) (h1 : f.cls.length ≤ 100000) (h2 : l.length ≤ 100000) (hn : n < f.cls.length + l.length) {pl made : A} {im ie : Nat} (σ : St) (he : σ[ie]? = some (exam f l pl im made)) (G : Glob) (R : A → St → Prop) (h : R (.d (isD (clauseAt f.cls l n))) σ) : AC Try.prog G 90 [.ref ie 0, dn n] σ R := by
  refine ac_enter mixed Try.func90 rfl Try.ntmps90 (by simp only [go_sem]) fun hbd => ?_
  simp only [List.length_cons, List.length_nil, Nat.reduceAdd, Nat.reduceSub, List.replicate_succ, List.replicate_zero, List.cons_append, List.nil_append]
  have hlive := live_of he
  simp only [go_sem, hlive, objK_of he, clsD, List.length_map]
  refine ⟨fun hb => ?_, fun hb => ?_⟩
  · have w1 : IntKind.i64.wrap ((n : Int) - (f.cls.length : Int)) = ((n - f.cls.length : Nat) : Int) := by simp at hb; rw [wrap64_id _ (by omega) (by omega)]; omega
    simp only [go_sem, w1]
    simp at hb
    refine ac' (lookL_ac l _ (by omega) _ _ _ ?_)
    simp only [go_sem, Try.results90]
    refine ret_d0 ?_
    rwa [clauseAt, if_neg (by omega)] at h
  · simp at hb
    refine ac' (lookC_ac f.cls n (by omega) _ _ _ ?_)
    simp only [go_sem, Try.results90]
    refine ret_d0 ?_
    rwa [clauseAt, if_pos (by omega)] at h
/-- The state of a clause: its open literal, whether it is falsified, whether it is unit. -/
def stS (S : List Int) : List Int → Int → Int × Bool × Bool
  | [], o => (o, o == 0, o != 0)
  | l :: c, o => if l ∈ S then (0, false, false) else if -l ∈ S ∨ l = o then stS S c o else if o = 0 then stS S c l else (0, false, false)
theorem state_ac (f : Cnf) (l : List Stp) (c S : List Int) (hc : c.length ≤ reachBytes) (hl : ∀ x ∈ c, -8000 ≤ x ∧ x ≤ 8000) {pl made : A} {im ie : Nat} (σ : St) (he : σ[ie]? = some (exam f l pl im made)) (hm : σ[im]? = some (some (.map (setM S)))) (G : Glob) (R : A → St → Prop)
    (h : R (.tup [di (stS S c 0).1, db (stS S c 0).2.1, db (stS S c 0).2.2]) σ) : AC Try.prog G 89 [.ref ie 0, .d (isD c)] σ R := by
  refine ac_enter mixed Try.func89 rfl Try.ntmps89 (by simp only [go_sem]) fun hbd => ?_
  simp only [List.length_cons, List.length_nil, Nat.reduceAdd, Nat.reduceSub, List.replicate_succ, List.replicate_zero, List.cons_append, List.nil_append]
  have hlive := live_of he
  simp only [isD, go_sem, List.length_map]
  refine aw_loop (fun m fr st => ∃ (j : Nat) (o : Int), j ≤ c.length ∧ m = c.length - j ∧ R (.tup [di (stS S (c.drop j) o).1, db (stS S (c.drop j) o).2.1, db (stS S (c.drop j) o).2.2]) σ ∧ fr = [.ref ie 0, .any, .any, .any, di o, db false, db false, .any, .any, .d (.sl 1 (c.map iD)), dn c.length, dn j, .any, .any, .any, .any, .any, .any, .any, .any, .any, .any, .any, .any, .any, .any, .any, .any, .any, .any, .any, .any, .any, .any, .any, .any, .any, .any, .any, .any, .any, .any, .any] ∧ st = σ) c.length _
    (Wk.mask [0, 4, 5, 6, 9, 10, 11] ⟨0, 0, by omega, rfl, h, rfl, rfl⟩) ?_
  clear h
  rintro m fr st ⟨j, o, hj, hm', hR, rfl, rfl⟩
  rcases Nat.lt_or_ge j c.length with hlt | hge
  · have hd : decide ((j : Int) < (c.length : Int)) = true := decide_eq_true (by omega)
    have e1 : List.getD (List.map iD c) j default = iD (c.getD j 0) := getD_mapD hlt
    have w2 := wrapS j (by simp only [reachBytes] at hc; omega)
    have w4 : IntKind.i64.wrap (0 - c.getD j 0) = -(c.getD j 0) := by
      have := hl _ (getD_mem 0 hlt)
      rw [wrap64_id _ (by omega) (by omega)]; omega
    rw [drop_getD 0 hlt, stS] at hR
    generalize c.getD j 0 = x at hR e1 w4
    by_cases q1 : x ∈ S
    · simp only [go_sem, List.length_map, hd, e1, w2, w4, hlive, objK_of he, mapK_of hm, decide_eq_true q1, Try.results89]
      rw [if_pos q1] at hR
      exact ⟨⟨by omega, by omega⟩, ret_bd0 hR⟩
    rw [if_neg q1] at hR
    by_cases q2 : -x ∈ S
    · simp only [go_sem, List.length_map, hd, e1, w2, w4, hlive, objK_of he, mapK_of hm, decide_eq_false q1, decide_eq_true q2]
      rw [if_pos (.inl q2)] at hR
      exact ⟨⟨by omega, by omega⟩, Wk.mask [0, 4, 5, 6, 9, 10, 11] ⟨c.length - (j + 1), by omega, j + 1, o, hlt, rfl, hR, rfl, rfl⟩⟩
    by_cases q3 : x = o
    · simp only [go_sem, List.length_map, hd, e1, w2, w4, hlive, objK_of he, mapK_of hm, decide_eq_false q1, decide_eq_false q2, beq_iff_eq.2 q3]
      rw [if_pos (.inr q3)] at hR
      exact ⟨⟨by omega, by omega⟩, Wk.mask [0, 4, 5, 6, 9, 10, 11] ⟨c.length - (j + 1), by omega, j + 1, o, hlt, rfl, hR, rfl, rfl⟩⟩
    rw [if_neg (by rintro (h | h); exact q2 h; exact q3 h)] at hR
    by_cases q4 : o = 0
    · simp only [go_sem, List.length_map, hd, e1, w2, w4, hlive, objK_of he, mapK_of hm, decide_eq_false q1, decide_eq_false q2, beq_eq_false_iff_ne.2 q3, beq_iff_eq.2 q4]
      rw [if_pos q4] at hR
      exact ⟨⟨by omega, by omega⟩, Wk.mask [0, 4, 5, 6, 9, 10, 11] ⟨c.length - (j + 1), by omega, j + 1, x, hlt, rfl, hR, rfl, rfl⟩⟩
    · simp only [go_sem, List.length_map, hd, e1, w2, w4, hlive, objK_of he, mapK_of hm, decide_eq_false q1, decide_eq_false q2, beq_eq_false_iff_ne.2 q3, beq_eq_false_iff_ne.2 q4, Try.results89]
      rw [if_neg q4] at hR
      exact ⟨⟨by omega, by omega⟩, ret_bd0 hR⟩
  · have hd : decide ((j : Int) < (c.length : Int)) = false := decide_eq_false (by omega)
    simp only [go_sem, List.length_map, hd, Try.results89]
    refine ret_bd0 ?_
    rw [List.drop_eq_nil_of_le hge] at hR; exact hR
end Go.Proofs.Ytpmjdaiboniagaa
