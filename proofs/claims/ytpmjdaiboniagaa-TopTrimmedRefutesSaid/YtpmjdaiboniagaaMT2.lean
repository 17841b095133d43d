import Derived.Test.YtpmjdaiboniagaaMT1

section PartC11
/- Well-formed refutations. -/
set_option linter.unusedVariables false
set_option linter.unusedSimpArgs false
set_option maxRecDepth 100000
namespace Go.Proofs.Ytpmjdaiboniagaa
open Go Go.Ab

theorem pvalid_ac (vars : Int) (xs : List D) (l : List Stp) (hx : xs.length ≤ 100000) (hl : l.length ≤ 100000) (hs : ∀ s ∈ l, s.lits.length ≤ 12 ∧ s.hints.length ≤ 100000) (σ : St) (G : Glob) (R : A → St → Prop)
    (h : R (db (!decide ((20000 : Int) < l.length) && stepsOk vars xs.length l)) σ) : AC Try.prog G 68 [.d (.agg [iD vars, .sl 1 xs]), .d (stpsD l)] σ R := by
  refine ac_enter mixed Try.func68 rfl Try.ntmps68 (by simp only [go_sem]) fun hbd => ?_
  simp only [List.length_cons, List.length_nil, Nat.reduceAdd, Nat.reduceSub, List.replicate_succ, List.replicate_zero, List.cons_append, List.nil_append]
  simp only [stpsD, go_sem, List.length_map, Try.results68]
  refine ⟨fun hb => ret_d hbd ?_, fun hb => ?_⟩
  · rw [hb] at h; exact h
  rw [hb, Bool.not_false, Bool.true_and] at h
  refine aw_loop (fun m fr st => ∃ j : Nat, j ≤ l.length ∧ m = l.length - j ∧ R (db (stepsOk vars (xs.length + j) (l.drop j))) σ ∧ fr = [.any, .any, .ref σ.length 0, .any, .any, .any, .any, .any, .any, .any, .any, .any, .d (.sl 2 (l.map stpD)), dn l.length, dn j, .any, .any, .any, .any, .any, .any, .any, .any, .any, .any, .any, .any, .any, .any, .any, .any, .any, .any, .any, .any, .any, .any, .any, .any, .any, .any, .any, .any, .any, .any] ∧
    st = σ ++ [some (.cells [.d (iD vars), .d (.sl 1 xs)])]) l.length _ (Wk.mask [2, 12, 13, 14] ⟨0, by omega, rfl, h, rfl, rfl⟩) ?_
  clear h
  rintro m fr st ⟨j, hj, hm, hR, rfl, rfl⟩
  rcases Nat.lt_or_ge j l.length with hlt | hge
  · have hd : decide ((j : Int) < (l.length : Int)) = true := decide_eq_true (by omega)
    have e1 := stpD_getD hlt
    have w2 := wrapS j (by omega)
    have w5 : IntKind.i64.wrap ((xs.length : Int) + (j : Int)) = ((xs.length + j : Nat) : Int) := by rw [wrap64_id _ (by omega) (by omega)]; omega
    have hsj := hs _ (getD_mem ⟨[], []⟩ hlt)
    rw [drop_getD ⟨[], []⟩ hlt, stepsOk, stepOk] at hR
    generalize l.getD j ⟨[], []⟩ = s at e1 hR hsj
    obtain ⟨lits, hints⟩ := s
    simp only at hsj hR e1
    simp only [go_sem, List.length_map, hd, e1, w2, w5]
    refine ⟨⟨by omega, by omega⟩, ac' (vlits_ac lits vars hsj.1 _ _ _ ?_)⟩
    simp only [go_sem, isD, List.length_map, w2, w5, Try.results68]
    refine ⟨fun hb => ret_d hbd ?_, fun hb => ?_⟩
    · simp only [Bool.not_eq_true'] at hb
      rw [hb] at hR; exact hR
    simp only [Bool.not_eq_false'] at hb
    rw [hb, Bool.true_and, hintsOk] at hR
    generalize hrest : stepsOk vars (xs.length + j + 1) (l.drop (j + 1)) = rest at hR
    refine aw_loop (fun m fr st => ∃ k : Nat, k ≤ hints.length ∧ m = hints.length - k ∧ R (db ((hints.drop k).all (fun h => !(decide (h < 0) || decide (((xs.length + j : Nat) : Int) ≤ h))) && rest)) σ ∧ fr = [.any, .any, .ref σ.length 0, .any, .any, dn j, .any, .any, .any, .any, .any, .any, .d (.sl 2 (l.map stpD)), dn l.length, dn j, .any, .any, .any, .any, .any, .any, .any, .any, .any, .any, .any, .d (.sl 1 (hints.map iD)), dn hints.length, dn k, .any, .any, .any, .any, .any, .any, .any, .any, .any, .any, .any, .any, .any, .any, .any, .any] ∧
      st = σ ++ [some (.cells [.d (iD vars), .d (.sl 1 xs)])]) hints.length _ (Wk.keep [2, 5, 12, 13, 14, 26, 27, 28] [0] (by decide) (Nat.le_refl _) hbd ⟨0, by omega, rfl, hR, by simp only [go_sem]; rfl, by simp only [go_sem]⟩) ?_
    clear hR
    rintro m' fr st ⟨k, hk, hm', hR, rfl, rfl⟩
    rcases Nat.lt_or_ge k hints.length with klt | kge
    · have kd : decide ((k : Int) < (hints.length : Int)) = true := decide_eq_true (by omega)
      have e2 : List.getD (List.map iD hints) k default = iD (hints.getD k 0) := getD_mapD klt
      have w3 := wrapS k (by omega)
      rw [drop_getD 0 klt, List.all_cons] at hR
      simp only [go_sem, List.length_map, kd, e2, w3, w5, Try.results68]
      refine ⟨⟨by omega, by omega⟩, fun hb => ret_d hbd ?_, fun hb => Wk.mask [2, 5, 12, 13, 14, 26, 27, 28] ⟨hints.length - (k + 1), by omega, k + 1, klt, rfl, ?_, rfl, rfl⟩⟩
      · rw [hb] at hR; simpa using hR
      · rw [hb] at hR; simpa using hR
    · have kd : decide ((k : Int) < (hints.length : Int)) = false := decide_eq_false (by omega)
      simp only [go_sem, List.length_map, kd, w2]
      rw [List.drop_eq_nil_of_le kge, List.all_nil, Bool.true_and, ← hrest] at hR
      exact Wk.mask [2, 12, 13, 14] ⟨l.length - (j + 1), by omega, j + 1, hlt, rfl, hR, rfl, rfl⟩
  · have hd : decide ((j : Int) < (l.length : Int)) = false := decide_eq_false (by omega)
    simp only [go_sem, List.length_map, hd, Try.results68]
    refine ret_d hbd ?_
    rw [List.drop_eq_nil_of_le hge, stepsOk] at hR; exact hR
/-- What an examination is made of. -/
abbrev exam (f : Cnf) (l : List Stp) (pl : A) (im : Nat) (made : A) : Option Ob := some (.cells [.d (iD f.vars), .d (clsD f.cls), .d (stpsD l), pl, .mapr im, made])
theorem newEx_ac (f : Cnf) (l : List Stp) (σ : St) (G : Glob) (R : A → St → Prop)
    (h : R (.ref (σ.length + 1) 0) (σ ++ [some (.map []), exam f l (.d .nils) σ.length (.d .nils)])) : AC Try.prog G 63 [.d (cnfD f), .d (stpsD l)] σ R := by
  refine ac_enter mixed Try.func63 rfl Try.ntmps63 (by simp only [go_sem]) fun hbd => ?_
  simp only [List.length_cons, List.length_nil, Nat.reduceAdd, Nat.reduceSub, List.replicate_succ, List.replicate_zero, List.cons_append, List.nil_append]
  simp only [cnfD, clsD, stpsD, go_sem, Try.results63]
  exact ret_keep [1, 2] (by decide) hbd (by simp only [go_sem]; exact h)
theorem lit1_ac (s : Stp) (σ : St) (G : Glob) (R : A → St → Prop) (h : R (.d (isD s.lits)) σ) : AC Try.prog G 97 [.d (.agg [isD s.lits, isD s.hints])] σ R := by
  refine ac_enter mixed Try.func97 rfl Try.ntmps97 (by simp only [go_sem]) fun hbd => ?_
  simp only [List.length_cons, List.length_nil, Nat.reduceAdd, Nat.reduceSub, List.replicate_succ, List.replicate_zero, List.cons_append, List.nil_append]
  simp only [go_sem, Try.results97]
  exact ret_d hbd h
theorem lit2_ac (c : List Int) (σ : St) (G : Glob) (R : A → St → Prop) (h : R (.d (isD c)) σ) : AC Try.prog G 99 [.d (isD c)] σ R := by
  refine ac_enter mixed Try.func99 rfl Try.ntmps99 (by simp only [go_sem]) fun hbd => ?_
  simp only [List.length_cons, List.length_nil, Nat.reduceAdd, Nat.reduceSub, List.replicate_succ, List.replicate_zero, List.cons_append, List.nil_append]
  simp only [go_sem, Try.results99]
  exact ret_d0 h
theorem lookL_ac (l : List Stp) (n : Nat) (hn : n < l.length) (σ : St) (G : Glob) (R : A → St → Prop) (h : R (.d (isD (l.getD n ⟨[], []⟩).lits)) σ) : AC Try.prog G 96 [.d (stpsD l), dn n, .fn (.func 97) [] []] σ R := by
  refine ac_enter mixed Try.func96 rfl Try.ntmps96 (by simp only [go_sem]) fun hbd => ?_
  simp only [List.length_cons, List.length_nil, Nat.reduceAdd, Nat.reduceSub, List.replicate_succ, List.replicate_zero, List.cons_append, List.nil_append]
  have e1 := stpD_getD hn
  simp only [stpsD, go_sem, List.length_map, e1]
  refine ⟨⟨by omega, by omega⟩, ac' (lit1_ac _ _ _ _ ?_)⟩
  simp only [go_sem, Try.results96]
  exact ret_d0 h
theorem lookC_ac (cls : List (List Int)) (n : Nat) (hn : n < cls.length) (σ : St) (G : Glob) (R : A → St → Prop) (h : R (.d (isD (cls.getD n []))) σ) : AC Try.prog G 98 [.d (clsD cls), dn n, .fn (.func 99) [] []] σ R := by
  refine ac_enter mixed Try.func98 rfl Try.ntmps98 (by simp only [go_sem]) fun hbd => ?_
  simp only [List.length_cons, List.length_nil, Nat.reduceAdd, Nat.reduceSub, List.replicate_succ, List.replicate_zero, List.cons_append, List.nil_append]
  have e1 := isD_getD hn
  simp only [clsD, go_sem, List.length_map, e1]
  refine ⟨⟨by omega, by omega⟩, ac' (lit2_ac (cls.getD n []) _ _ _ ?_)⟩
  simp only [go_sem, Try.results98]
  exact ret_d0 h
theorem exclause_ac (f : Cnf) (l : List Stp) (n : Nat) (h1 : f.cls.length ≤ 100000) (h2 : l.length ≤ 100000) (hn : n < f.cls.length + l.length) {pl made : A} {im ie : Nat} (σ : St) (he : σ[ie]? = some (exam f l pl im made)) (G : Glob) (R : A → St → Prop) (h : R (.d (isD (clauseAt f.cls l n))) σ) : AC Try.prog G 90 [.ref ie 0, dn n] σ R := by
  refine ac_enter mixed Try.func90 rfl Try.ntmps90 (by simp only [go_sem]) fun hbd => ?_
  simp only [List.length_cons, List.length_nil, Nat.reduceAdd, Nat.reduceSub, List.replicate_succ, List.replicate_zero, List.cons_append, List.nil_append]
  have hlive := live_of he
  simp only [go_sem, hlive, objK_of he, clsD, List.length_map]
  refine ⟨fun hb => ?_, fun hb => ?_⟩
  · have w1 : IntKind.i64.wrap ((n : Int) - (f.cls.length : Int)) = ((n - f.cls.length : Nat) : Int) := by simp at hb; rw [wrap64_id _ (by omega) (by omega)]; omega
    simp only [go_sem, w1]
    simp at hb
    refine ac' (lookL_ac l _ (by omega) _ _ _ ?_)
    simp only [go_sem, Try.results90]
    refine ret_d0 ?_
    rwa [clauseAt, if_neg (by omega)] at h
  · simp at hb
    refine ac' (lookC_ac f.cls n (by omega) _ _ _ ?_)
    simp only [go_sem, Try.results90]
    refine ret_d0 ?_
    rwa [clauseAt, if_pos (by omega)] at h
/-- The state of a clause: its open literal, whether it is falsified, whether it is unit. -/
def stS (S : List Int) : List Int → Int → Int × Bool × Bool
  | [], o => (o, o == 0, o != 0)
  | l :: c, o => if l ∈ S then (0, false, false) else if -l ∈ S ∨ l = o then stS S c o else if o = 0 then stS S c l else (0, false, false)
theorem state_ac (f : Cnf) (l : List Stp) (c S : List Int) (hc : c.length ≤ reachBytes) (hl : ∀ x ∈ c, -8000 ≤ x ∧ x ≤ 8000) {pl made : A} {im ie : Nat} (σ : St) (he : σ[ie]? = some (exam f l pl im made)) (hm : σ[im]? = some (some (.map (setM S)))) (G : Glob) (R : A → St → Prop)
    (h : R (.tup [di (stS S c 0).1, db (stS S c 0).2.1, db (stS S c 0).2.2]) σ) : AC Try.prog G 89 [.ref ie 0, .d (isD c)] σ R := by
  refine ac_enter mixed Try.func89 rfl Try.ntmps89 (by simp only [go_sem]) fun hbd => ?_
  simp only [List.length_cons, List.length_nil, Nat.reduceAdd, Nat.reduceSub, List.replicate_succ, List.replicate_zero, List.cons_append, List.nil_append]
  have hlive := live_of he
  simp only [isD, go_sem, List.length_map]
  refine aw_loop (fun m fr st => ∃ (j : Nat) (o : Int), j ≤ c.length ∧ m = c.length - j ∧ R (.tup [di (stS S (c.drop j) o).1, db (stS S (c.drop j) o).2.1, db (stS S (c.drop j) o).2.2]) σ ∧ fr = [.ref ie 0, .any, .any, .any, di o, db false, db false, .any, .any, .d (.sl 1 (c.map iD)), dn c.length, dn j, .any, .any, .any, .any, .any, .any, .any, .any, .any, .any, .any, .any, .any, .any, .any, .any, .any, .any, .any, .any, .any, .any, .any, .any, .any, .any, .any, .any, .any, .any, .any] ∧ st = σ) c.length _
    (Wk.mask [0, 4, 5, 6, 9, 10, 11] ⟨0, 0, by omega, rfl, h, rfl, rfl⟩) ?_
  clear h
  rintro m fr st ⟨j, o, hj, hm', hR, rfl, rfl⟩
  rcases Nat.lt_or_ge j c.length with hlt | hge
  · have hd : decide ((j : Int) < (c.length : Int)) = true := decide_eq_true (by omega)
    have e1 : List.getD (List.map iD c) j default = iD (c.getD j 0) := getD_mapD hlt
    have w2 := wrapS j (by simp only [reachBytes] at hc; omega)
    have w4 : IntKind.i64.wrap (0 - c.getD j 0) = -(c.getD j 0) := by
      have := hl _ (getD_mem 0 hlt)
      rw [wrap64_id _ (by omega) (by omega)]; omega
    rw [drop_getD 0 hlt, stS] at hR
    generalize c.getD j 0 = x at hR e1 w4
    by_cases q1 : x ∈ S
    · simp only [go_sem, List.length_map, hd, e1, w2, w4, hlive, objK_of he, mapK_of hm, decide_eq_true q1, Try.results89]
      rw [if_pos q1] at hR
      exact ⟨⟨by omega, by omega⟩, ret_bd0 hR⟩
    rw [if_neg q1] at hR
    by_cases q2 : -x ∈ S
    · simp only [go_sem, List.length_map, hd, e1, w2, w4, hlive, objK_of he, mapK_of hm, decide_eq_false q1, decide_eq_true q2]
      rw [if_pos (.inl q2)] at hR
      exact ⟨⟨by omega, by omega⟩, Wk.mask [0, 4, 5, 6, 9, 10, 11] ⟨c.length - (j + 1), by omega, j + 1, o, hlt, rfl, hR, rfl, rfl⟩⟩
    by_cases q3 : x = o
    · simp only [go_sem, List.length_map, hd, e1, w2, w4, hlive, objK_of he, mapK_of hm, decide_eq_false q1, decide_eq_false q2, beq_iff_eq.2 q3]
      rw [if_pos (.inr q3)] at hR
      exact ⟨⟨by omega, by omega⟩, Wk.mask [0, 4, 5, 6, 9, 10, 11] ⟨c.length - (j + 1), by omega, j + 1, o, hlt, rfl, hR, rfl, rfl⟩⟩
    rw [if_neg (by rintro (h | h); exact q2 h; exact q3 h)] at hR
    by_cases q4 : o = 0
    · simp only [go_sem, List.length_map, hd, e1, w2, w4, hlive, objK_of he, mapK_of hm, decide_eq_false q1, decide_eq_false q2, beq_eq_false_iff_ne.2 q3, beq_iff_eq.2 q4]
      rw [if_pos q4] at hR
      exact ⟨⟨by omega, by omega⟩, Wk.mask [0, 4, 5, 6, 9, 10, 11] ⟨c.length - (j + 1), by omega, j + 1, x, hlt, rfl, hR, rfl, rfl⟩⟩
    · simp only [go_sem, List.length_map, hd, e1, w2, w4, hlive, objK_of he, mapK_of hm, decide_eq_false q1, decide_eq_false q2, beq_eq_false_iff_ne.2 q3, beq_eq_false_iff_ne.2 q4, Try.results89]
      rw [if_neg q4] at hR
      exact ⟨⟨by omega, by omega⟩, ret_bd0 hR⟩
  · have hd : decide ((j : Int) < (c.length : Int)) = false := decide_eq_false (by omega)
    simp only [go_sem, List.length_map, hd, Try.results89]
    refine ret_bd0 ?_
    rw [List.drop_eq_nil_of_le hge] at hR; exact hR
end Go.Proofs.Ytpmjdaiboniagaa
end PartC11

section PartC12
/- An examination examines one step. -/
set_option linter.unusedSimpArgs false
set_option linter.unusedVariables false
set_option maxRecDepth 100000
namespace Go.Proofs.Ytpmjdaiboniagaa
open Go Go.Ab

/-- All but some objects are as they were. -/
def Keeps (X : List Nat) (σ σ' : St) : Prop := σ.length ≤ σ'.length ∧ ∀ id, id < σ.length → id ∉ X → σ'[id]? = σ[id]?
theorem Keeps.refl (X : List Nat) (σ : St) : Keeps X σ σ := ⟨Nat.le_refl _, fun _ _ _ => rfl⟩
theorem Keeps.trans {X Y Z : List Nat} {a b c : St} (h : Keeps X a b) (k : Keeps Y b c) (hx : ∀ i ∈ X, i < a.length → i ∈ Z) (hy : ∀ i ∈ Y, i < a.length → i ∈ Z) : Keeps Z a c :=
  ⟨Nat.le_trans h.1 k.1, fun id hid hz => (k.2 id (Nat.lt_of_lt_of_le hid h.1) fun hm => hz (hy id hm hid)).trans (h.2 id hid fun hm => hz (hx id hm hid))⟩
theorem lt_of_some {σ : St} {i : Nat} {o : Option Ob} (h : σ[i]? = some o) : i < σ.length := (List.getElem?_eq_some_iff.1 h).1
/-- An examination in a store. -/
structure Ex (σ : St) (ie im is : Nat) (f : Cnf) (l : List Stp) (pl : A) (S T : List Int) : Prop where
  ex : σ[ie]? = some (exam f l pl im (.rs is 1 0 T.length (some 3)))
  map : σ[im]? = some (some (.map (setM S)))
  ints : σ[is]? = some (ints T)
  nem : ie ≠ im
  nes : ie ≠ is
  mns : im ≠ is
  pl : pl.bd σ.length = true
def ins (S : List Int) (x : Int) : List Int := if x ∈ S then S else S ++ [x]
theorem mem_ins {S : List Int} {x y : Int} : y ∈ ins S x ↔ y ∈ S ∨ y = x := by
  unfold ins; split
  · rename_i h; exact ⟨.inl, fun k => k.elim id fun e => e ▸ h⟩
  · simp
theorem nodup_ins {S : List Int} {x : Int} (h : S.Nodup) : (ins S x).Nodup := by
  unfold ins; split
  · exact h
  · rename_i hx; exact List.nodup_append.2 ⟨h, by simp, fun a ha b hb => by simp at hb; subst hb; exact fun e => hx (e ▸ ha)⟩
theorem objK_ne {σ : St} {i j : Nat} {x : Option Ob} {k : List A → Prop} (h : i ≠ j) : objK (σ.set i x) j k = objK σ j k := by
  simp only [objK, List.getElem?_set, if_neg h]
theorem mapK_ne {σ : St} {i j : Nat} {x : Option Ob} {k : List (D × A) → Prop} (h : i ≠ j) : mapK (σ.set i x) j k = mapK σ j k := by
  simp only [mapK, List.getElem?_set, if_neg h]
theorem live_ne {σ : St} {i j : Nat} {x : Option Ob} (h : i ≠ j) : liveId (σ.set i x) j = liveId σ j := by
  simp only [liveId, List.getElem?_set, if_neg h]
theorem objK_apl {σ l : St} {j : Nat} {k : List A → Prop} (h : j < σ.length) : objK (σ ++ l) j k = objK σ j k := by
  simp only [objK, List.getElem?_append_left h]
theorem mapK_apl {σ l : St} {j : Nat} {k : List (D × A) → Prop} (h : j < σ.length) : mapK (σ ++ l) j k = mapK σ j k := by
  simp only [mapK, List.getElem?_append_left h]
theorem live_apl {σ l : St} {j : Nat} (h : j < σ.length) : liveId (σ ++ l) j = liveId σ j := by
  simp only [liveId, List.getElem?_append_left h]
theorem objK_apr {τ l : St} {j : Nat} {k : List A → Prop} (h : τ.length ≤ j) : objK (τ ++ l) j k = objK l (j - τ.length) k := by
  simp only [objK, List.getElem?_append_right h]
theorem live_apr {τ l : St} {j : Nat} (h : τ.length ≤ j) : liveId (τ ++ l) j = liveId l (j - τ.length) := by
  simp only [liveId, List.getElem?_append_right h]
theorem set_apl {σ l : St} {j : Nat} {x : Option Ob} (h : j < σ.length) : List.set (σ ++ l) j x = List.set σ j x ++ l := by
  rw [List.set_append_left _ _ h]
/-- Is a step justified, as the program has it? -/
def justP (cl : Nat → List Int) (T : List Int) : List Int → Bool
  | [] => false
  | [h] => (stS T (cl h.toNat) 0).2.1
  | h :: hs => if (stS T (cl h.toNat) 0).2.2 then justP cl (T ++ [(stS T (cl h.toNat) 0).1]) hs else false
theorem justP_two (cl : Nat → List Int) (T : List Int) (h y : Int) (r : List Int) : justP cl T (h :: y :: r) = if (stS T (cl h.toNat) 0).2.2 then justP cl (T ++ [(stS T (cl h.toNat) 0).1]) (y :: r) else false := rfl
theorem exassign_ac (f : Cnf) (l : List Stp) (x : Int) {pl : A} {S T : List Int} {im ie is : Nat} (σ : St) (hE : Ex σ ie im is f l pl S T) (hT : T.length < 1000000) (G : Glob) (R : A → St → Prop)
    (h : ∀ r σ' is', Ex σ' ie im is' f l pl (ins S x) (T ++ [x]) → σ.length ≤ is' → Keeps [ie, im, is] σ σ' → R r σ') : AC Try.prog G 88 [.ref ie 0, di x] σ R := by
  obtain ⟨he, hm, hs, n1, n2, n3, hp⟩ := hE
  refine ac_enter mixed Try.func88 rfl Try.ntmps88 (by simp only [go_sem]) fun hbd => ?_
  simp only [List.length_cons, List.length_nil, Nat.reduceAdd, Nat.reduceSub, List.replicate_succ, List.replicate_zero, List.cons_append, List.nil_append]
  have hie := lt_of_some he
  have his := lt_of_some hs
  have him := lt_of_some hm
  simp only [go_sem, live_of he, objK_of he, mapK_of hm, objK_of hs, objK_ne n1.symm, objK_ne n2.symm, objK_ne n3, live_ne n1.symm, live_ne n2.symm, objK_apl, live_apl, set_apl, List.length_set, hie, his, him, List.length_map, objK_apr, live_apr, Nat.le_refl, Nat.le_add_right, Nat.sub_self, Nat.add_sub_cancel_left, Try.results88]
  refine ⟨⟨by omega, by simp only [maxLen]; omega, by omega⟩, _, _, Weak.refl _ _ _ _, h _ _ (σ.length + 1) ⟨?_, ?_, ?_, n1, by omega, by omega, ?_⟩ (by omega) ⟨by simp, fun id hid hn => ?_⟩⟩
  · rw [List.getElem?_append_left (by simp; exact hie), List.getElem?_set, if_pos rfl, if_pos (by simp; exact hie)]; simp
  · rw [List.getElem?_append_left (by simp; exact him), List.getElem?_set_ne n1, List.getElem?_set_ne n3.symm, List.getElem?_set, if_pos rfl, if_pos him]; rfl
  · rw [List.getElem?_append_right (by simp)]; simp
  · exact A.bd_mono (by simp) _ hp
  · simp only [List.mem_cons, List.not_mem_nil, or_false, not_or] at hn
    rw [List.getElem?_append_left (by simp; exact hid), List.getElem?_set_ne (by omega), List.getElem?_set_ne (by omega), List.getElem?_set_ne (by omega)]
theorem stS_congr {S T : List Int} (h : ∀ x, x ∈ S ↔ x ∈ T) : ∀ {c : List Int} {o : Int}, stS S c o = stS T c o
  | [], o => rfl
  | l :: c, o => by simp only [stS, h, stS_congr h (c := c)]
theorem exjust_ac (f : Cnf) (l : List Stp) (k : Nat) (h1 : f.cls.length ≤ 100000) (h2 : l.length ≤ 100000) (hk : k < l.length) (hv : ∀ n : Nat, (n : Int) ∈ (l.getD k ⟨[], []⟩).hints → (clauseAt f.cls l n).length ≤ reachBytes ∧ ∀ x ∈ clauseAt f.cls l n, -8000 ≤ x ∧ x ≤ 8000)
    (h3 : (l.getD k ⟨[], []⟩).lits.length ≤ 100000) (h4 : (l.getD k ⟨[], []⟩).hints.length ≤ 100000) (h5 : ∀ x ∈ (l.getD k ⟨[], []⟩).lits, -8000 ≤ x ∧ x ≤ 8000) (h6 : ∀ x ∈ (l.getD k ⟨[], []⟩).hints, 0 ≤ x ∧ x < f.cls.length + l.length)
    {pl : A} {S T : List Int} {im ie is : Nat} (σ : St) (hE : Ex σ ie im is f l pl S T) (hS : S.Nodup ∧ ∀ x ∈ S, x ∈ T) (hT : T.length < 300000) (G : Glob) (R : A → St → Prop)
    (h : ∀ σ' is' S' T', Ex σ' ie im is' f l pl S' T' → S'.Nodup → (∀ x ∈ S', x ∈ T') → T'.length < 300000 → (is' = is ∨ σ.length ≤ is') → Keeps [ie, im, is] σ σ' → R (db (justP (clauseAt f.cls l) (negs (l.getD k ⟨[], []⟩).lits) (l.getD k ⟨[], []⟩).hints)) σ') : AC Try.prog G 69 [.ref ie 0, dn k] σ R := by
  have e1 := stpD_getD hk
  obtain ⟨s, hse⟩ : ∃ s, l.getD k ⟨[], []⟩ = s := ⟨_, rfl⟩
  rw [hse] at e1 h3 h4 h5 h6 h hv
  clear hse
  obtain ⟨lits, hints⟩ := s
  simp only at h3 h4 h5 h6 h hv
  obtain ⟨he, hm, hs, n1, n2, n3, hp⟩ := hE
  have hie := lt_of_some he
  have his := lt_of_some hs
  have him := lt_of_some hm
  refine ac_enter mixed Try.func69 rfl Try.ntmps69 (by simp only [go_sem]) fun hbd => ?_
  simp only [List.length_cons, List.length_nil, Nat.reduceAdd, Nat.reduceSub, List.replicate_succ, List.replicate_zero, List.cons_append, List.nil_append]
  simp only [go_sem, live_of he, objK_of he, live_of hs]
  refine aw_loop (fun m fr st => ∃ (j : Nat) (S' : List Int), j ≤ T.length ∧ m = T.length - j ∧ S'.Nodup ∧ (∀ x ∈ S', x ∈ T.drop j) ∧ fr = [.ref ie 0, dn k, .any, .any, .any, .any, .any, .any, .any, .any, .any, .any, .any, .any, .any, .any, .any, .any, .rs is 1 0 T.length (some 3), dn T.length, dn j, .any, .any, .any, .any, .any, .any, .any, .any, .any, .any, .any, .any, .any, .any, .any, .any, .any, .any, .any, .any, .any, .any, .any, .any, .any, .any, .any, .any, .any, .any, .any, .any, .any, .any, .any, .any, .any, .any, .any, .any, .any, .any, .any, .any, .any, .any, .any, .any, .any, .any, .any, .any, .any, .any, .any, .any, .any, .any, .any, .any, .any, .any, .any, .any, .any, .any, .any, .any, .any, .any, .any] ∧ st = σ.set im (some (.map (setM S')))) T.length _
    (Wk.mask [0, 1, 18, 19, 20] ⟨0, S, by omega, rfl, hS.1, hS.2, rfl, (set_same hm).symm⟩) ?_
  rintro m fr st ⟨j, S1, hj, hm', hn, hsub, rfl, rfl⟩
  have hm1 : (σ.set im (some (Ob.map (setM S1))))[im]? = some (some (.map (setM S1))) := by rw [List.getElem?_set, if_pos rfl, if_pos him]
  rcases Nat.lt_or_ge j T.length with hlt | hge
  · have hd : decide ((j : Int) < (T.length : Int)) = true := decide_eq_true (by omega)
    have w2 := wrapS j (by omega)
    have e2 : List.getD (T.map fun x => A.d (iD x)) j .any = A.d (iD (T.getD j 0)) := getD_mapA hlt
    rw [drop_getD 0 hlt] at hsub
    simp only [go_sem, hd, w2, e2, live_ne n1.symm, live_ne n3, live_of he, live_of hs, objK_ne n1.symm, objK_ne n3, objK_of he, objK_of hs, mapK_of hm1, List.length_map, Nat.mul_one, List.set_set]
    refine ⟨⟨by omega, by omega⟩, hlt, Wk.mask [0, 1, 18, 19, 20] ⟨T.length - (j + 1), by omega, j + 1, S1.erase (T.getD j 0), hlt, rfl, hn.erase _, fun x hx => ?_, rfl, rfl⟩⟩
    have h7 := (List.Nodup.mem_erase_iff hn).1 hx
    rcases List.mem_cons.1 (hsub x h7.2) with h8 | h8
    · exact (h7.1 h8).elim
    · exact h8
  have hS1 : S1 = [] := by
    cases S1 with
    | nil => rfl
    | cons y r => have := hsub y (by simp); rw [List.drop_eq_nil_of_le hge] at this; cases this
  subst hS1
  have hd : decide ((j : Int) < (T.length : Int)) = false := decide_eq_false (by omega)
  simp only [stpsD, go_sem, hd, live_ne n1.symm, live_ne n2, live_ne n3, live_of he, live_of hs, objK_ne n1.symm, objK_ne n3, objK_of he, objK_of hs, mapK_of hm1, List.length_map, e1, isD, objK_set, live_set, List.length_set, hie]
  refine ⟨⟨by omega, by omega⟩, ⟨by omega, by omega⟩, ?_⟩
  refine aw_loop (fun m fr st => ∃ (j is' : Nat) (S' : List Int), j ≤ lits.length ∧ m = lits.length - j ∧ Ex st ie im is' f l pl S' (negs (lits.take j)) ∧ S'.Nodup ∧ (∀ x, x ∈ S' ↔ x ∈ negs (lits.take j)) ∧ (is' = is ∨ σ.length ≤ is') ∧ Keeps [ie, im, is] σ st ∧
    fr = [.ref ie 0, dn k, .any, .any, .any, .any, .any, .any, .any, .any, .any, .any, .any, .any, .any, .any, .any, .any, .any, .any, .any, .any, .any, .any, .any, .any, .any, .any, .any, .any, .any, .any, .any, .any, .any, .any, .any, .any, .any, .any, .any, .any, .any, .any, .any, .d (.sl 1 (lits.map iD)), dn lits.length, dn j, .any, .any, .any, .any, .any, .any, .any, .any, .any, .any, .any, .any, .any, .any, .any, .any, .any, .any, .any, .any, .any, .any, .any, .any, .any, .any, .any, .any, .any, .any, .any, .any, .any, .any, .any, .any, .any, .any, .any, .any, .any, .any, .any, .any]) lits.length _
    ⟨_, _, (Weak.mask [0, 1, 45, 46, 47]).trans (Weak.short (σ := []) is 0 (cs := T.map fun x => A.d (iD x)) ?_), 0, is, [], by omega, rfl, ⟨?_, ?_, ?_, n1, n2, n3, ?_⟩, by simp, by simp [negs], .inl rfl, ⟨?_, fun id hid hx => ?_⟩, rfl⟩ ?_
  · rw [List.getElem?_set_ne n2, List.getElem?_set_ne n3]; exact hs
  · rw [List.nil_append, List.getElem?_set_ne n2.symm, List.getElem?_set, if_pos rfl, if_pos (by simp; exact hie)]; rfl
  · rw [List.nil_append, List.getElem?_set_ne n3.symm, List.getElem?_set_ne n1, List.getElem?_set, if_pos rfl, if_pos him]
  · rw [List.nil_append, List.getElem?_set, if_pos rfl, if_pos (by simp; exact his)]; rfl
  · simpa using hp
  · simp
  · simp only [List.mem_cons, List.not_mem_nil, or_false, not_or] at hx
    rw [List.nil_append, List.getElem?_set_ne (by omega), List.getElem?_set_ne (by omega), List.getElem?_set_ne (by omega)]
  clear hn hsub hm1 hd hm' hge hj hm hs he
  rintro m fr st ⟨j, is', S', hj, hm', hE, hn, hmem, hi, hK, rfl⟩
  rcases Nat.lt_or_ge j lits.length with hlt | hge
  · have hd : decide ((j : Int) < (lits.length : Int)) = true := decide_eq_true (by omega)
    have e2 : List.getD (List.map iD lits) j default = iD (lits.getD j 0) := getD_mapD hlt
    have w2 := wrapS j (by omega)
    have w4 : IntKind.i64.wrap (0 - lits.getD j 0) = -(lits.getD j 0) := by
      have := h5 _ (getD_mem 0 hlt)
      rw [wrap64_id _ (by omega) (by omega)]; omega
    have htk : negs (lits.take (j + 1)) = negs (lits.take j) ++ [-(lits.getD j 0)] := by
      rw [List.take_add_one, List.getD_eq_getElem?_getD, List.getElem?_eq_getElem hlt, negs, List.map_append]; rfl
    simp only [go_sem, hd, e2, w2, w4, List.length_map]
    refine ⟨⟨by omega, by omega⟩, ac' (exassign_ac f l _ st hE (by rw [negs, List.length_map, List.length_take]; omega) _ _ fun r σ' is2 hE2 hi2 hK2 => ?_)⟩
    simp only [go_sem, w2]
    have hst := hK.1
    refine Wk.mask [0, 1, 45, 46, 47] ⟨lits.length - (j + 1), by omega, j + 1, is2, ins S' (-(lits.getD j 0)), hlt, rfl, by rw [htk]; exact hE2, nodup_ins hn, fun x => ?_, .inr (by omega), hK.trans hK2 (fun i h _ => h) (fun i h hl => ?_), rfl⟩
    · rw [mem_ins, htk, hmem x, List.mem_append, List.mem_singleton]
    · simp only [List.mem_cons, List.not_mem_nil, or_false] at h ⊢
      rcases h with h | h | h
      · exact .inl h
      · exact .inr (.inl h)
      · rcases hi with hi | hi
        · exact .inr (.inr (h.trans hi))
        · omega
  have hj' : j = lits.length := by omega
  subst hj'
  rw [List.take_length] at hE hmem
  have hd : decide ((lits.length : Int) < (lits.length : Int)) = false := decide_eq_false (by omega)
  have he := hE.ex
  simp only [stpsD, go_sem, hd, live_of he, objK_of he, List.length_map, e1, isD]
  refine ⟨⟨by omega, by omega⟩, ?_⟩
  refine aw_loop (fun m fr st => ∃ (j is' : Nat) (S' T' : List Int), j ≤ hints.length ∧ m = hints.length - j ∧ Ex st ie im is' f l pl S' T' ∧ S'.Nodup ∧ (∀ x, x ∈ S' ↔ x ∈ T') ∧ T'.length ≤ 100000 + j ∧ (is' = is ∨ σ.length ≤ is') ∧ Keeps [ie, im, is] σ st ∧
    justP (clauseAt f.cls l) T' (hints.drop j) = justP (clauseAt f.cls l) (negs lits) hints ∧
    fr = [.ref ie 0, .any, .any, .any, .any, .any, .any, .any, .any, .d (.sl 1 (hints.map iD)), .any, .any, .any, .any, .any, .any, .any, .any, .any, .any, .any, .any, .any, .any, .any, .any, .any, .any, .any, .any, .any, .any, .any, .any, .any, .any, .any, .any, .any, .any, .any, .any, .any, .any, .any, .any, .any, .any, .any, .any, .any, .any, .any, .any, .any, .any, .any, .any, .any, .any, .any, .any, .any, .any, .d (.sl 1 (hints.map iD)), dn hints.length, dn j, .any, .any, .any, .any, .any, .any, .any, .any, .any, .any, .any, .any, .any, .any, .any, .any, .any, .any, .any, .any, .any, .any, .any, .any, .any]) hints.length _
    (Wk.mask [0, 9, 64, 65, 66] ⟨0, is', S', negs lits, by omega, rfl, hE, hn, hmem, by rw [negs, List.length_map]; omega, hi, hK, rfl, rfl⟩) ?_
  clear hn hmem hE hi hK hm' hd he
  clear is' S'
  rintro m fr st ⟨j, is', S', T', hj, hm', hE, hn, hmem, hT', hi, hK, hJ, rfl⟩
  have he := hE.ex
  have hmm := hE.map
  rcases Nat.lt_or_ge j hints.length with hlt | hge
  · have hd : decide ((j : Int) < (hints.length : Int)) = true := decide_eq_true (by omega)
    have hx := h6 _ (getD_mem 0 hlt)
    obtain ⟨n, hn'⟩ : ∃ n : Nat, hints.getD j 0 = (n : Int) := ⟨(hints.getD j 0).toNat, by omega⟩
    have e2 : List.getD (List.map iD hints) j default = iD (n : Int) := by rw [← hn']; exact getD_mapD hlt
    have w2 := wrapS j (by omega)
    have w5 : IntKind.i64.wrap ((hints.length : Int) - 1) = ((hints.length - 1 : Nat) : Int) := by rw [wrap64_id _ (by omega) (by omega)]; omega
    rw [drop_getD 0 hlt, hn'] at hJ
    simp only [go_sem, hd, e2, w2, List.length_map]
    refine ⟨⟨by omega, by omega⟩, ac' (exclause_ac f l n h1 h2 (by omega) _ he _ _ ?_)⟩
    obtain ⟨c, hc⟩ : ∃ c, clauseAt f.cls l n = c := ⟨_, rfl⟩
    obtain ⟨hv1, hv2⟩ := hv n (by rw [← hn']; exact getD_mem 0 hlt)
    rw [hc] at hv1 hv2 ⊢
    simp only [go_sem]
    refine ac' (state_ac f l c S' hv1 hv2 _ he hmm _ _ ?_)
    rw [stS_congr hmem]
    rcases Nat.lt_or_ge (j + 1) hints.length with hmore | hlast
    · have kd2 : ((j : Int) == ((hints.length - 1 : Nat) : Int)) = false := by simp; omega
      obtain ⟨y, r, hyr⟩ : ∃ y r, hints.drop (j + 1) = y :: r := ⟨_, _, drop_getD 0 hmore⟩
      rw [hyr, justP_two, Int.toNat_natCast, hc] at hJ
      obtain ⟨⟨o, fa, un⟩, hst⟩ : ∃ s, stS T' c 0 = s := ⟨_, rfl⟩
      rw [hst] at hJ ⊢
      simp only at hJ
      simp only [go_sem, List.length_map, w5, kd2, Try.results69]
      refine ⟨fun hu => ?_, fun hu => ?_⟩
      · simp only [Bool.not_eq_true'] at hu
        subst hu
        simp only [Bool.false_eq_true, if_false] at hJ
        exact ⟨_, _, Weak.refl _ _ _ _, by rw [hJ]; exact h _ is' S' T' hE hn (fun x hx => (hmem x).1 hx) (by omega) hi hK⟩
      simp only [Bool.not_eq_false'] at hu
      subst hu
      simp only [if_true] at hJ
      refine ac' (exassign_ac f l _ st hE (by omega) _ _ fun r2 σ' is2 hE2 hi2 hK2 => ?_)
      simp only [go_sem, w2]
      have hst' := hK.1
      refine Wk.mask [0, 9, 64, 65, 66] ⟨hints.length - (j + 1), by omega, j + 1, is2, ins S' o, T' ++ [o], hlt, rfl, hE2, nodup_ins hn, fun x => ?_, by rw [List.length_append, List.length_singleton]; omega, .inr (by omega), hK.trans hK2 (fun i h _ => h) (fun i h hl => ?_), by rw [hyr]; exact hJ, rfl⟩
      · rw [mem_ins, hmem x, List.mem_append, List.mem_singleton]
      · simp only [List.mem_cons, List.not_mem_nil, or_false] at h ⊢
        rcases h with h | h | h
        · exact .inl h
        · exact .inr (.inl h)
        · rcases hi with hi | hi
          · exact .inr (.inr (h.trans hi))
          · omega
    · have kd2 : ((j : Int) == ((hints.length - 1 : Nat) : Int)) = true := by simp; omega
      rw [List.drop_eq_nil_of_le hlast, justP, Int.toNat_natCast, hc] at hJ
      simp only [go_sem, List.length_map, w5, kd2, Try.results69]
      rw [hJ]
      exact ⟨_, _, Weak.refl _ _ _ _, h _ is' S' T' hE hn (fun x hx => (hmem x).1 hx) (by omega) hi hK⟩
  · have hd : decide ((j : Int) < (hints.length : Int)) = false := decide_eq_false (by omega)
    simp only [go_sem, List.length_map, hd, Try.results69]
    rw [List.drop_eq_nil_of_le hge, justP] at hJ
    rw [hJ]
    exact ⟨_, _, Weak.refl _ _ _ _, h _ is' S' T' hE hn (fun x hx => (hmem x).1 hx) (by omega) hi hK⟩
end Go.Proofs.Ytpmjdaiboniagaa
end PartC12

section PartU2
/- The program's heap of clauses' numbers: container/heap over a slice in a cell. -/
set_option linter.unusedSimpArgs false
set_option linter.unusedVariables false
set_option maxRecDepth 100000
namespace Go.Proofs.Ytpmjdaiboniagaa
open Go Go.Ab

theorem Weak.shortAt {G : Glob} {n0 : Nat} {fr : Fr} {σ : St} (id n : Nat) {cs : List A} (h : σ[id]? = some (some (.cells cs))) : Weak G n0 fr σ fr (σ.set id (some (.cells (cs.take n)))) := by
  have := Weak.short (G := G) (n0 := n0) (fr := fr) (σ := []) (l := σ) id n h
  simpa using this
@[go_sem] theorem rdAssert_ifc {P : Program} {t : TypeId} {ok : Bool} {k : Prop → A → Prop} (a : A) (h1 : isIfaceT P t = false) (h2 : (aggT P t).isSome = true) : rdAssert P t ok k (.ifc t a) = k True (if ok then .tup [a, .d (.bool true)] else a) := by
  unfold isIfaceT at h1
  unfold aggT at h2
  cases hu : P.underlying t with
  | none => rw [hu] at h2; cases h2
  | some u =>
    rw [hu] at h1
    cases u <;> simp_all [rdAssert]
theorem splice_one {cs : List A} {off : Nat} (a : A) (h : off < cs.length) : cs.take off ++ a :: cs.drop (off + 1) = cs.set off a := by
  rw [List.set_eq_take_append_cons_drop, if_pos h]
theorem qlen_ac {iq n : Nat} {w : Option TypeId} {l : List Int} (σ : St) (hσ : σ[iq]? = some (ints l)) (G : Glob) (R : A → St → Prop) (h : R (dn n) σ) : AC Try.prog G 138 [.rs iq 1 0 n w] σ R := by
  refine ac_enter mixed Try.func138 rfl Try.ntmps138 (by simp only [go_sem]) fun hbd => ?_
  simp only [List.length_cons, List.length_nil, Nat.reduceAdd, Nat.reduceSub, List.replicate_succ, List.replicate_zero, List.cons_append, List.nil_append]
  simp only [go_sem, live_of hσ, Try.results138]
  exact ret_d0 h
theorem qless_ac {iq : Nat} {w : Option TypeId} {l : List Int} (i j : Nat) (hi : i < l.length) (hj : j < l.length) (σ : St) (hσ : σ[iq]? = some (ints l)) (G : Glob) (R : A → St → Prop) (h : R (db (decide (l.getD i 0 < l.getD j 0))) σ) : AC Try.prog G 139 [.rs iq 1 0 l.length w, dn i, dn j] σ R := by
  refine ac_enter mixed Try.func139 rfl Try.ntmps139 (by simp only [go_sem]) fun hbd => ?_
  simp only [List.length_cons, List.length_nil, Nat.reduceAdd, Nat.reduceSub, List.replicate_succ, List.replicate_zero, List.cons_append, List.nil_append]
  have e1 : List.getD (l.map fun x => A.d (iD x)) i .any = A.d (iD (l.getD i 0)) := getD_mapA hi
  have e2 : List.getD (l.map fun x => A.d (iD x)) j .any = A.d (iD (l.getD j 0)) := getD_mapA hj
  simp only [go_sem, live_of hσ, objK_of hσ, Nat.mul_one, Nat.zero_add, List.length_map, e1, e2, Try.results139]
  exact ⟨⟨by omega, by omega⟩, by omega, ⟨by omega, by omega⟩, by omega, ret_d0 h⟩
theorem qswap_ac {iq : Nat} {w : Option TypeId} {l : List Int} (i j : Nat) (hi : i < l.length) (hj : j < l.length) (σ : St) (hσ : σ[iq]? = some (ints l)) (G : Glob) (R : A → St → Prop) (h : ∀ r, R r (σ.set iq (ints (swapL l i j)))) : AC Try.prog G 140 [.rs iq 1 0 l.length w, dn i, dn j] σ R := by
  have hid : iq < σ.length := lt_of_some hσ
  refine ac_enter mixed Try.func140 rfl Try.ntmps140 (by simp only [go_sem]) fun hbd => ?_
  simp only [List.length_cons, List.length_nil, Nat.reduceAdd, Nat.reduceSub, List.replicate_succ, List.replicate_zero, List.cons_append, List.nil_append]
  have e1 : List.getD (l.map fun x => A.d (iD x)) i .any = A.d (iD (l.getD i 0)) := getD_mapA hi
  have e2 : List.getD (l.map fun x => A.d (iD x)) j .any = A.d (iD (l.getD j 0)) := getD_mapA hj
  simp only [go_sem, live_of hσ, objK_of hσ, objK_set hid, live_set hid, Nat.mul_one, Nat.zero_add, List.length_map, e1, e2, List.set_set, splice_ints' _ hi, Try.results140]
  have hj' : j < (l.set i (l.getD j 0)).length := by simpa using hj
  refine ⟨⟨by omega, by omega⟩, hj, ⟨by omega, by omega⟩, hi, ⟨by omega, by omega⟩, by omega, ⟨by omega, by omega⟩, by simp only [List.length_take, List.length_drop, List.length_map]; omega, _, _, Weak.refl _ _ _ _, ?_⟩
  rw [splice_ints' _ hj']
  exact h _
theorem qpush_ac {ip iq off : Nat} {cs : List A} {l : List Int} (x : Int) (hl : l.length < 1000000) (σ : St) (hp : σ[ip]? = some (some (.cells cs))) (hc : cs[off]? = some (.rs iq 1 0 l.length (some 3))) (hσ : σ[iq]? = some (ints l)) (hne : ip ≠ iq) (G : Glob) (R : A → St → Prop)
    (h : ∀ r, R r ((σ.set iq none ++ [some (Ob.cells [A.d (iD x)]), some (Ob.cells ((l ++ [x]).map fun x => A.d (iD x)))]).set ip (some (.cells (cs.set off (.rs (σ.length + 1) 1 0 (l.length + 1) (some 3)))))))  : AC Try.prog G 142 [.ref ip off, .ifc 3 (di x)] σ R := by
  refine ac_enter mixed Try.func142 rfl Try.ntmps142 (by simp only [go_sem]) fun hbd => ?_
  simp only [List.length_cons, List.length_nil, Nat.reduceAdd, Nat.reduceSub, List.replicate_succ, List.replicate_zero, List.cons_append, List.nil_append]
  have hie := lt_of_some hp
  have his := lt_of_some hσ
  have e0 : List.getD cs off .any = .rs iq 1 0 l.length (some 3) := getD_opt hc
  have ho : off < cs.length := (List.getElem?_eq_some_iff.1 hc).1
  simp only [go_sem, live_of hp, objK_of hp, objK_of hσ, live_of hσ, e0, objK_ne hne.symm, live_ne hne.symm, objK_apl, live_apl, set_apl, List.length_set, hie, his, List.length_map, objK_apr, live_apr, Nat.le_refl, Nat.le_add_right, Nat.sub_self, Nat.add_sub_cancel_left, Try.results142]
  refine ⟨ho, ⟨by omega, by simp only [maxLen]; omega, by omega⟩, by omega, _, _, Weak.refl _ _ _ _, ?_⟩
  rw [splice_one _ ho]
  have := h (.tup [])
  rw [set_apl (by rw [List.length_set]; exact hie), List.map_append] at this
  exact this
theorem qpop_ac {ip iq off : Nat} {cs : List A} {l : List Int} (x : Int) (σ : St) (hp : σ[ip]? = some (some (.cells cs))) (hc : cs[off]? = some (.rs iq 1 0 (l.length + 1) (some 3))) (hσ : σ[iq]? = some (ints (l ++ [x]))) (hl : l.length < 1000000) (hne : ip ≠ iq) (G : Glob) (R : A → St → Prop)
    (h : R (.ifc 3 (di x)) ((σ.set ip (some (.cells (cs.set off (.rs iq 1 0 l.length (some 3)))))).set iq (ints l))) : AC Try.prog G 141 [.ref ip off] σ R := by
  refine ac_enter mixed Try.func141 rfl Try.ntmps141 (by simp only [go_sem]) fun hbd => ?_
  simp only [List.length_cons, List.length_nil, Nat.reduceAdd, Nat.reduceSub, List.replicate_succ, List.replicate_zero, List.cons_append, List.nil_append]
  have hie := lt_of_some hp
  have his := lt_of_some hσ
  have e0 : List.getD cs off .any = .rs iq 1 0 (l.length + 1) (some 3) := getD_opt hc
  have ho : off < cs.length := (List.getElem?_eq_some_iff.1 hc).1
  have w1 : IntKind.i64.wrap (((l.length + 1 : Nat) : Int) - 1) = (l.length : Int) := by rw [wrap64_id _ (by omega) (by omega)]; omega
  have e1 : List.getD ((l ++ [x]).map fun x => A.d (iD x)) l.length .any = A.d (iD x) := by
    rw [getD_mapA (by simp), List.getD_eq_getElem?_getD, List.getElem?_append_right (Nat.le_refl _)]; simp
  simp only [go_sem, live_of hp, objK_of hp, objK_of hσ, live_of hσ, e0, e1, w1, Nat.mul_one, Nat.zero_add, List.length_map, Try.results141]
  refine ⟨ho, ho, ⟨by omega, by omega⟩, ho, ⟨by omega, by omega⟩, by omega, _, _, Weak.shortAt iq l.length (by rw [List.getElem?_set_ne hne]; exact hσ), ?_⟩
  rw [splice_one _ ho, show ((l ++ [x]).map fun x => A.d (iD x)).take l.length = l.map fun x => A.d (iD x) by rw [List.map_append, List.take_left' (by simp)]]
  exact h
/-- The heap's cell: object ip, at off, holds the slice over object iq. -/
structure Qc (σ : St) (ip off iq : Nat) (cs : List A) (l : List Int) : Prop where
  cell : σ[ip]? = some (some (.cells cs))
  at_ : cs[off]? = some (.rs iq 1 0 l.length (some 3))
  its : σ[iq]? = some (ints l)
  ne : ip ≠ iq
theorem Qc.set {σ : St} {ip off iq : Nat} {cs : List A} {l l' : List Int} (h : Qc σ ip off iq cs l) (hl : l'.length = l.length) : Qc (σ.set iq (ints l')) ip off iq cs l' where
  cell := by rw [List.getElem?_set_ne h.ne.symm]; exact h.cell
  at_ := by rw [hl]; exact h.at_
  its := by rw [List.getElem?_set, if_pos rfl, if_pos (lt_of_some h.its)]
  ne := h.ne
theorem Qc.getD {σ : St} {ip off iq : Nat} {cs : List A} {l : List Int} (h : Qc σ ip off iq cs l) : List.getD cs off .any = .rs iq 1 0 l.length (some 3) := getD_opt h.at_
theorem Qc.off {σ : St} {ip off iq : Nat} {cs : List A} {l : List Int} (h : Qc σ ip off iq cs l) : off < cs.length := (List.getElem?_eq_some_iff.1 h.at_).1
theorem hup_ac {ip iq off : Nat} {cs : List A} {l : List Int} (j : Nat) (hl : l.length < 1000000) (hj : j < l.length) (hu : UpH l l.length j) (σ : St) (hQ : Qc σ ip off iq cs l) (G : Glob) (R : A → St → Prop)
    (h : ∀ r l', l'.Perm l → HeapN l' l'.length → R r (σ.set iq (ints l'))) : AC Try.prog G 100 [.ifc 92 (.ref ip off), dn j] σ R := by
  refine ac_enter mixed Try.func100 rfl Try.ntmps100 (by simp only [go_sem]) fun hbd => ?_
  simp only [List.length_cons, List.length_nil, Nat.reduceAdd, Nat.reduceSub, List.replicate_succ, List.replicate_zero, List.cons_append, List.nil_append]
  simp only [go_sem]
  refine aw_loop (fun m fr st => ∃ (l' : List Int) (j : Nat), m = j ∧ j < l.length ∧ l'.Perm l ∧ UpH l' l.length j ∧ st = σ.set iq (ints l') ∧ fr = [.ifc 92 (.ref ip off), dn j, .any, .any, .any, .any, .any, .any, .any, .any, .any, .any, .any, .any, .any, .any, .any, .any, .any, .any, .any, .any, .any]) j _
    (Wk.mask [0, 1] ⟨l, j, rfl, hj, .refl _, hu, (set_same hQ.its).symm, rfl⟩) ?_
  rintro m fr st ⟨l', j, rfl, hj, hp, hu, rfl, rfl⟩
  have hlen : l'.length = l.length := hp.length_eq
  have hQ' := hQ.set hlen
  have e0 := hQ'.getD
  have w1 : IntKind.i64.wrap ((m : Int) - 1) = (m : Int) - 1 := wrap64_id _ (by omega) (by omega)
  have w2 : IntKind.i64.wrap (((m : Int) - 1).tdiv 2) = (((m - 1) / 2 : Nat) : Int) := by
    rcases Nat.eq_zero_or_pos m with h0 | h0
    · subst h0; rfl
    · rw [show (m : Int) - 1 = ((m - 1 : Nat) : Int) by omega, show (((m - 1 : Nat) : Int).tdiv 2) = (((m - 1) / 2 : Nat) : Int) from rfl]
      exact wrap64_id _ (by omega) (by omega)
  have hpar : (m - 1) / 2 < l.length := by omega
  by_cases hz : m = 0
  · subst hz
    have d0 : ((((0 - 1) / 2 : Nat) : Int) == ((0 : Nat) : Int)) = true := rfl
    simp only [go_sem, w1, w2, d0]
    refine ⟨by omega, ?_⟩
    refine ex' (.bool false) ⟨fun hc => Bool.noConfusion hc, ?_⟩
    simp only [go_sem, Try.results100]
    exact ⟨_, _, Weak.refl _ _ _ _, h _ _ hp (by rw [hlen]; exact hu.done (.inl rfl))⟩
  · have d0 : ((((m - 1) / 2 : Nat) : Int) == (m : Int)) = false := by simp; omega
    simp only [go_sem, w1, w2, d0]
    refine ⟨by omega, ?_⟩
    refine ex' (.bool (decide (l'.getD m 0 < l'.getD ((m - 1) / 2) 0))) ⟨fun hc => ?_, ?_⟩
    · simp only [go_sem, objK_of hQ'.cell, e0]
      refine ⟨hQ.off, ac' (qless_ac _ _ (by omega) (by omega) _ hQ'.its _ _ ⟨rfl, rfl⟩)⟩
    simp only [go_sem, objK_of hQ'.cell, e0, Try.results100]
    refine ⟨fun hc => ⟨_, _, Weak.refl _ _ _ _, h _ _ hp (by rw [hlen]; exact hu.done (.inr (by simpa using hc)))⟩, fun hc => ⟨hQ.off, ac' (qswap_ac _ _ (by omega) (by omega) _ hQ'.its _ _ fun r => ?_)⟩⟩
    simp only [go_sem, List.set_set]
    exact Wk.mask [0, 1] ⟨(m - 1) / 2, by omega, swapL l' ((m - 1) / 2) m, (m - 1) / 2, rfl, by omega, (swapL_perm (by omega) (by omega)).trans hp, hu.swap (by omega) (by omega) hj (by simpa using hc), rfl, rfl⟩
theorem hdown_ac {ip iq off : Nat} {cs : List A} {l : List Int} (n : Nat) (hl : l.length < 1000000) (hn : n ≤ l.length) (hu : DownH l n 0) (σ : St) (hQ : Qc σ ip off iq cs l) (G : Glob) (R : A → St → Prop)
    (h : ∀ r l', l'.Perm l → HeapN l' n → (∀ k, n ≤ k → l'.getD k 0 = l.getD k 0) → R r (σ.set iq (ints l'))) : AC Try.prog G 93 [.ifc 92 (.ref ip off), dn 0, dn n] σ R := by
  refine ac_enterC [8] mixed Try.func93 rfl Try.ntmps93 (by simp only [go_sem]) fun hbd => ?_
  simp only [List.length_cons, List.length_nil, Nat.reduceAdd, Nat.reduceSub, List.replicate_succ, List.replicate_zero, List.cons_append, List.nil_append]
  simp only [go_sem]
  refine aw_loop (fun m fr st => ∃ (l' : List Int) (i : Nat), m = n - i ∧ i ≤ n ∧ l'.Perm l ∧ DownH l' n i ∧ (∀ k, n ≤ k → l'.getD k 0 = l.getD k 0) ∧ st = σ.set iq (ints l') ∧ fr = [.ifc 92 (.ref ip off), dn 0, dn n, .any, .any, .any, .any, dn i, .any, .any, .any, .any, .any, .any, .any, .any, .any, .any, .any, .any, .any, .any, .any, .any, .any, .any, .any, .any, .any, .any, .any, .any, .any, .any, .any, .any, .any, .any, .any, .any, .any, .any, .any, .any, .any, .any, .any, .any]) n _
    (Wk.mask [0, 1, 2, 7] ⟨l, 0, rfl, by omega, .refl _, hu, fun k _ => rfl, (set_same hQ.its).symm, rfl⟩) ?_
  rintro m fr st ⟨l', i, hm, hin, hp, hu, hk, rfl, rfl⟩
  have hlen : l'.length = l.length := hp.length_eq
  have hQ' := hQ.set hlen
  have e0 := hQ'.getD
  have w1 : IntKind.i64.wrap (2 * (i : Int)) = ((2 * i : Nat) : Int) := by rw [wrap64_id _ (by omega) (by omega)]; omega
  have w2 : IntKind.i64.wrap (((2 * i : Nat) : Int) + 1) = ((2 * i + 1 : Nat) : Int) := by rw [wrap64_id _ (by omega) (by omega)]; omega
  have w3 : IntKind.i64.wrap (((2 * i + 1 : Nat) : Int) + 1) = ((2 * i + 2 : Nat) : Int) := by rw [wrap64_id _ (by omega) (by omega)]; omega
  have d1 : decide (((2 * i + 1 : Nat) : Int) < 0) = false := decide_eq_false (by omega)
  by_cases h1 : n ≤ 2 * i + 1
  · have d2 : decide (((2 * i + 1 : Nat) : Int) ≥ (n : Int)) = true := decide_eq_true (by omega)
    simp only [go_sem, w1, w2, d1, d2, Try.results93]
    exact ⟨_, _, Weak.refl _ _ _ _, h _ _ hp (hu.done fun k k0 kn kp => by omega) hk⟩
  · have d2 : decide (((2 * i + 1 : Nat) : Int) ≥ (n : Int)) = false := decide_eq_false (by omega)
    simp only [go_sem, w1, w2, d1, d2]
    refine aw_cut (fun fr st => ∃ j, 0 < j ∧ j < n ∧ (j - 1) / 2 = i ∧ (∀ k, 0 < k → k < n → (k - 1) / 2 = i → l'.getD j 0 ≤ l'.getD k 0) ∧ fr = [.ifc 92 (.ref ip off), dn 0, dn n, .any, .any, .any, .any, dn i, .any, dn j, .any, .any, .any, .any, .any, .any, .any, .any, .any, .any, .any, .any, .any, .any, .any, .any, .any, .any, .any, .any, .any, .any, .any, .any, .any, .any, .any, .any, .any, .any, .any, .any, .any, .any, .any, .any, .any, .any] ∧ st = σ.set iq (ints l')) ?_ ?_
    · by_cases h2 : 2 * i + 2 < n
      · have d3 : decide (((2 * i + 2 : Nat) : Int) < (n : Int)) = true := decide_eq_true (by omega)
        simp only [go_sem, w3, d3]
        refine ex' (.bool (decide (l'.getD (2 * i + 2) 0 < l'.getD (2 * i + 1) 0))) ⟨fun hc => ?_, ?_⟩
        · simp only [go_sem, objK_of hQ'.cell, e0]
          refine ⟨hQ.off, ac' (qless_ac _ _ (by omega) (by omega) _ hQ'.its _ _ ⟨rfl, rfl⟩)⟩
        simp only [go_sem]
        refine ⟨fun hc => Wk.mask [0, 1, 2, 7, 9] ⟨2 * i + 2, by omega, by omega, by omega, fun k k0 kn kp => ?_, rfl, rfl⟩, fun hc => Wk.mask [0, 1, 2, 7, 9] ⟨2 * i + 1, by omega, by omega, by omega, fun k k0 kn kp => ?_, rfl, rfl⟩⟩
        · have hc := of_decide_eq_true hc
          rcases (by omega : k = 2 * i + 1 ∨ k = 2 * i + 2) with rfl | rfl <;> omega
        · have hc := of_decide_eq_false hc
          rcases (by omega : k = 2 * i + 1 ∨ k = 2 * i + 2) with rfl | rfl <;> omega
      · have d3 : decide (((2 * i + 2 : Nat) : Int) < (n : Int)) = false := decide_eq_false (by omega)
        simp only [go_sem, w3, d3]
        refine ex' (.bool false) ⟨fun hc => Bool.noConfusion hc, ?_⟩
        simp only [go_sem]
        refine Wk.mask [0, 1, 2, 7, 9] ⟨2 * i + 1, by omega, by omega, by omega, fun k k0 kn kp => ?_, rfl, rfl⟩
        obtain rfl : k = 2 * i + 1 := by omega
        exact Int.le_refl _
    · rintro fr st ⟨j, j0, jn, jp, jm, rfl, rfl⟩
      simp only [go_sem, objK_of hQ'.cell, e0]
      refine ⟨hQ.off, ac' (qless_ac _ _ (by omega) (by omega) _ hQ'.its _ _ ?_)⟩
      simp only [go_sem, objK_of hQ'.cell, e0, Try.results93]
      refine ⟨fun hc => ⟨_, _, Weak.refl _ _ _ _, h _ _ hp (hu.done fun k k0 kn kp => ?_) hk⟩, fun hc => ⟨hQ.off, ac' (qswap_ac _ _ (by omega) (by omega) _ hQ'.its _ _ fun r => ?_)⟩⟩
      · have := jm k k0 kn kp
        have hc := of_decide_eq_false (by simpa using hc : decide (l'.getD j 0 < l'.getD i 0) = false)
        omega
      · simp only [go_sem, List.set_set]
        have hc := of_decide_eq_true (by simpa using hc : decide (l'.getD j 0 < l'.getD i 0) = true)
        refine Wk.mask [0, 1, 2, 7] ⟨n - j, by omega, swapL l' i j, j, rfl, by omega, (swapL_perm (by omega) (by omega)).trans hp, hu.swap (by omega) j0 jn jp jm hc, fun k hkn => ?_, rfl, rfl⟩
        rw [swapL_getD (by omega) (by omega), if_neg (by omega), if_neg (by omega)]; exact hk k hkn
/-- A number goes onto the heap. -/
theorem hpush_ac {ip iq off : Nat} {cs : List A} {l : List Int} (x : Int) (hl : l.length < 900000) (hh : HeapN l l.length) (σ : St) (hQ : Qc σ ip off iq cs l) (G : Glob) (R : A → St → Prop)
    (h : ∀ r σ' iq' l', l'.Perm (x :: l) → HeapN l' l'.length → Qc σ' ip off iq' (cs.set off (.rs iq' 1 0 l'.length (some 3))) l' → σ.length ≤ iq' → Keeps [ip, iq] σ σ' → R r σ') : AC Try.prog G 92 [.ifc 92 (.ref ip off), .ifc 3 (di x)] σ R := by
  refine ac_enter mixed Try.func92 rfl Try.ntmps92 (by simp only [go_sem]) fun hbd => ?_
  simp only [List.length_cons, List.length_nil, Nat.reduceAdd, Nat.reduceSub, List.replicate_succ, List.replicate_zero, List.cons_append, List.nil_append]
  have hip := lt_of_some hQ.cell
  have hiq := lt_of_some hQ.its
  have ho := hQ.off
  simp only [go_sem]
  refine ac' (qpush_ac x (by omega) σ hQ.cell hQ.at_ hQ.its hQ.ne _ _ fun r => ?_)
  obtain ⟨τ, hτ⟩ : ∃ τ, (σ.set iq none ++ [some (Ob.cells [A.d (iD x)]), some (Ob.cells ((l ++ [x]).map fun x => A.d (iD x)))]).set ip (some (.cells (cs.set off (.rs (σ.length + 1) 1 0 (l.length + 1) (some 3))))) = τ := ⟨_, rfl⟩
  have hQ' : Qc τ ip off (σ.length + 1) (cs.set off (.rs (σ.length + 1) 1 0 (l.length + 1) (some 3))) (l ++ [x]) := by
    rw [← hτ]
    refine ⟨?_, ?_, ?_, by omega⟩
    · rw [List.getElem?_set, if_pos rfl, if_pos (by simp; omega)]
    · rw [List.getElem?_set, if_pos rfl, if_pos ho]; simp
    · rw [List.getElem?_set_ne (by omega), List.getElem?_append_right (by simp)]; simp
  have hK : Keeps [ip, iq] σ τ := by
    rw [← hτ]
    refine ⟨by simp, fun id hid hn => ?_⟩
    simp only [List.mem_cons, List.not_mem_nil, or_false, not_or] at hn
    rw [List.getElem?_set_ne (fun e => hn.1 e.symm), List.getElem?_append_left (by simpa using hid), List.getElem?_set_ne (fun e => hn.2 e.symm)]
  rw [hτ]
  have w1 : IntKind.i64.wrap (((l.length + 1 : Nat) : Int) - 1) = ((l.length : Nat) : Int) := by rw [wrap64_id _ (by omega) (by omega)]; omega
  have e0 : List.getD (cs.set off (.rs (σ.length + 1) 1 0 (l.length + 1) (some 3))) off .any = .rs (σ.length + 1) 1 0 (l.length + 1) (some 3) := by simp [List.getD, ho]
  simp only [go_sem, objK_of hQ'.cell, e0]
  refine ⟨by simpa using ho, ac' (qlen_ac _ hQ'.its _ _ ?_)⟩
  simp only [go_sem, w1, Try.results92]
  refine ac' (hup_ac l.length (by simp; omega) (by simp) ⟨fun k k0 hk hne => ?_, fun k k0 hk hp j0 => ?_⟩ τ hQ' _ _ fun r' l' hp hh' => ?_)
  · rw [List.length_append, List.length_singleton] at hk
    have e : ∀ k, k < l.length → (l ++ [x]).getD k 0 = l.getD k 0 := fun k hk => by
      rw [List.getD_eq_getElem?_getD, List.getElem?_append_left hk, List.getD_eq_getElem?_getD]
    rw [e _ (by omega), e _ (by omega)]
    exact hh k k0 (by omega)
  · rw [List.length_append, List.length_singleton] at hk
    omega
  · simp only [go_sem, Try.results92]
    have hl' : l'.length = l.length + 1 := by rw [hp.length_eq]; simp
    refine ⟨_, _, Weak.refl _ _ _ _, h _ _ (σ.length + 1) l' (hp.trans (List.perm_append_singleton x l)) hh' ?_ (by omega) (hK.trans (Y := [σ.length + 1]) ⟨by simp, fun id hid hn => ?_⟩ (fun i hi _ => hi) fun i hi hlt => ?_)⟩
    · rw [hl']; exact hQ'.set (by rw [hl']; simp)
    · rw [List.getElem?_set_ne (fun e => hn (by simp [e]))]
    · simp only [List.mem_singleton] at hi; omega
/-- The least number leaves the heap. -/
theorem hpop_ac {ip iq off : Nat} {cs : List A} {l : List Int} (hl : l.length < 900000) (h0 : 0 < l.length) (hh : HeapN l l.length) (σ : St) (hQ : Qc σ ip off iq cs l) (G : Glob) (R : A → St → Prop)
    (h : ∀ σ' l', (l.getD 0 0 :: l').Perm l → HeapN l' l'.length → Qc σ' ip off iq (cs.set off (.rs iq 1 0 l'.length (some 3))) l' → Keeps [ip, iq] σ σ' → R (.ifc 3 (di (l.getD 0 0))) σ') : AC Try.prog G 79 [.ifc 92 (.ref ip off)] σ R := by
  refine ac_enter mixed Try.func79 rfl Try.ntmps79 (by simp only [go_sem]) fun hbd => ?_
  simp only [List.length_cons, List.length_nil, Nat.reduceAdd, Nat.reduceSub, List.replicate_succ, List.replicate_zero, List.cons_append, List.nil_append]
  have hip := lt_of_some hQ.cell
  have hiq := lt_of_some hQ.its
  have ho := hQ.off
  have e0 := hQ.getD
  obtain ⟨n, hn⟩ : ∃ n, l.length = n + 1 := ⟨l.length - 1, by omega⟩
  have w1 : IntKind.i64.wrap ((l.length : Int) - 1) = ((n : Nat) : Int) := by rw [wrap64_id _ (by omega) (by omega)]; omega
  simp only [go_sem, objK_of hQ.cell, e0]
  refine ⟨ho, ac' (qlen_ac _ hQ.its _ _ ?_)⟩
  simp only [go_sem, objK_of hQ.cell, e0, w1]
  refine ⟨ho, ac' (qswap_ac 0 n (by omega) (by omega) _ hQ.its _ _ fun r => ?_)⟩
  have hQ1 := hQ.set (swapL_len l 0 n)
  simp only [go_sem]
  have hd : DownH (swapL l 0 n) n 0 := by
    refine ⟨fun k k0 hk hne => ?_, fun k k0 hk hp j0 => by omega⟩
    rw [swapL_getD (by omega) (by omega), swapL_getD (by omega) (by omega), if_neg (by omega), if_neg hne, if_neg (by omega), if_neg (by omega)]
    exact hh k k0 (by omega)
  refine ac' (hdown_ac n (by rw [swapL_len]; omega) (by rw [swapL_len]; omega) hd _ hQ1 _ _ fun r l' hp hh' hk => ?_)
  have hl' : l'.length = n + 1 := by rw [hp.length_eq, swapL_len]; omega
  have hlast : l' = l'.take n ++ [l.getD 0 0] := by
    have e : l'.getD n 0 = l.getD 0 0 := by rw [hk n (Nat.le_refl _), swapL_getD (by omega) (by omega), if_pos rfl]
    have hd : l'.drop n = [l.getD 0 0] := by rw [drop_getD 0 (by omega), e, List.drop_eq_nil_of_le (by omega)]
    rw [← hd, List.take_append_drop]
  have htl : (l'.take n).length = n := by rw [List.length_take]; omega
  have hQ2 := hQ1.set hp.length_eq
  rw [List.set_set] at hQ2 ⊢
  simp only [go_sem]
  refine ac' (qpop_ac (l := l'.take n) (l.getD 0 0) _ hQ2.cell (by rw [htl, ← hl']; exact hQ2.at_) (by rw [← hlast]; exact hQ2.its) (by rw [htl]; omega) hQ.ne _ _ ?_)
  simp only [go_sem, Try.results79]
  refine ⟨_, _, Weak.refl _ _ _ _, h _ (l'.take n) ?_ ?_ ⟨?_, ?_, ?_, hQ.ne⟩ ⟨by simp, fun id hid hn => ?_⟩⟩
  · have h1 : (l.getD 0 0 :: l'.take n).Perm l' := by
      conv => rhs; rw [hlast]
      exact (List.perm_append_singleton _ _).symm
    exact h1.trans (hp.trans (swapL_perm (by omega) (by omega)))
  · rw [htl]
    intro k k0 hkn
    have e : ∀ k, k < n → (l'.take n).getD k 0 = l'.getD k 0 := fun k hk => by
      rw [List.getD_eq_getElem?_getD, List.getElem?_take_of_lt hk, List.getD_eq_getElem?_getD]
    rw [e _ (by omega), e _ hkn]
    exact hh' k k0 hkn
  · rw [List.getElem?_set_ne hQ.ne.symm, List.getElem?_set, if_pos rfl, if_pos (by simpa using hip)]
  · rw [List.getElem?_set, if_pos rfl, if_pos ho]
  · rw [List.getElem?_set, if_pos rfl, if_pos (by simpa using hiq)]
  · simp only [List.mem_cons, List.not_mem_nil, or_false, not_or] at hn
    rw [List.getElem?_set_ne (fun e => hn.2 e.symm), List.getElem?_set_ne (fun e => hn.1 e.symm), List.getElem?_set_ne (fun e => hn.2 e.symm)]
end Go.Proofs.Ytpmjdaiboniagaa
end PartU2

section PartU3
/- The propagator's state; code, examine, undetermined. -/
set_option linter.unusedSimpArgs false
set_option linter.unusedVariables false
set_option maxRecDepth 100000
namespace Go.Proofs.Ytpmjdaiboniagaa
open Go Go.Ab

/-- A literal's number. -/
def codeN (l : Int) : Nat := if l < 0 then (1 - 2 * l).toNat else (2 * l).toNat
theorem code_ac (l : Int) (hl : -8000 ≤ l ∧ l ≤ 8000) (σ : St) (G : Glob) (R : A → St → Prop) (h : R (dn (codeN l)) σ) : AC Try.prog G 75 [di l] σ R := by
  refine ac_enter mixed Try.func75 rfl Try.ntmps75 (by simp only [go_sem]) fun hbd => ?_
  simp only [List.length_cons, List.length_nil, Nat.reduceAdd, Nat.reduceSub, List.replicate_succ, List.replicate_zero, List.cons_append, List.nil_append]
  have w1 : IntKind.i64.wrap (2 * l) = 2 * l := wrap64_id _ (by omega) (by omega)
  have w2 : IntKind.i64.wrap (1 - 2 * l) = 1 - 2 * l := wrap64_id _ (by omega) (by omega)
  simp only [go_sem, w1, w2, Try.results75]
  refine ⟨fun hc => ret_d0 ?_, fun hc => ret_d0 ?_⟩
  · have := of_decide_eq_true hc
    have e : ((codeN l : Nat) : Int) = 1 - 2 * l := by rw [codeN, if_pos this]; omega
    exact e ▸ h
  · have := of_decide_eq_false hc
    have e : ((codeN l : Nat) : Int) = 2 * l := by rw [codeN, if_neg this]; omega
    exact e ▸ h
theorem codeN_lt {l : Int} {v : Int} (hv : 0 ≤ v) (h : -v ≤ l ∧ l ≤ v) : codeN l < (2 * v + 2).toNat := by
  unfold codeN; split <;> omega
theorem codeN_inj {l m : Int} (h : codeN l = codeN m) (hl : l ≠ 0 ∨ True) : l = m := by
  unfold codeN at h; split at h <;> split at h <;> omega
abbrev bolsO (l : List Bool) : Option Ob := some (.cells (l.map fun x => A.d (.bool x)))
structure Ids where
  ip : Nat
  it : Nat
  io : Nat
  is : Nat
  iq : Nat
  iT : Nat
  iR : Nat
def Ids.all (d : Ids) : List Nat := [d.ip, d.it, d.io, d.is, d.iq, d.iT, d.iR]
def natD (l : List Nat) : D := .sl 1 (l.map fun n : Nat => iD n)
def occD (occ : List (List Nat)) : D := .sl 1 (occ.map natD)
def pgCells (d : Ids) (f : Cnf) (occ : List (List Nat)) (nt n nq nT nR : Nat) : List A :=
  [.d (iD f.vars), .d (clsD f.cls), .rs d.it 1 0 nt (some 4), .d (occD occ), .rs d.io 1 0 n (some 3), .rs d.is 1 0 n (some 4), .rs d.iq 1 0 nq (some 3), .rs d.iT 1 0 nT (some 3), .rs d.iR 1 0 nR (some 3)]
/-- A propagator in a store. -/
structure Pg (σ : St) (d : Ids) (f : Cnf) (occ : List (List Nat)) (tr : List Bool) (op : List Int) (sa : List Bool) (q T Rs : List Int) : Prop where
  c : σ[d.ip]? = some (some (.cells (pgCells d f occ tr.length f.cls.length q.length T.length Rs.length)))
  t : σ[d.it]? = some (bolsO tr)
  o : σ[d.io]? = some (ints op)
  s : σ[d.is]? = some (bolsO sa)
  q : σ[d.iq]? = some (ints q)
  T : σ[d.iT]? = some (ints T)
  R : σ[d.iR]? = some (ints Rs)
  lo : op.length = f.cls.length
  ls : sa.length = f.cls.length
  d : (d.ip ≠ d.it ∧ d.ip ≠ d.io ∧ d.ip ≠ d.is ∧ d.ip ≠ d.iq ∧ d.ip ≠ d.iT ∧ d.ip ≠ d.iR) ∧ (d.it ≠ d.io ∧ d.it ≠ d.is ∧ d.it ≠ d.iq ∧ d.it ≠ d.iT ∧ d.it ≠ d.iR) ∧
    (d.io ≠ d.is ∧ d.io ≠ d.iq ∧ d.io ≠ d.iT ∧ d.io ≠ d.iR) ∧ (d.is ≠ d.iq ∧ d.is ≠ d.iT ∧ d.is ≠ d.iR) ∧ (d.iq ≠ d.iT ∧ d.iq ≠ d.iR) ∧ d.iT ≠ d.iR
/-- One object of the propagator's is written; the others lie as they lay. -/
theorem Pg.setT {σ : St} {d : Ids} {f : Cnf} {occ : List (List Nat)} {tr : List Bool} {op : List Int} {sa : List Bool} {q T Rs : List Int} (h : Pg σ d f occ tr op sa q T Rs) {tr' : List Bool} (hl : tr'.length = tr.length) : Pg (σ.set d.it (bolsO tr')) d f occ tr' op sa q T Rs := by
  obtain ⟨c, t, o, s, hq, hT, hR, lo, ls, hd⟩ := h
  refine ⟨?_, ?_, ?_, ?_, ?_, ?_, ?_, lo, ls, hd⟩
  · rw [List.getElem?_set_ne (by omega), hl]; exact c
  · rw [List.getElem?_set, if_pos rfl, if_pos (lt_of_some t)]
  all_goals (rw [List.getElem?_set_ne (by omega)]; assumption)
theorem Pg.setO {σ : St} {d : Ids} {f : Cnf} {occ : List (List Nat)} {tr : List Bool} {op : List Int} {sa : List Bool} {q T Rs : List Int} (h : Pg σ d f occ tr op sa q T Rs) {op' : List Int} (hl : op'.length = op.length) : Pg (σ.set d.io (ints op')) d f occ tr op' sa q T Rs := by
  obtain ⟨c, t, o, s, hq, hT, hR, lo, ls, hd⟩ := h
  refine ⟨?_, ?_, ?_, ?_, ?_, ?_, ?_, by omega, ls, hd⟩
  · rw [List.getElem?_set_ne (by omega)]; exact c
  · rw [List.getElem?_set_ne (by omega)]; exact t
  · rw [List.getElem?_set, if_pos rfl, if_pos (lt_of_some o)]
  all_goals (rw [List.getElem?_set_ne (by omega)]; assumption)
theorem Pg.setS {σ : St} {d : Ids} {f : Cnf} {occ : List (List Nat)} {tr : List Bool} {op : List Int} {sa : List Bool} {q T Rs : List Int} (h : Pg σ d f occ tr op sa q T Rs) {sa' : List Bool} (hl : sa'.length = sa.length) : Pg (σ.set d.is (bolsO sa')) d f occ tr op sa' q T Rs := by
  obtain ⟨c, t, o, s, hq, hT, hR, lo, ls, hd⟩ := h
  refine ⟨?_, ?_, ?_, ?_, ?_, ?_, ?_, lo, by omega, hd⟩
  · rw [List.getElem?_set_ne (by omega)]; exact c
  · rw [List.getElem?_set_ne (by omega)]; exact t
  · rw [List.getElem?_set_ne (by omega)]; exact o
  · rw [List.getElem?_set, if_pos rfl, if_pos (lt_of_some s)]
  all_goals (rw [List.getElem?_set_ne (by omega)]; assumption)
theorem Pg.qc {σ : St} {d : Ids} {f : Cnf} {occ : List (List Nat)} {tr : List Bool} {op : List Int} {sa : List Bool} {q T Rs : List Int} (h : Pg σ d f occ tr op sa q T Rs) : Qc σ d.ip 6 d.iq (pgCells d f occ tr.length f.cls.length q.length T.length Rs.length) q :=
  ⟨h.c, rfl, h.q, h.d.1.2.2.2.1⟩
/-- The heap has another slice. -/
theorem Pg.requeue {σ σ' : St} {d : Ids} {f : Cnf} {occ : List (List Nat)} {tr : List Bool} {op : List Int} {sa : List Bool} {q T Rs : List Int} (h : Pg σ d f occ tr op sa q T Rs) {iq' : Nat} {q' : List Int}
    (hq : Qc σ' d.ip 6 iq' ((pgCells d f occ tr.length f.cls.length q.length T.length Rs.length).set 6 (.rs iq' 1 0 q'.length (some 3))) q') (hk : Keeps [d.ip, d.iq] σ σ') (hi : iq' = d.iq ∨ σ.length ≤ iq') : Pg σ' { d with iq := iq' } f occ tr op sa q' T Rs := by
  obtain ⟨c, t, o, s, hq', hT, hR, lo, ls, hd⟩ := h
  have l1 := lt_of_some t
  have l2 := lt_of_some o
  have l3 := lt_of_some s
  have l4 := lt_of_some hT
  have l5 := lt_of_some hR
  have l6 := lt_of_some c
  have k : ∀ {i : Nat} {x : Option Ob}, σ[i]? = some x → i ≠ d.ip → i ≠ d.iq → σ'[i]? = some x := fun {i x} hx h1 h2 => by
    rw [hk.2 i (lt_of_some hx) (by simp [h1, h2])]; exact hx
  obtain ⟨⟨a1, a2, a3, a4, a5, a6⟩, ⟨b2, b3, b4, b5, b6⟩, ⟨c3, c4, c5, c6⟩, ⟨d4, d5, d6⟩, ⟨e5, e6⟩, f6⟩ := hd
  refine ⟨hq.cell, k t a1.symm b4, k o a2.symm c4, k s a3.symm d4, hq.its, k hT a5.symm e5.symm, k hR a6.symm e6.symm, lo, ls, ?_⟩
  rcases hi with rfl | hge
  · exact ⟨⟨a1, a2, a3, a4, a5, a6⟩, ⟨b2, b3, b4, b5, b6⟩, ⟨c3, c4, c5, c6⟩, ⟨d4, d5, d6⟩, ⟨e5, e6⟩, f6⟩
  · clear hk hq hq' k a4 b4 c4 d4 e5 e6
    exact ⟨⟨a1, a2, a3, (by simp only; omega), a5, a6⟩, ⟨b2, b3, (by simp only; omega), b5, b6⟩, ⟨c3, (by simp only; omega), c5, c6⟩, ⟨(by simp only; omega), d5, d6⟩, ⟨(by simp only; omega), (by simp only; omega)⟩, f6⟩
/-- What examine leaves in the queue. -/
def exS (sa : List Bool) (op q : List Int) (i : Nat) : List Int := if !sa.getD i false && decide (op.getD i 0 ≤ 1) then (i : Int) :: q else q
theorem getD_mapB {l : List Bool} {j : Nat} (h : j < l.length) : List.getD (l.map fun x => A.d (.bool x)) j .any = A.d (.bool (l.getD j false)) := by
  rw [List.getD_eq_getElem?_getD, List.getElem?_map, List.getD_eq_getElem?_getD, List.getElem?_eq_getElem h]; rfl
theorem examine_ac {d : Ids} {f : Cnf} {occ : List (List Nat)} {tr : List Bool} {op : List Int} {sa : List Bool} {q T Rs : List Int} (i : Nat) (hi : i < f.cls.length) (hq : q.length < 800000) (hh : HeapN q q.length) (σ : St) (hP : Pg σ d f occ tr op sa q T Rs) (G : Glob) (R : A → St → Prop)
    (h : ∀ r σ' iq' q', q'.Perm (exS sa op q i) → HeapN q' q'.length → Pg σ' { d with iq := iq' } f occ tr op sa q' T Rs → Keeps d.all σ σ' → (iq' = d.iq ∨ σ.length ≤ iq') → R r σ') : AC Try.prog G 77 [.ref d.ip 0, dn i] σ R := by
  refine ac_enter mixed Try.func77 rfl Try.ntmps77 (by simp only [go_sem]) fun hbd => ?_
  simp only [List.length_cons, List.length_nil, Nat.reduceAdd, Nat.reduceSub, List.replicate_succ, List.replicate_zero, List.cons_append, List.nil_append]
  have lo := hP.lo
  have ls := hP.ls
  have e1 : List.getD (sa.map fun x => A.d (.bool x)) i .any = A.d (.bool (sa.getD i false)) := getD_mapB (by omega)
  have e2 : List.getD (op.map fun x => A.d (iD x)) i .any = A.d (iD (op.getD i 0)) := getD_mapA (by omega)
  have hc := hP.c
  simp only [pgCells] at hc
  simp only [go_sem, objK_of hc, live_of hc, objK_of hP.s, live_of hP.s, objK_of hP.o, live_of hP.o, Nat.mul_one, Nat.zero_add, List.length_map, e1, e2, Try.results77]
  refine ⟨⟨by omega, by omega⟩, by omega, fun hc => ⟨hc, by omega, by omega⟩, fun hc => ⟨hc, by omega⟩, fun hc => ac' (hpush_ac (i : Int) (by omega) hh σ hP.qc _ _ fun r σ' iq' q' hp hh' hQ' hi hk => ?_), fun hc => ⟨_, _, Weak.refl _ _ _ _, h _ _ d.iq q (by rw [exS, hc]; exact .refl _) hh hP (Keeps.refl _ _) (.inl rfl)⟩⟩
  simp only [go_sem, Try.results77]
  refine ⟨_, _, Weak.refl _ _ _ _, h _ _ iq' q' (by rw [exS, hc]; exact hp) hh' (hP.requeue hQ' hk (.inr hi)) ⟨hk.1, fun id hid hn => hk.2 id hid fun hm => hn ?_⟩ (.inr hi)⟩
  simp only [Ids.all, List.mem_cons, List.not_mem_nil, or_false] at hm ⊢
  exact hm.elim .inl fun e => .inr (.inr (.inr (.inr (.inl e))))
theorem undet_ac {d : Ids} {f : Cnf} {occ : List (List Nat)} {tr : List Bool} {op : List Int} {sa : List Bool} {q T Rs : List Int} (i : Nat) (hi : i < f.cls.length) (hcl : (f.cls.getD i []).length ≤ reachBytes) (hv : 0 ≤ f.vars ∧ f.vars ≤ 8000) (hlit : ∀ l ∈ f.cls.getD i [], l ≠ 0 ∧ -f.vars ≤ l ∧ l ≤ f.vars) (ht : tr.length = (2 * f.vars + 2).toNat) (σ : St) (hP : Pg σ d f occ tr op sa q T Rs) (G : Glob) (R : A → St → Prop)
    (h : R (di (((f.cls.getD i []).find? fun l => !tr.getD (codeN (-l)) false).getD 0)) σ) : AC Try.prog G 80 [.ref d.ip 0, dn i] σ R := by
  refine ac_enter' mixed Try.func80 rfl Try.ntmps80 (by simp only [go_sem]) fun hbd => ?_
  simp only [List.length_cons, List.length_nil, Nat.reduceAdd, Nat.reduceSub, List.replicate_succ, List.replicate_zero, List.cons_append, List.nil_append]
  have hc := hP.c
  simp only [pgCells] at hc
  have e0 := isD_getD hi
  obtain ⟨c, hce⟩ : ∃ c, f.cls.getD i [] = c := ⟨_, rfl⟩
  rw [hce] at e0 hcl hlit h
  simp only [clsD, go_sem, objK_of hc, live_of hc, List.length_map, e0, Try.results80]
  refine ⟨⟨by omega, by omega⟩, ?_⟩
  refine aw_loop (fun m fr st => ∃ k : Nat, k ≤ c.length ∧ m = c.length - k ∧ R (di (((c.drop k).find? fun l => !tr.getD (codeN (-l)) false).getD 0)) σ ∧ fr = [.ref d.ip 0, .any, .any, .any, di 0, .any, .any, .any, .any, .any, .any, .any, .any, .any, .d (.sl 1 (c.map iD)), dn c.length, dn k, .any, .any, .any, .any, .any, .any, .any, .any, .any, .any, .any, .any, .any, .any, .any] ∧ st = σ) c.length _
    (Wk.mask [0, 4, 14, 15, 16] ⟨0, by omega, rfl, h, rfl, rfl⟩) ?_
  rintro m fr st ⟨k, hk, hm, hR, rfl, rfl⟩
  rcases Nat.lt_or_ge k c.length with klt | kge
  · have kd : decide ((k : Int) < (c.length : Int)) = true := by simp; omega
    have e2 : List.getD (List.map iD c) k default = iD (c.getD k 0) := getD_mapD klt
    have w3 := wrapS k (by simp only [reachBytes] at hcl; omega)
    have hlk := hlit _ (getD_mem 0 klt)
    rw [drop_getD 0 klt, List.find?_cons] at hR
    generalize c.getD k 0 = x at e2 hR hlk
    have w4 : IntKind.i64.wrap (0 - x) = -x := by rw [wrap64_id _ (by omega) (by omega)]; omega
    have hcx : codeN (-x) < tr.length := by rw [ht]; exact codeN_lt (by omega) (by omega)
    have e3 : List.getD (tr.map fun x => A.d (.bool x)) (codeN (-x)) .any = A.d (.bool (tr.getD (codeN (-x)) false)) := getD_mapB hcx
    simp only [go_sem, List.length_map, kd, e2]
    refine ⟨⟨by omega, by omega⟩, ?_⟩
    refine aw_plan (.take 0 <| .tk 2 4 <| .pure 6 <| .tk 3 1 <| .tk 3 7 <| .done) (by kernel_rfl) ?_
    simp only [go_sem, w4]
    refine exP (dn (codeN (-x))) ⟨fun σ' => ?_, ?_⟩
    · simp only [go_sem]
      exact ac' (code_ac _ (by omega) _ _ _ ⟨rfl, rfl⟩)
    simp only [go_sem, objK_of hc, live_of hc, objK_of hP.t, live_of hP.t, Nat.mul_one, Nat.zero_add, List.length_map, e3, w3, Try.results80]
    refine ⟨⟨by omega, by omega⟩, by omega, fun hb => ret_d0 ?_, fun hb => Wk.mask [0, 4, 14, 15, 16] ⟨c.length - (k + 1), by omega, k + 1, klt, rfl, ?_, rfl, rfl⟩⟩
    · rw [hb] at hR; exact hR
    · rw [hb] at hR; exact hR
  · have kd : decide ((k : Int) < (c.length : Int)) = false := by simp; omega
    simp only [go_sem, List.length_map, kd, Try.results80]
    refine ret_d0 ?_
    rw [List.drop_eq_nil_of_le kge] at hR; exact hR
end Go.Proofs.Ytpmjdaiboniagaa
end PartU3
