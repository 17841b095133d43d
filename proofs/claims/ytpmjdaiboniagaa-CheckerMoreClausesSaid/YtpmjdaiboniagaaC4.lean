/- The reference's justification and lists. -/
import Derived.Test.YtpmjdaiboniagaaC3
set_option linter.unusedSimpArgs false
set_option maxRecDepth 100000
namespace Go.Proofs.Ytpmjdaiboniagaa
open Go Go.Ab

def boxC (f : Cnf) : Option Ob := some (.cells [.d (iD f.vars), .d (clsD f.cls)])
def boxS (s : Stp) : Option Ob := some (.cells [.d (isD s.lits), .d (isD s.hints)])
theorem views_ints {τ : St} {id : Nat} {T : List Int} (w : Option TypeId) (h : τ[id]? = some (some (.cells (T.map fun x => A.d (iD x))))) : Views τ (.rs id 1 0 T.length w) (.d (isD T)) :=
  Views.rs h (by simp) (fun i x hx => by
    rw [List.getElem?_map, Option.map_eq_some_iff] at hx
    obtain ⟨a, _, rfl⟩ := hx; rfl) fun i x j y hx hy => by
    rw [List.getElem?_map, Option.map_eq_some_iff] at hx
    obtain ⟨a, ha, rfl⟩ := hx
    match j with
    | 0 =>
      have e : iD a = y := by simpa [D.cells] using hy
      subst e
      exact ⟨rfl, _, by simp only [Nat.zero_add, Nat.mul_one, Nat.add_zero, List.getElem?_map, ha, Option.map_some], Views.d _⟩
    | j + 1 => simp [D.cells] at hy
theorem views_assign {τ : St} {id id2 : Nat} {T : List Int} {w : Option TypeId} (h1 : τ[id]? = some (some (.cells [.rs id2 1 0 T.length w]))) (h2 : τ[id2]? = some (some (.cells (T.map fun x => A.d (iD x))))) : Views τ (.ref id 0) (.ea (.agg [isD T]) 0) :=
  Views.ref h1 fun j y hy => by
    match j with
    | 0 =>
      have e : isD T = y := by simpa using hy
      subst e
      exact ⟨rfl, _, rfl, views_ints w h2⟩
    | j + 1 => simp at hy
theorem at_own {σ l : St} (j : Nat) {o : Option Ob} (h : l[j]? = some o) : (σ ++ l)[σ.length + j]? = some o := by rw [List.getElem?_append_right (by omega), Nat.add_sub_cancel_left]; exact h
theorem just_ac (f : Cnf) (l : List Stp) (s : Stp) (h1 : f.cls.length ≤ 100000) (h2 : l.length ≤ 100000) (h3 : s.lits.length ≤ 100000) (h4 : s.hints.length ≤ 100000) (h5 : ∀ x ∈ s.lits, -8000 ≤ x ∧ x ≤ 8000)
    (h6 : ∀ x ∈ s.hints, 0 ≤ x ∧ x < f.cls.length + l.length) (h7 : ∀ n, (clauseAt f.cls l n).length ≤ reachBytes ∧ ∀ x ∈ clauseAt f.cls l n, -8000 ≤ x ∧ x ≤ 8000) (σ : St) (G : Glob) (R : A → St → Prop)
    (h : R (db (justR (clauseAt f.cls l) (negs s.lits) s.hints)) σ) : AC Try.prog G 67 [.d (cnfD f), .d (stpsD l), .d (stpD s)] σ R := by
  obtain ⟨lits, hints⟩ := s
  obtain ⟨vars, cls⟩ := f
  refine ac_enter mixed Try.func67 rfl Try.ntmps67 (by simp only [go_sem]) fun hbd => ?_
  simp only [List.length_cons, List.length_nil, Nat.reduceAdd, Nat.reduceSub, List.replicate_succ, List.replicate_zero, List.cons_append, List.nil_append]
  simp only [cnfD, clsD, stpD, isD, go_sem, List.length_map]
  simp only at h1 h2 h3 h4 h5 h6 h7
  refine aw_loop (fun m fr st => ∃ j : Nat, j ≤ lits.length ∧ m = lits.length - j ∧ fr = [.any, .d (stpsD l), .any, .ref σ.length 0, .any, .ref (σ.length + 1) 0, .any, .ref (σ.length + 2) 0, dn j, .any, .any, .any, .any, .any, .any, .any, .any, .any, .any, .any, .any, .any, .any, .any, .any, .any, .any, .any, .any, .any, .any, .any, .any, .any, .any, .any, .any, .any, .any, .any, .any, .any, .any, .any, .any, .any, .any, .any, .any, .any, .any, .any, .any, .any, .any, .any, .any, .any, .any, .any, .any, .any, .any, .any, .any, .any, .any, .any, .any, .any, .any, .any, .any, .any, .any] ∧
    st = σ ++ [some (.cells [.d (iD vars), .d (.sl 1 (cls.map isD))]), some (.cells [.d (.sl 1 (lits.map iD)), .d (.sl 1 (hints.map iD))]), some (.cells [.rs (σ.length + 3) 1 0 j (some 3)]), some (.cells ((lits.take j).map fun x => A.d (iD (-x))))]) lits.length _
    ⟨_, _, (Weak.mask [1, 3, 5, 7, 8]).trans (Weak.emptyIn (σ := σ) 2 0 1 (some 3) rfl rfl), 0, by omega, rfl, rfl, rfl⟩ ?_
  rintro m fr st ⟨j, hj, hm, rfl, rfl⟩
  rcases Nat.lt_or_ge j lits.length with hlt | hge
  · have hd : decide ((j : Int) < (lits.length : Int)) = true := by simp; omega
    have e1 : List.getD (List.map iD lits) j default = iD (lits.getD j 0) := getD_mapD hlt
    have w2 := wrapS j (by omega)
    have w4 : IntKind.i64.wrap (0 - lits.getD j 0) = -(lits.getD j 0) := by
      have := h5 _ (getD_mem 0 hlt)
      rw [wrap64_id _ (by omega) (by omega)]; omega
    simp only [go_sem, List.length_map, hd, e1, w2, w4]
    refine ⟨⟨by omega, by omega⟩, ⟨by rw [List.length_take]; omega, by simp only [maxLen]; omega, by omega⟩, ?_⟩
    refine Wk.keep [1, 3, 5, 7, 8] [0, 1, 2, 5] (by decide) (Nat.le_refl _) hbd ⟨lits.length - (j + 1), by omega, j + 1, hlt, rfl, ?_, ?_⟩
    · simp only [go_sem]
    · have htk : lits.take (j + 1) = lits.take j ++ [lits.getD j 0] := by
        rw [List.take_add_one, List.getD_eq_getElem?_getD, List.getElem?_eq_getElem hlt]; rfl
      simp only [go_sem, htk, List.map_append, List.map_cons, List.map_nil]
  · have hd : decide ((j : Int) < (lits.length : Int)) = false := by simp; omega
    have htk : lits.take j = lits := List.take_of_length_le hge
    simp only [go_sem, List.length_map, hd, htk]
    have hj' : j = lits.length := by omega
    subst hj'
    clear hm hj hge htk hd
    refine aw_loop (fun m fr st => ∃ (k : Nat) (T : List Int), k ≤ hints.length ∧ m = hints.length - k ∧ T.length ≤ 100000 + k ∧ R (db (justR (clauseAt cls l) T (hints.drop k))) σ ∧ fr = [.any, .d (stpsD l), .any, .ref σ.length 0, .any, .ref (σ.length + 1) 0, .any, .ref (σ.length + 2) 0, .any, dn k, .any, .any, .any, .any, .any, .any, .any, .any, .any, .any, .any, .any, .any, .any, .any, .any, .any, .any, .any, .any, .any, .any, .any, .any, .any, .any, .any, .any, .any, .any, .any, .any, .any, .any, .any, .any, .any, .any, .any, .any, .any, .any, .any, .any, .any, .any, .any, .any, .any, .any, .any, .any, .any, .any, .any, .any, .any, .any, .any, .any, .any, .any, .any, .any, .any] ∧
      st = σ ++ [some (.cells [.d (iD vars), .d (.sl 1 (cls.map isD))]), some (.cells [.d (.sl 1 (lits.map iD)), .d (.sl 1 (hints.map iD))]), some (.cells [.rs (σ.length + 3) 1 0 T.length (some 3)]), some (.cells (T.map fun x => A.d (iD x)))]) hints.length _
      (Wk.mask [1, 3, 5, 7, 9] ⟨0, lits.map fun x => -x, by omega, rfl, by rw [List.length_map]; omega, h, rfl, by rw [List.length_map, List.map_map]; rfl⟩) ?_
    clear h
    rintro m fr st ⟨k, T, hk, hm, hT, hR, rfl, rfl⟩
    rcases Nat.lt_or_ge k hints.length with klt | kge
    · have kd : decide ((k : Int) < (hints.length : Int)) = true := by simp; omega
      have hx := h6 _ (getD_mem 0 klt)
      obtain ⟨n, hn⟩ : ∃ n : Nat, hints.getD k 0 = (n : Int) := ⟨(hints.getD k 0).toNat, by omega⟩
      have e2 : List.getD (List.map iD hints) k default = iD (n : Int) := by rw [← hn]; exact getD_mapD klt
      have w3 := wrapS k (by omega)
      have w5 : IntKind.i64.wrap ((hints.length : Int) - 1) = ((hints.length - 1 : Nat) : Int) := by rw [wrap64_id _ (by omega) (by omega)]; omega
      obtain ⟨hcl, hcx⟩ := h7 n
      rw [drop_getD 0 klt, hn] at hR
      simp only [go_sem, List.length_map, kd, e2, w3]
      refine ⟨⟨by omega, by omega⟩, ac' (clause_ac ⟨vars, cls⟩ l n (by simp only [reachBytes]; omega) (by simp only [reachBytes]; omega) (by simp only; omega) _ _ _ ?_)⟩
      simp only
      obtain ⟨c, hc⟩ : ∃ c, clauseAt cls l n = c := ⟨_, rfl⟩
      rw [hc] at hcl hcx ⊢
      rcases Nat.lt_or_ge (k + 1) hints.length with hmore | hlast
      · have kd2 : ((k : Int) == ((hints.length - 1 : Nat) : Int)) = false := by simp; omega
        obtain ⟨y, r, hyr⟩ : ∃ y r, hints.drop (k + 1) = y :: r := ⟨_, _, drop_getD 0 hmore⟩
        rw [hyr, justR_two, Int.toNat_natCast, hc] at hR
        simp only [go_sem, List.length_map, w5, kd2]
        refine ac' (ac_pure (di (unitS T c 0)) rfl (views2 (views_assign (at_own 2 rfl) (at_own 3 rfl)) (Views.d _)) (unit_ac T c (by simp only [reachBytes]; omega) hcl hcx [] G _ rfl) ?_)
        simp only [go_sem, List.length_map, Try.results67]
        refine ⟨fun he => ret_d hbd ?_, fun hne => ⟨?_, ?_⟩⟩
        · simp at he; simpa [he] using hR
        · exact ⟨by omega, by simp only [maxLen]; omega, by omega⟩
        · simp only [w3]
          refine Wk.keep [1, 3, 5, 7, 9] [0, 1, 2, 5] (by decide) (Nat.le_refl _) hbd ⟨hints.length - (k + 1), by omega, k + 1, T ++ [unitS T c 0], klt, rfl, by rw [List.length_append, List.length_singleton]; omega, ?_, ?_, ?_⟩
          · rw [hyr]
            rw [if_neg (by simpa using hne)] at hR; exact hR
          · simp only [go_sem]
          · simp only [go_sem, List.map_append, List.map_cons, List.map_nil]
      · have kd2 : ((k : Int) == ((hints.length - 1 : Nat) : Int)) = true := by simp; omega
        rw [List.drop_eq_nil_of_le hlast, justR, Int.toNat_natCast, hc] at hR
        simp only [go_sem, List.length_map, w5, kd2]
        refine ac' (ac_pure (db (falsS T c)) rfl (views2 (views_assign (at_own 2 rfl) (at_own 3 rfl)) (Views.d _)) (fals_ac T c (by simp only [reachBytes]; omega) hcl hcx [] G _ rfl) ?_)
        simp only [go_sem, Try.results67]
        exact ret_d hbd hR
    · have kd : decide ((k : Int) < (hints.length : Int)) = false := by simp; omega
      simp only [go_sem, List.length_map, kd, Try.results67]
      refine ret_d hbd ?_
      rw [List.drop_eq_nil_of_le kge, justR] at hR; exact hR
end Go.Proofs.Ytpmjdaiboniagaa
