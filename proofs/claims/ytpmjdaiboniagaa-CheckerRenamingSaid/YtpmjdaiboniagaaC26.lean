/- CheckerRenaming, evaluated. -/
import Derived.Test.YtpmjdaiboniagaaC24
import Derived.Test.YtpmjdaiboniagaaC25
set_option linter.unusedSimpArgs false
set_option linter.unusedVariables false
set_option maxRecDepth 100000
namespace Go.Proofs.Ytpmjdaiboniagaa
open Go Go.Ab

theorem law14_ac (f : Cnf) (l : List Stp) (b : Nat) (inv : List Bool) (hb : b ≤ 255) (h1 : f.cls.length ≤ reachBytes) (h2 : l.length ≤ reachBytes) (h3 : ∀ c ∈ f.cls, c.length ≤ reachBytes) (hv : I64 f.vars) (hx : ∀ s ∈ l, ∀ x ∈ s.lits, I64 x) (h4 : ∀ s ∈ l, s.lits.length ≤ reachBytes) (σ : St) (G : Glob) (R : A → St → Prop) (h : R (db true) σ) : AC Try.prog G 14 [.d (cnfD f), .d (stpsD l), .d (.int .u8 b), .d (bsD inv)] σ R := by
  refine ac_enterC' [9, 14] mixed Try.func14 rfl Try.ntmps14 (by simp only [go_sem]) fun hbd => ?_
  simp only [List.length_cons, List.length_nil, Nat.reduceAdd, Nat.reduceSub, List.replicate_succ, List.replicate_zero, List.cons_append, List.nil_append]
  simp only [cnfD, go_sem]
  refine ac' (chead_ac _ _ _ ?_)
  simp only [go_sem]
  refine ac' (small_ac f l h1 h2 _ _ _ ?_)
  cases hs : smallC f l with
  | false =>
    simp only [go_sem]
    refine ex' (.bool false) ⟨fun hc => Bool.noConfusion hc, ?_⟩
    simp only [go_sem]
    refine ex' (.bool false) ⟨fun hc => Bool.noConfusion hc, ?_⟩
    simp only [go_sem, Try.results14]
    exact ret_d hbd h
  | true =>
  obtain ⟨⟨s1, s2⟩, s3, s4⟩ := smallC_iff.1 hs
  simp only [go_sem]
  refine ex' (.bool (validC f)) ⟨fun hc => ?_, ?_⟩
  · simp only [go_sem]
    exact ac' (rvalid_ac f hv h1 h3 _ _ _ ⟨rfl, rfl⟩)
  cases hvv : validC f with
  | false =>
    simp only [go_sem]
    refine ex' (.bool false) ⟨fun hc => Bool.noConfusion hc, ?_⟩
    simp only [go_sem, Try.results14]
    exact ret_d hbd h
  | true =>
  cases d1 : decide (f.vars < 1) with
  | true =>
    simp only [go_sem, d1]
    refine ex' (.bool false) ⟨fun hc => Bool.noConfusion hc, ?_⟩
    simp only [go_sem, Try.results14]
    exact ret_d hbd h
  | false =>
  cases d2 : decide ((100 : Int) < f.vars) with
  | true =>
    simp only [go_sem, d1, d2]
    refine ex' (.bool false) ⟨fun hc => Bool.noConfusion hc, ?_⟩
    simp only [go_sem, Try.results14]
    exact ret_d hbd h
  | false =>
  simp only [go_sem, d1, d2]
  refine ex' (.bool (litsOK f.vars l)) ⟨fun hc => ?_, ?_⟩
  · simp only [go_sem]
    exact ac' (literals_ac l f.vars hv (by omega) h4 _ _ _ ⟨rfl, rfl⟩)
  cases hlo : litsOK f.vars l with
  | false =>
    simp only [go_sem, Try.results14]
    exact ret_d hbd h
  | true =>
  simp only [go_sem, Try.results14]
  have hf := fine2_of hs hv hx
  simp only [decide_eq_false_iff_not] at d1 d2
  obtain ⟨V, hV⟩ : ∃ V : Nat, f.vars = V := ⟨f.vars.toNat, by omega⟩
  have hV1 : 1 ≤ V ∧ V ≤ 100 := by omega
  have hV2 : 1 ≤ V ∧ V ≤ 8000 := by omega
  have hlit := (litsOK_iff (by omega)).1 hlo
  have hval := (validC_iff.1 hvv).2
  simp only [clsD, stpsD, hV]
  -- the formula renamed
  refine aw_cut (fun fr st => fr = [.any, .d (.sl 2 (l.map stpD)), .d (.int .u8 b), .d (bsD inv), .ref σ.length 0, .any, .any, .any, .any, db true, .ref (σ.length + 1) 0, .any, .any, .any, .any, .any, .any, .any, .any, .any, .any, .any, .any, .any, .any, .any, .any, .any, .any, .any, .any, .any, .any, .any, .any, .any, .any, .any, .any, .any, .any, .any, .any, .any, .any, .any, .any, .any, .any, .any, .any, .any, .any, .any, .any, .any, .any, .any, .any, .any, .any, .any, .any, .any, .any, .any, .any, .any, .any, .any, .any, .any, .any, .any, .any, .any, .any, .any, .any, .any, .any, .any, .any, .any, .any, .any, .any, .any, .any, .any, .any, .any, .any, .any, .any, .any, .any, .any, .any, .any, .any, .any, .any, .any, .any, .any, .any, .any, .any, .any, .any, .any, .any, .any, .any, .any, .any, .any, .any, .any, .any, .any, .any, .any, .any, .any, .any, .any] ∧ st = σ ++ [some (.cells [dn V, .d (.sl 1 (f.cls.map isD))]), some (.cells [dn V, .d (clsD (f.cls.map (List.map (renI V b inv))))])]) ?_ ?_
  · simp only [go_sem]
    refine aw_loop (fun m fr st => ∃ j : Nat, j ≤ f.cls.length ∧ m = f.cls.length - j ∧ fr = [.any, .d (.sl 2 (l.map stpD)), .d (.int .u8 b), .d (bsD inv), .ref σ.length 0, .any, .any, .any, .any, db true, .ref (σ.length + 1) 0, dn j, .any, .any, .any, .any, .any, .any, .any, .any, .any, .any, .any, .any, .any, .any, .any, .any, .any, .any, .any, .any, .any, .any, .any, .any, .any, .any, .any, .any, .any, .any, .any, .any, .any, .any, .any, .any, .any, .any, .any, .any, .any, .any, .any, .any, .any, .any, .any, .any, .any, .any, .any, .any, .any, .any, .any, .any, .any, .any, .any, .any, .any, .any, .any, .any, .any, .any, .any, .any, .any, .any, .any, .any, .any, .any, .any, .any, .any, .any, .any, .any, .any, .any, .any, .any, .any, .any, .any, .any, .any, .any, .any, .any, .any, .any, .any, .any, .any, .any, .any, .any, .any, .any, .any, .any, .any, .any, .any, .any, .any, .any, .any, .any, .any, .any, .any, .any] ∧
      st = σ ++ [some (.cells [dn V, .d (.sl 1 (f.cls.map isD))]), some (.cells [dn V, .rs (σ.length + 2) 1 0 j (some 25)]), some (.cells (((f.cls.take j).map (List.map (renI V b inv))).map fun x => A.d (isD x)))]) f.cls.length _
      ⟨_, _, (Weak.mask [1, 2, 3, 4, 9, 10, 11]).trans (Weak.emptyIn (σ := σ) 1 1 1 (some 25) rfl rfl), 0, by omega, rfl, rfl, rfl⟩ ?_
    rintro m fr st ⟨j, hj, hm, rfl, rfl⟩
    rcases Nat.lt_or_ge j f.cls.length with hlt | hge
    · have hd : decide ((j : Int) < (f.cls.length : Int)) = true := decide_eq_true (by omega)
      have e1 := isD_getD hlt
      have w2 := wrapS j (by omega)
      have hcj := s3 _ (getD_mem [] hlt)
      have hvj := hval _ (getD_mem [] hlt)
      have htk := take_snoc [] hlt
      generalize f.cls.getD j [] = c at e1 hcj hvj htk
      simp only [go_sem, List.length_map, hd]
      refine aw_plan (.tk 9 2 <| .pure 11 <| .tk 2 0 <| .tk 4 12 <| .done) (by kernel_rfl) ?_
      simp only [go_sem, List.length_map, e1]
      refine ⟨⟨by omega, by omega⟩, exP (.d (isD (c.map (renI V b inv)))) ⟨fun σ' => ?_, ?_⟩⟩
      · simp only [go_sem]
        exact ac' (rename_ac c V b inv (by omega) hV1 hb (fun x hx' => by have := hvj x hx'; omega) _ _ _ ⟨rfl, rfl⟩)
      simp only [isD, go_sem, List.length_map, w2, beq_self_eq_true]
      refine ⟨⟨by rw [List.length_take]; omega, by simp only [maxLen]; omega, by omega⟩, ?_⟩
      refine Wk.keep [1, 2, 3, 4, 9, 10, 11] [0, 1, 4] (by decide) (Nat.le_refl _) hbd ⟨f.cls.length - (j + 1), by omega, j + 1, hlt, rfl, by simp only [go_sem], ?_⟩
      simp only [go_sem, htk, List.map_append, List.map_cons, List.map_nil, isD]
    · have hd : decide ((j : Int) < (f.cls.length : Int)) = false := decide_eq_false (by omega)
      have htk : f.cls.take j = f.cls := List.take_of_length_le hge
      simp only [go_sem, List.length_map, hd, htk]
      rw [show j = f.cls.length by omega]
      refine Wk.pre [1, 2, 3, 4, 9, 10] ?_
      simp only [go_sem]
      refine ⟨_, _, (Weak.freezeIn (σ := σ) 2 1 1 0 ((f.cls.map (List.map (renI V b inv))).map isD) rfl (lies_cls _) rfl (by decide)).trans (Weak.keep (σ := σ) [0, 1] (by decide) (Nat.le_refl _) hbd), ?_, ?_⟩
      · simp only [go_sem]
      · simp only [go_sem, List.length_map]
        rfl
  · rintro fr st ⟨rfl, rfl⟩
    simp only [go_sem]
    -- the steps renamed
    refine aw_cut (fun fr st => fr = [.any, .d (.sl 2 (l.map stpD)), .any, .any, .ref σ.length 0, .any, .any, .any, .any, db true, .ref (σ.length + 1) 0, .any, .d (stpsD (l.map (renS V b inv))), .any, .any, .any, .any, .any, .any, .any, .any, .any, .any, .any, .any, .any, .any, .any, .any, .any, .any, .any, .any, .any, .any, .any, .any, .any, .any, .any, .any, .any, .any, .any, .any, .any, .any, .any, .any, .any, .any, .any, .any, .any, .any, .any, .any, .any, .any, .any, .any, .any, .any, .any, .any, .any, .any, .any, .any, .any, .any, .any, .any, .any, .any, .any, .any, .any, .any, .any, .any, .any, .any, .any, .any, .any, .any, .any, .any, .any, .any, .any, .any, .any, .any, .any, .any, .any, .any, .any, .any, .any, .any, .any, .any, .any, .any, .any, .any, .any, .any, .any, .any, .any, .any, .any, .any, .any, .any, .any, .any, .any, .any, .any, .any, .any, .any, .any] ∧ st = σ ++ [some (.cells [dn V, .d (.sl 1 (f.cls.map isD))]), some (.cells [dn V, .d (clsD (f.cls.map (List.map (renI V b inv))))])]) ?_ ?_
    · simp only [go_sem]
      refine aw_loop (fun m fr st => ∃ j : Nat, j ≤ l.length ∧ m = l.length - j ∧ fr = [.any, .d (.sl 2 (l.map stpD)), .d (.int .u8 b), .d (bsD inv), .ref σ.length 0, .any, .any, .any, .any, db true, .ref (σ.length + 1) 0, .any, .rs (σ.length + 2) 2 0 j (some 50), dn j, .any, .any, .any, .any, .any, .any, .any, .any, .any, .any, .any, .any, .any, .any, .any, .any, .any, .any, .any, .any, .any, .any, .any, .any, .any, .any, .any, .any, .any, .any, .any, .any, .any, .any, .any, .any, .any, .any, .any, .any, .any, .any, .any, .any, .any, .any, .any, .any, .any, .any, .any, .any, .any, .any, .any, .any, .any, .any, .any, .any, .any, .any, .any, .any, .any, .any, .any, .any, .any, .any, .any, .any, .any, .any, .any, .any, .any, .any, .any, .any, .any, .any, .any, .any, .any, .any, .any, .any, .any, .any, .any, .any, .any, .any, .any, .any, .any, .any, .any, .any, .any, .any, .any, .any, .any, .any, .any, .any, .any, .any, .any, .any, .any, .any] ∧
        st = σ ++ [some (.cells [dn V, .d (.sl 1 (f.cls.map isD))]), some (.cells [dn V, .d (clsD (f.cls.map (List.map (renI V b inv))))]), some (.cells (flat (((l.take j).map (renS V b inv)).map stpD)))]) l.length _
        ⟨_, _, (Weak.mask [1, 2, 3, 4, 9, 10, 12, 13]).trans (Weak.empty 12 2 (some 50) rfl), 0, by omega, rfl, by simp [maskN], by simp [flat]⟩ ?_
      rintro m fr st ⟨j, hj, hm, rfl, rfl⟩
      rcases Nat.lt_or_ge j l.length with hlt | hge
      · have hd : decide ((j : Int) < (l.length : Int)) = true := decide_eq_true (by omega)
        have e1 := stpD_getD hlt
        have w2 := wrapS j (by omega)
        have hsj := s4 _ (getD_mem stp0 hlt)
        have hlj := hlit _ (getD_mem stp0 hlt)
        have htk := take_snoc stp0 hlt
        have hfl := flat_steps ((l.take j).map (renS V b inv))
        obtain ⟨s, hse⟩ : ∃ s, l.getD j stp0 = s := ⟨_, rfl⟩
        have e1' : List.getD (l.map stpD) j default = .agg [isD s.lits, isD s.hints] := by rw [← hse]; exact e1
        rw [hse] at hsj hlj htk
        simp only [go_sem, List.length_map, hd]
        refine aw_plan (.tk 10 0 <| .tk 2 11 <| .pure 10 <| .tk 7 13 <| .done) (by kernel_rfl) ?_
        simp only [go_sem, List.length_map, e1']
        refine ⟨⟨by omega, by omega⟩, exP (.d (isD (s.lits.map (renI V b inv)))) ⟨fun σ' => ?_, ?_⟩⟩
        · simp only [go_sem]
          exact ac' (rename_ac s.lits V b inv (by omega) hV1 hb (fun x hx' => by have := hlj x hx'; omega) _ _ _ ⟨rfl, rfl⟩)
        simp only [isD, go_sem, List.length_map, e1', w2, hfl, beq_self_eq_true]
        refine ⟨⟨by omega, by omega⟩, ⟨by rw [List.length_take]; omega, by simp only [maxLen]; omega, by omega⟩, ?_⟩
        refine Wk.keep [1, 2, 3, 4, 9, 10, 12, 13] [0, 1, 4] (by decide) (Nat.le_refl _) hbd ⟨l.length - (j + 1), by omega, j + 1, hlt, rfl, by simp only [go_sem], ?_⟩
        simp only [go_sem, htk, List.map_append, List.map_cons, List.map_nil, flat_append]
        rfl
      · have hd : decide ((j : Int) < (l.length : Int)) = false := decide_eq_false (by omega)
        have htk : l.take j = l := List.take_of_length_le hge
        simp only [go_sem, List.length_map, hd, htk]
        rw [show j = l.length by omega]
        refine Wk.pre [1, 4, 9, 10, 12] ?_
        simp only [go_sem]
        refine Wk.frz 2 2 0 ((l.map (renS V b inv)).map stpD) rfl (lies_of (stp_cells _)) ?_
        simp only [go_sem, List.length_map]
        exact Wk.keep [1, 4, 9, 10, 12] [0, 1] (by decide) (Nat.le_refl _) hbd ⟨by simp only [go_sem]; rfl, by simp only [go_sem]⟩
    · rintro fr st ⟨rfl, rfl⟩
      simp only [go_sem]
      obtain ⟨vars, cls⟩ := f
      obtain rfl : vars = (V : Int) := hV
      refine ac' (check_ac ⟨V, cls⟩ l hf _ _ _ ?_)
      have hff : Fine2 (renF V b inv ⟨V, cls⟩) (l.map (renS V b inv)) := by
        refine ⟨⟨hv, by rw [renF, List.length_map]; exact Nat.le_trans s1 (by decide), fun c hc => ?_, by rw [List.length_map]; omega, fun t ht => ?_⟩, fun t ht => ?_⟩
        · simp only [renF, List.mem_map] at hc
          obtain ⟨d, hd, rfl⟩ := hc
          have := s3 d hd
          rw [List.length_map]
          simp only [reachBytes]
          omega
        · obtain ⟨s, hs', rfl⟩ := List.mem_map.1 ht
          have := s4 s hs'
          refine ⟨by simp only [renS, List.length_map]; omega, by simp only [renS]; omega, fun x hx' => ?_⟩
          simp only [renS, List.mem_map] at hx'
          obtain ⟨y, _, rfl⟩ := hx'
          have := renI_range (b := b) hV1.1 inv y
          simp only [I64]
          omega
        · obtain ⟨s, hs', rfl⟩ := List.mem_map.1 ht
          have := s4 s hs'
          simp only [renS, List.length_map]; omega
      have he := ren_eq (b := b) hV2 inv (f := ⟨V, cls⟩) (l := l) rfl (by omega) hvv hx hlit
      obtain ⟨⟨q1, q2⟩, hq⟩ : ∃ q, chk (goodR ⟨V, cls⟩) ⟨V, cls⟩ l = q := ⟨_, rfl⟩
      rw [hq] at he ⊢
      simp only [go_sem]
      refine ac' (check_ac (renF V b inv ⟨V, cls⟩) (l.map (renS V b inv)) hff _ _ _ ?_)
      rw [he]
      simp only [go_sem]
      refine aw_plan (.tk 14 0 <| .take 16 <| .pure 14 <| .take 15 <| .pure 17 <| .tk 3 18 <| .done) (by kernel_rfl) ?_
      simp only [go_sem, beq_self_eq_true, Try.results14]
      refine exQ (.bool (refutes (q1, q2) l)) ⟨fun _ => ?_, ?_⟩
      · simp only [go_sem]
        intro σ'
        refine ac' (refutes_ac ⟨V, cls⟩ l hf _ _ _ ?_)
        rw [hq]
        exact ⟨rfl, rfl⟩
      simp only [go_sem, beq_self_eq_true, Try.results14]
      refine exQ (.bool (refutes (q1, q2) l)) ⟨fun _ => ?_, ?_⟩
      · simp only [go_sem]
        intro σ'
        refine ac' (refutes_ac (renF V b inv ⟨V, cls⟩) (l.map (renS V b inv)) hff _ _ _ ?_)
        rw [he, ren_refutes]
        exact ⟨rfl, rfl⟩
      simp only [go_sem, beq_self_eq_true, Try.results14]
      exact ret_d hbd h
end Go.Proofs.Ytpmjdaiboniagaa
