/- CheckerOrder, evaluated. -/
import Derived.Test.YtpmjdaiboniagaaC23
set_option linter.unusedSimpArgs false
set_option linter.unusedVariables false
set_option maxRecDepth 100000
namespace Go.Proofs.Ytpmjdaiboniagaa
open Go Go.Ab

theorem ren_isD (n0 : Nat) (p : List Nat) (l : List (List Int)) : renL n0 p (l.map fun x => A.d (isD x)) = l.map fun x => A.d (isD x) := renL_mapd n0 p isD l
theorem flat_steps (l : List Stp) : (flat (l.map stpD)).length = l.length * 2 := by rw [flat_len fun x hx => (stp_cells l x hx).1, List.length_map]
theorem law15_ac (f : Cnf) (l : List Stp) (h1 : f.cls.length ≤ reachBytes) (h2 : l.length ≤ reachBytes) (hv : I64 f.vars) (hx : ∀ s ∈ l, ∀ x ∈ s.lits, I64 x) (σ : St) (G : Glob) (R : A → St → Prop) (h : R (db true) σ) : AC Try.prog G 15 [.d (cnfD f), .d (stpsD l)] σ R := by
  refine ac_enterC' [11, 12, 17] mixed Try.func15 rfl Try.ntmps15 (by simp only [go_sem]) fun hbd => ?_
  simp only [List.length_cons, List.length_nil, Nat.reduceAdd, Nat.reduceSub, List.replicate_succ, List.replicate_zero, List.cons_append, List.nil_append]
  simp only [cnfD, go_sem]
  refine ac' (chead_ac _ _ _ ?_)
  simp only [go_sem]
  refine ac' (small_ac f l h1 h2 _ _ _ ?_)
  simp only [go_sem, Try.results15]
  refine ⟨fun hs => ret_d hbd h, fun hs => ?_⟩
  simp only [Bool.not_eq_false'] at hs
  have hf := fine2_of hs hv hx
  have hl := hf.steps
  obtain ⟨⟨s1, s2⟩, s3, s4⟩ := smallC_iff.1 hs
  simp only [clsD, stpsD]
  -- the formula in another order
  refine aw_cut (fun fr st => fr = [.any, .d (.sl 2 (l.map stpD)), .ref σ.length 0, .any, .any, db true, .ref (σ.length + 1) 0, .any, .any, .any, .any, .any, .any, .any, .any, .any, .any, .any, .any, .any, .any, .any, .any, .any, .any, .any, .any, .any, .any, .any, .any, .any, .any, .any, .any, .any, .any, .any, .any, .any, .any, .any, .any, .any, .any, .any, .any, .any, .any, .any, .any, .any, .any, .any, .any, .any, .any, .any, .any, .any, .any, .any, .any, .any, .any, .any, .any, .any, .any, .any, .any, .any, .any, .any, .any, .any, .any, .any, .any, .any, .any, .any, .any, .any, .any, .any, .any, .any, .any, .any, .any, .any, .any, .any, .any, .any, .any, .any, .any] ∧ st = σ ++ [some (.cells [.d (iD f.vars), .d (.sl 1 (f.cls.map isD))]), some (.cells [.d (iD f.vars), .d (clsD (f.cls.map ordC))])]) ?_ ?_
  · simp only [go_sem]
    refine aw_loop (fun m fr st => ∃ j : Nat, j ≤ f.cls.length ∧ m = f.cls.length - j ∧ fr = [.any, .d (.sl 2 (l.map stpD)), .ref σ.length 0, .any, .any, db true, .ref (σ.length + 1) 0, dn j, .any, .any, .any, .any, .any, .any, .any, .any, .any, .any, .any, .any, .any, .any, .any, .any, .any, .any, .any, .any, .any, .any, .any, .any, .any, .any, .any, .any, .any, .any, .any, .any, .any, .any, .any, .any, .any, .any, .any, .any, .any, .any, .any, .any, .any, .any, .any, .any, .any, .any, .any, .any, .any, .any, .any, .any, .any, .any, .any, .any, .any, .any, .any, .any, .any, .any, .any, .any, .any, .any, .any, .any, .any, .any, .any, .any, .any, .any, .any, .any, .any, .any, .any, .any, .any, .any, .any, .any, .any, .any, .any] ∧
      st = σ ++ [some (.cells [.d (iD f.vars), .d (.sl 1 (f.cls.map isD))]), some (.cells [.d (iD f.vars), .rs (σ.length + 2) 1 0 j (some 25)]), some (.cells (((f.cls.take j).map ordC).map fun x => A.d (isD x)))]) f.cls.length _
      ⟨_, _, (Weak.mask [1, 2, 5, 6, 7]).trans (Weak.emptyIn (σ := σ) 1 1 1 (some 25) rfl rfl), 0, by omega, rfl, rfl, rfl⟩ ?_
    rintro m fr st ⟨j, hj, hm, rfl, rfl⟩
    rcases Nat.lt_or_ge j f.cls.length with hlt | hge
    · have hd : decide ((j : Int) < (f.cls.length : Int)) = true := decide_eq_true (by omega)
      have e1 := isD_getD hlt
      have w2 := wrapS j (by omega)
      have hcj := s3 _ (getD_mem [] hlt)
      have htk := take_snoc [] hlt
      generalize f.cls.getD j [] = c at e1 hcj htk
      simp only [go_sem, List.length_map, hd, e1]
      refine ⟨⟨by omega, by omega⟩, ac' (turnedO_ac c (by omega) _ _ _ ?_)⟩
      simp only [go_sem]
      refine aw_cut (fun fr st => fr = [.any, .d (.sl 2 (l.map stpD)), .ref σ.length 0, .any, .any, db true, .ref (σ.length + 1) 0, dn j, .d (isD (ordC c)), .any, .any, .any, .any, .any, .any, .any, .any, .any, .any, .any, .any, .any, .any, .any, .any, .any, .any, .any, .any, .any, .any, .any, .any, .any, .any, .any, .any, .any, .any, .any, .any, .any, .any, .any, .any, .any, .any, .any, .any, .any, .any, .any, .any, .any, .any, .any, .any, .any, .any, .any, .any, .any, .any, .any, .any, .any, .any, .any, .any, .any, .any, .any, .any, .any, .any, .any, .any, .any, .any, .any, .any, .any, .any, .any, .any, .any, .any, .any, .any, .any, .any, .any, .any, .any, .any, .any, .any, .any, .any] ∧
        st = σ ++ [some (.cells [.d (iD f.vars), .d (.sl 1 (f.cls.map isD))]), some (.cells [.d (iD f.vars), .rs (σ.length + 2) 1 0 j (some 25)]), some (.cells (((f.cls.take j).map ordC).map fun x => A.d (isD x)))]) ?_ ?_
      · rcases c with _ | ⟨x, c⟩
        · simp only [go_sem, show decide ((0 : Int) < ((0 : Nat) : Int)) = false from rfl, List.length_nil]
          refine Wk.pre [1, 2, 5, 6, 7, 8] ?_
          simp only [go_sem]
          refine Wk.frz 3 1 0 [] rfl (lies_ints []) ?_
          simp only [go_sem, List.length_nil]
          exact Wk.keep [1, 2, 5, 6, 7, 8] [0, 1, 2] (by decide) (Nat.le_refl _) hbd ⟨by simp only [go_sem]; rfl, by simp only [go_sem, ren_isD]⟩
        · rw [List.length_cons] at hcj
          have d1 : decide ((0 : Int) < ((c.length + 1 : Nat) : Int)) = true := decide_eq_true (by omega)
          have w1 : IntKind.i64.wrap (((c.length + 1 : Nat) : Int) - 1) = ((c.length : Nat) : Int) := by
            rw [wrap64_id _ (by omega) (by omega)]; omega
          have e2 : List.getD ((x :: c).reverse.map fun x => A.d (iD x)) c.length .any = A.d (iD x) := by
            rw [getD_mapA (by simp), List.getD_eq_getElem?_getD, List.reverse_cons, List.getElem?_append_right (by simp)]
            simp
          have hlen : ((x :: c).reverse.map fun x => A.d (iD x)).length = c.length + 1 := by simp
          simp only [go_sem, d1, w1, e2, hlen, Nat.mul_one]
          refine ⟨⟨by omega, by omega⟩, ⟨by simp only [maxLen]; omega, by omega⟩, Wk.pre [1, 2, 5, 6, 7, 8] ?_⟩
          simp only [go_sem]
          have hord : (x :: c).reverse.map (fun x => A.d (iD x)) ++ [A.d (iD x)] = (ordC (x :: c)).map fun x => A.d (iD x) := by simp [ordC]
          have hol : (ordC (x :: c)).length = c.length + 1 + 1 := by simp [ordC]
          refine Wk.frz 5 1 0 ((ordC (x :: c)).map iD) rfl (hord ▸ lies_ints (ordC (x :: c))) ?_
          simp only [go_sem, List.length_map, hol]
          exact Wk.keep [1, 2, 5, 6, 7, 8] [0, 1, 2] (by decide) (Nat.le_refl _) hbd ⟨by simp only [go_sem]; rfl, by simp only [go_sem, ren_isD]⟩
      · rintro fr st ⟨rfl, rfl⟩
        simp only [isD, go_sem, List.length_map, w2, beq_self_eq_true]
        refine ⟨⟨by rw [List.length_take]; omega, by simp only [maxLen]; omega, by omega⟩, ?_⟩
        refine Wk.keep [1, 2, 5, 6, 7] [0, 1, 4] (by decide) (Nat.le_refl _) hbd ⟨f.cls.length - (j + 1), by omega, j + 1, hlt, rfl, by simp only [go_sem], ?_⟩
        simp only [go_sem, htk, List.map_append, List.map_cons, List.map_nil, isD]
    · have hd : decide ((j : Int) < (f.cls.length : Int)) = false := decide_eq_false (by omega)
      have htk : f.cls.take j = f.cls := List.take_of_length_le hge
      simp only [go_sem, List.length_map, hd, htk]
      rw [show j = f.cls.length by omega]
      refine Wk.pre [1, 2, 5, 6] ?_
      simp only [go_sem]
      refine ⟨_, _, (Weak.freezeIn (σ := σ) 2 1 1 0 ((f.cls.map ordC).map isD) rfl (lies_cls _) rfl (by decide)).trans (Weak.keep (σ := σ) [0, 1] (by decide) (Nat.le_refl _) hbd), ?_, ?_⟩
      · simp only [go_sem]
      · simp only [go_sem, List.length_map]
        rfl
  · rintro fr st ⟨rfl, rfl⟩
    simp only [go_sem]
    -- the steps in another order
    refine aw_cut (fun fr st => fr = [.any, .d (.sl 2 (l.map stpD)), .ref σ.length 0, .any, .any, db true, .ref (σ.length + 1) 0, .any, .any, .d (stpsD (l.map ordS)), .any, .any, .any, .any, .any, .any, .any, .any, .any, .any, .any, .any, .any, .any, .any, .any, .any, .any, .any, .any, .any, .any, .any, .any, .any, .any, .any, .any, .any, .any, .any, .any, .any, .any, .any, .any, .any, .any, .any, .any, .any, .any, .any, .any, .any, .any, .any, .any, .any, .any, .any, .any, .any, .any, .any, .any, .any, .any, .any, .any, .any, .any, .any, .any, .any, .any, .any, .any, .any, .any, .any, .any, .any, .any, .any, .any, .any, .any, .any, .any, .any, .any, .any, .any, .any, .any, .any, .any, .any] ∧ st = σ ++ [some (.cells [.d (iD f.vars), .d (.sl 1 (f.cls.map isD))]), some (.cells [.d (iD f.vars), .d (clsD (f.cls.map ordC))])]) ?_ ?_
    · simp only [go_sem]
      refine aw_loop (fun m fr st => ∃ j : Nat, j ≤ l.length ∧ m = l.length - j ∧ fr = [.any, .d (.sl 2 (l.map stpD)), .ref σ.length 0, .any, .any, db true, .ref (σ.length + 1) 0, .any, .any, .rs (σ.length + 2) 2 0 j (some 50), dn j, .any, .any, .any, .any, .any, .any, .any, .any, .any, .any, .any, .any, .any, .any, .any, .any, .any, .any, .any, .any, .any, .any, .any, .any, .any, .any, .any, .any, .any, .any, .any, .any, .any, .any, .any, .any, .any, .any, .any, .any, .any, .any, .any, .any, .any, .any, .any, .any, .any, .any, .any, .any, .any, .any, .any, .any, .any, .any, .any, .any, .any, .any, .any, .any, .any, .any, .any, .any, .any, .any, .any, .any, .any, .any, .any, .any, .any, .any, .any, .any, .any, .any, .any, .any, .any, .any, .any, .any] ∧
        st = σ ++ [some (.cells [.d (iD f.vars), .d (.sl 1 (f.cls.map isD))]), some (.cells [.d (iD f.vars), .d (clsD (f.cls.map ordC))]), some (.cells (flat (((l.take j).map ordS).map stpD)))]) l.length _
        ⟨_, _, (Weak.mask [1, 2, 5, 6, 9, 10]).trans (Weak.empty 9 2 (some 50) rfl), 0, by omega, rfl, by simp [maskN], by simp [flat]⟩ ?_
      rintro m fr st ⟨j, hj, hm, rfl, rfl⟩
      rcases Nat.lt_or_ge j l.length with hlt | hge
      · have hd : decide ((j : Int) < (l.length : Int)) = true := decide_eq_true (by omega)
        have e1 := stpD_getD hlt
        have w2 := wrapS j (by omega)
        have hsj := s4 _ (getD_mem stp0 hlt)
        have htk := take_snoc stp0 hlt
        have hfl := flat_steps ((l.take j).map ordS)
        obtain ⟨s, hse⟩ : ∃ s, l.getD j stp0 = s := ⟨_, rfl⟩
        have e1' : List.getD (l.map stpD) j default = .agg [isD s.lits, isD s.hints] := by rw [← hse]; exact e1
        rw [hse] at hsj htk
        simp only [go_sem, List.length_map, hd]
        refine aw_plan (.tk 6 0 <| .tk 2 7 <| .pure 6 <| .tk 7 9 <| .done) (by kernel_rfl) ?_
        simp only [go_sem, List.length_map, e1']
        refine ⟨⟨by omega, by omega⟩, exP (.d (isD s.lits.reverse)) ⟨fun σ' => ?_, ?_⟩⟩
        · simp only [go_sem]
          exact ac' (turned_ac _ (by omega) _ _ _ ⟨rfl, rfl⟩)
        simp only [isD, go_sem, List.length_map, e1', w2, hfl, beq_self_eq_true]
        refine ⟨⟨by omega, by omega⟩, ⟨by rw [List.length_take]; omega, by simp only [maxLen]; omega, by omega⟩, ?_⟩
        refine Wk.keep [1, 2, 5, 6, 9, 10] [0, 1, 4] (by decide) (Nat.le_refl _) hbd ⟨l.length - (j + 1), by omega, j + 1, hlt, rfl, by simp only [go_sem], ?_⟩
        simp only [go_sem, htk, List.map_append, List.map_cons, List.map_nil, flat_append]
        rfl
      · have hd : decide ((j : Int) < (l.length : Int)) = false := decide_eq_false (by omega)
        have htk : l.take j = l := List.take_of_length_le hge
        simp only [go_sem, List.length_map, hd, htk]
        rw [show j = l.length by omega]
        refine Wk.pre [1, 2, 5, 6, 9] ?_
        simp only [go_sem]
        refine Wk.frz 2 2 0 ((l.map ordS).map stpD) rfl (lies_of (stp_cells _)) ?_
        simp only [go_sem, List.length_map]
        exact Wk.keep [1, 2, 5, 6, 9] [0, 1] (by decide) (Nat.le_refl _) hbd ⟨by simp only [go_sem]; rfl, by simp only [go_sem]⟩
    · rintro fr st ⟨rfl, rfl⟩
      simp only [go_sem]
      refine ac' (check_ac f l hf _ _ _ ?_)
      have hff : Fine2 (ordF f) (l.map ordS) := by
        refine ⟨⟨hv, by rw [ordF, List.length_map]; omega, fun c hc => ?_, by rw [List.length_map]; omega, fun t ht => ?_⟩, fun t ht => ?_⟩
        · simp only [ordF, List.mem_map] at hc
          obtain ⟨d, hd, rfl⟩ := hc
          have := s3 d hd
          simp only [ordC, List.length_append, List.length_reverse, List.length_take, reachBytes]
          omega
        · obtain ⟨s, hs', rfl⟩ := List.mem_map.1 ht
          have := s4 s hs'
          exact ⟨by simp only [ordS, List.length_reverse]; omega, by simp only [ordS]; omega, fun x hx' => hx s hs' x (by simpa [ordS] using hx')⟩
        · obtain ⟨s, hs', rfl⟩ := List.mem_map.1 ht
          have := s4 s hs'
          simp only [ordS, List.length_reverse]; omega
      have he := order_eq (f := f) (l := l) (by omega) hx
      obtain ⟨⟨q1, q2⟩, hq⟩ : ∃ q, chk (goodR f) f l = q := ⟨_, rfl⟩
      rw [hq] at he ⊢
      simp only [go_sem]
      refine ac' (check_ac (ordF f) (l.map ordS) hff _ _ _ ?_)
      rw [he]
      simp only [go_sem, beq_self_eq_true, Try.results15]
      exact ret_d hbd h
end Go.Proofs.Ytpmjdaiboniagaa
