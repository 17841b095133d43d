/- CheckerMoreClauses, evaluated. -/
import Derived.Test.YtpmjdaiboniagaaC24
import Derived.Test.YtpmjdaiboniagaaC29
set_option linter.unusedSimpArgs false
set_option linter.unusedVariables false
set_option maxRecDepth 100000
namespace Go.Proofs.Ytpmjdaiboniagaa
open Go Go.Ab

theorem flat_ints' : ∀ (l : List Int), flat (l.map iD) = l.map fun x => A.d (iD x)
  | [] => rfl
  | x :: l => by rw [List.map_cons, flat_cons, flat_ints' l]; rfl
theorem flat_snocS (l : List Stp) (s : Stp) : flat (l.map stpD) ++ [A.d (isD s.lits), A.d (isD s.hints)] = flat ((l ++ [s]).map stpD) := by
  rw [List.map_append, flat_append]; rfl
theorem frzL_append (id sz off : Nat) (xs : List D) (a b : List A) : frzL id sz off xs (a ++ b) = frzL id sz off xs a ++ frzL id sz off xs b := by
  rw [frzL_eq, frzL_eq, frzL_eq, List.map_append]
theorem frzL_flat (id sz off : Nat) (xs : List D) : ∀ ys : List D, frzL id sz off xs (flat ys) = flat ys
  | [] => rfl
  | y :: ys => by
    rw [flat_cons, frzL_append, frzL_flat id sz off xs ys]
    congr 1
    rw [frzL_eq, List.map_map]
    rfl
set_option maxHeartbeats 20000000 in
theorem law13_ac (f : Cnf) (l : List Stp) (more : List (List Int)) (h1 : f.cls.length ≤ reachBytes) (h2 : l.length ≤ reachBytes) (h3 : ∀ c ∈ f.cls, c.length ≤ reachBytes) (h4 : more.length ≤ reachBytes) (h5 : ∀ c ∈ more, c.length ≤ reachBytes) (hv : I64 f.vars) (hx : ∀ s ∈ l, ∀ x ∈ s.lits, I64 x) (hy : ∀ s ∈ l, ∀ x ∈ s.hints, I64 x) (σ : St) (G : Glob) (R : A → St → Prop) (h : R (db true) σ) : AC Try.prog G 13 [.d (cnfD f), .d (stpsD l), .d (clsD more)] σ R := by
  simp only [reachBytes] at h1 h2 h4
  refine ac_enterC' [5, 20] mixed Try.func13 rfl Try.ntmps13 (by simp only [go_sem]) fun hbd => ?_
  simp only [List.length_cons, List.length_nil, Nat.reduceAdd, Nat.reduceSub, List.replicate_succ, List.replicate_zero, List.cons_append, List.nil_append]
  simp only [cnfD, clsD, go_sem]
  refine ac' (chead_ac _ _ _ ?_)
  simp only [go_sem]
  refine ac' (small_ac f l (by simp only [reachBytes]; omega) (by simp only [reachBytes]; omega) _ _ _ ?_)
  cases hs : smallC f l with
  | false =>
    simp only [go_sem, Try.results13]
    exact ret_d hbd h
  | true =>
  obtain ⟨⟨s1, s2⟩, s3, s4⟩ := smallC_iff.1 hs
  have hf := fine2_of hs hv hx
  simp only [go_sem, List.length_map, Try.results13]
  refine ⟨fun hm => ret_d hbd h, fun hm => ?_⟩
  have hm10 : more.length ≤ 10 := by
    simp only [decide_eq_false_iff_not] at hm; omega
  refine aw_cut (fun fr st => fr = [.any, .d (stpsD l), .d (clsD more), .ref σ.length 0, .any, .any, .any, db true, .ref (σ.length + 1) 0, .any, .any, .any, .any, .any, .any, .any, .any, .any, .any, .any, .any, .any, .any, .any, .any, .any, .any, .any, .any, .any, .any, .any, .any, .any, .any, .any, .any, .any, .any, .any, .any, .any, .any, .any, .any, .any, .any, .any, .any, .any, .any, .any, .any, .any, .any, .any, .any, .any, .any, .any, .any, .any, .any, .any, .any, .any, .any, .any, .any, .any, .any, .any, .any, .any, .any, .any, .any, .any, .any, .any, .any, .any, .any, .any, .any, .any, .any, .any, .any, .any, .any, .any, .any, .any, .any, .any, .any, .any, .any, .any, .any, .any, .any, .any, .any, .any, .any, .any, .any, .any, .any, .any, .any, .any] ∧
    st = σ ++ [some (.cells [.d (iD f.vars), .d (clsD f.cls)]), some (.cells [.d (iD f.vars), .d (clsD (f.cls ++ more))])]) ?_ ?_
  · have hord : (f.cls.map fun x => A.d (isD x)) ++ (more.map fun x => A.d (isD x)) = (f.cls ++ more).map fun x => A.d (isD x) := by rw [List.map_append]
    refine aw_plan (.tk 2 3 <| .take 6 <| .alt 0 (.alt 1 (.alt 2 (.alt 5 (.alt 7 (.tk 3 8 <| .done) <| .alt 9 (.tk 2 7 <| .take 10 <| .done) <| .stop) <| .alt 9 (.take 5 <| .tk 2 7 <| .take 10 <| .done) <| .stop) <| .alt 9 (.take 2 <| .take 5 <| .tk 2 7 <| .take 10 <| .done) <| .stop) <| .alt 2 (.alt 1 (.alt 5 (.alt 7 (.tk 3 8 <| .done) <| .alt 9 (.tk 2 7 <| .take 10 <| .done) <| .stop) <| .alt 9 (.take 5 <| .tk 2 7 <| .take 10 <| .done) <| .stop) <| .alt 5 (.alt 1 (.alt 7 (.tk 3 8 <| .done) <| .alt 9 (.tk 2 7 <| .take 10 <| .done) <| .stop) <| .alt 7 (.take 1 <| .tk 3 8 <| .done) <| .alt 9 (.alt 1 (.tk 2 7 <| .take 10 <| .done) <| .alt 7 (.take 1 <| .take 8 <| .take 10 <| .done) <| .stop) <| .stop) <| .alt 9 (.alt 1 (.take 5 <| .tk 2 7 <| .take 10 <| .done) <| .alt 5 (.alt 1 (.tk 2 7 <| .take 10 <| .done) <| .alt 7 (.take 1 <| .take 8 <| .take 10 <| .done) <| .stop) <| .stop) <| .stop) <| .alt 9 (.alt 1 (.take 2 <| .take 5 <| .tk 2 7 <| .take 10 <| .done) <| .alt 2 (.alt 1 (.take 5 <| .tk 2 7 <| .take 10 <| .done) <| .alt 5 (.alt 1 (.tk 2 7 <| .take 10 <| .done) <| .alt 7 (.take 1 <| .take 8 <| .take 10 <| .done) <| .stop) <| .stop) <| .stop) <| .stop) <| .alt 2 (.alt 0 (.alt 1 (.alt 5 (.alt 7 (.tk 3 8 <| .done) <| .alt 9 (.tk 2 7 <| .take 10 <| .done) <| .stop) <| .alt 9 (.take 5 <| .tk 2 7 <| .take 10 <| .done) <| .stop) <| .alt 5 (.alt 1 (.alt 7 (.tk 3 8 <| .done) <| .alt 9 (.tk 2 7 <| .take 10 <| .done) <| .stop) <| .alt 7 (.take 1 <| .tk 3 8 <| .done) <| .alt 9 (.alt 1 (.tk 2 7 <| .take 10 <| .done) <| .alt 7 (.take 1 <| .take 8 <| .take 10 <| .done) <| .stop) <| .stop) <| .alt 9 (.alt 1 (.take 5 <| .tk 2 7 <| .take 10 <| .done) <| .alt 5 (.alt 1 (.tk 2 7 <| .take 10 <| .done) <| .alt 7 (.take 1 <| .take 8 <| .take 10 <| .done) <| .stop) <| .stop) <| .stop) <| .alt 5 (.alt 0 (.alt 1 (.alt 7 (.tk 3 8 <| .done) <| .alt 9 (.tk 2 7 <| .take 10 <| .done) <| .stop) <| .alt 7 (.take 1 <| .tk 3 8 <| .done) <| .alt 9 (.alt 1 (.tk 2 7 <| .take 10 <| .done) <| .alt 7 (.take 1 <| .take 8 <| .take 10 <| .done) <| .stop) <| .stop) <| .alt 7 (.tk 2 0 <| .tk 3 8 <| .done) <| .alt 9 (.alt 0 (.alt 1 (.tk 2 7 <| .take 10 <| .done) <| .alt 7 (.take 1 <| .take 8 <| .take 10 <| .done) <| .stop) <| .alt 7 (.tk 2 0 <| .take 8 <| .take 10 <| .done) <| .stop) <| .stop) <| .alt 9 (.alt 0 (.alt 1 (.take 5 <| .tk 2 7 <| .take 10 <| .done) <| .alt 5 (.alt 1 (.tk 2 7 <| .take 10 <| .done) <| .alt 7 (.take 1 <| .take 8 <| .take 10 <| .done) <| .stop) <| .stop) <| .alt 5 (.alt 0 (.alt 1 (.tk 2 7 <| .take 10 <| .done) <| .alt 7 (.take 1 <| .take 8 <| .take 10 <| .done) <| .stop) <| .alt 7 (.tk 2 0 <| .take 8 <| .take 10 <| .done) <| .stop) <| .stop) <| .stop) <| .alt 9 (.alt 0 (.alt 1 (.take 2 <| .take 5 <| .tk 2 7 <| .take 10 <| .done) <| .alt 2 (.alt 1 (.take 5 <| .tk 2 7 <| .take 10 <| .done) <| .alt 5 (.alt 1 (.tk 2 7 <| .take 10 <| .done) <| .alt 7 (.take 1 <| .take 8 <| .take 10 <| .done) <| .stop) <| .stop) <| .stop) <| .alt 2 (.alt 0 (.alt 1 (.take 5 <| .tk 2 7 <| .take 10 <| .done) <| .alt 5 (.alt 1 (.tk 2 7 <| .take 10 <| .done) <| .alt 7 (.take 1 <| .take 8 <| .take 10 <| .done) <| .stop) <| .stop) <| .alt 5 (.alt 0 (.alt 1 (.tk 2 7 <| .take 10 <| .done) <| .alt 7 (.take 1 <| .take 8 <| .take 10 <| .done) <| .stop) <| .alt 7 (.tk 2 0 <| .take 8 <| .take 10 <| .done) <| .stop) <| .stop) <| .stop) <| .stop) (by kernel_rfl) ?_
    simp only [clsD, go_sem, List.length_map, flat_cls]
    repeat' apply And.intro
    all_goals first
      | omega
      | (simp only [maxLen]; omega)
      | skip
    all_goals
      refine Wk.pre [1, 2, 3, 7, 8] ?_
      simp only [go_sem]
    all_goals first
      | (refine ⟨_, _, (Weak.freezeIn (σ := σ) 4 1 1 0 ((f.cls ++ more).map isD) rfl (hord ▸ lies_cls (f.cls ++ more)) rfl (by decide)).trans (Weak.keep (σ := σ) [0, 1] (by decide) (Nat.le_refl _) hbd), ?_, ?_⟩
         · simp only [go_sem, stpsD, clsD]
         · simp only [go_sem, List.length_map, List.length_append])
      | (refine ⟨_, _, (Weak.freezeIn (σ := σ) 4 2 1 0 ((f.cls ++ more).map isD) rfl (hord ▸ lies_cls (f.cls ++ more)) rfl (by decide)).trans (Weak.keep (σ := σ) [0, 2] (by decide) (Nat.le_refl _) hbd), ?_, ?_⟩
         · simp only [go_sem, stpsD, clsD]
         · simp only [go_sem, List.length_map, List.length_append])
      | (refine ⟨_, _, (Weak.freezeIn (σ := σ) 4 3 1 0 ((f.cls ++ more).map isD) rfl (hord ▸ lies_cls (f.cls ++ more)) rfl (by decide)).trans (Weak.keep (σ := σ) [0, 3] (by decide) (Nat.le_refl _) hbd), ?_, ?_⟩
         · simp only [go_sem, stpsD, clsD]
         · simp only [go_sem, List.length_map, List.length_append])
      | (refine ⟨_, _, (Weak.freezeIn (σ := σ) 3 4 1 0 ((f.cls ++ more).map isD) rfl (hord ▸ lies_cls (f.cls ++ more)) rfl (by decide)).trans (Weak.keep (σ := σ) [0, 4] (by decide) (Nat.le_refl _) hbd), ?_, ?_⟩
         · simp only [go_sem, stpsD, clsD]
         · simp only [go_sem, List.length_map, List.length_append])
  · rintro fr st ⟨rfl, rfl⟩
    simp only [go_sem]
    refine ac' (rvalid_ac (morF f more) hv (by simp only [morF, List.length_append, reachBytes]; omega) (fun c hc => (List.mem_append.1 hc).elim (h3 c) (h5 c)) _ _ _ ?_)
    cases hvv : validC (morF f more) with
    | false =>
      simp only [go_sem, Try.results13]
      exact ret_d hbd h
    | true =>
    simp only [go_sem, Try.results13]
    refine aw_cut (fun fr st => fr = [.any, .d (stpsD l), .d (clsD more), .ref σ.length 0, .any, .any, .any, db true, .ref (σ.length + 1) 0, .d (stpsD (l.map (mvS f.cls.length more.length))), .any, .any, .any, .any, .any, .any, .any, .any, .any, .any, .any, .any, .any, .any, .any, .any, .any, .any, .any, .any, .any, .any, .any, .any, .any, .any, .any, .any, .any, .any, .any, .any, .any, .any, .any, .any, .any, .any, .any, .any, .any, .any, .any, .any, .any, .any, .any, .any, .any, .any, .any, .any, .any, .any, .any, .any, .any, .any, .any, .any, .any, .any, .any, .any, .any, .any, .any, .any, .any, .any, .any, .any, .any, .any, .any, .any, .any, .any, .any, .any, .any, .any, .any, .any, .any, .any, .any, .any, .any, .any, .any, .any, .any, .any, .any, .any, .any, .any, .any, .any, .any, .any, .any, .any] ∧
      st = σ ++ [some (.cells [.d (iD f.vars), .d (clsD f.cls)]), some (.cells [.d (iD f.vars), .d (clsD (f.cls ++ more))])]) ?_ ?_
    · simp only [stpsD, clsD, go_sem]
      refine aw_loop (fun m fr st => ∃ j : Nat, j ≤ l.length ∧ m = l.length - j ∧ fr = [.any, .d (.sl 2 (l.map stpD)), .d (.sl 1 (more.map isD)), .ref σ.length 0, .any, .any, .any, db true, .ref (σ.length + 1) 0, .rs (σ.length + 2) 2 0 j (some 50), dn j, .any, .any, .any, .any, .any, .any, .any, .any, .any, .any, .any, .any, .any, .any, .any, .any, .any, .any, .any, .any, .any, .any, .any, .any, .any, .any, .any, .any, .any, .any, .any, .any, .any, .any, .any, .any, .any, .any, .any, .any, .any, .any, .any, .any, .any, .any, .any, .any, .any, .any, .any, .any, .any, .any, .any, .any, .any, .any, .any, .any, .any, .any, .any, .any, .any, .any, .any, .any, .any, .any, .any, .any, .any, .any, .any, .any, .any, .any, .any, .any, .any, .any, .any, .any, .any, .any, .any, .any, .any, .any, .any, .any, .any, .any, .any, .any, .any, .any, .any, .any, .any, .any, .any] ∧
        st = σ ++ [some (.cells [.d (iD f.vars), .d (.sl 1 (f.cls.map isD))]), some (.cells [.d (iD f.vars), .d (.sl 1 ((f.cls ++ more).map isD))]), some (.cells (flat (((l.take j).map (mvS f.cls.length more.length)).map stpD)))]) l.length _
        ⟨_, _, (Weak.mask [1, 2, 3, 7, 8, 9, 10]).trans (Weak.empty 9 2 (some 50) rfl), 0, by omega, rfl, by simp [maskN], by simp [flat]⟩ ?_
      rintro m fr st ⟨j, hj, hm, rfl, rfl⟩
      rcases Nat.lt_or_ge j l.length with hlt | hge
      · have hd : decide ((j : Int) < (l.length : Int)) = true := decide_eq_true (by omega)
        have e1 := stpD_getD hlt
        have w2 := wrapS j (by omega)
        have hsj := s4 _ (getD_mem stp0 hlt)
        have hyj := hy _ (getD_mem stp0 hlt)
        have htk := take_snoc stp0 hlt
        have hfl := flat_steps ((l.take j).map (mvS f.cls.length more.length))
        obtain ⟨s, hse⟩ : ∃ s, l.getD j stp0 = s := ⟨_, rfl⟩
        have e1' : List.getD (l.map stpD) j default = .agg [isD s.lits, isD s.hints] := by rw [← hse]; exact e1
        rw [hse] at hsj htk hyj
        simp only [isD, go_sem, List.length_map, hd, e1']
        refine ⟨⟨by omega, by omega⟩, ?_⟩
        refine aw_loop (fun m fr st => ∃ k : Nat, k ≤ s.hints.length ∧ m = s.hints.length - k ∧ fr = [.any, .d (.sl 2 (l.map stpD)), .d (.sl 1 (more.map isD)), .ref σ.length 0, .any, .any, .any, db true, .ref (σ.length + 1) 0, .rs (σ.length + 2) 2 0 j (some 50), dn j, .ref (σ.length + 3) 0, dn k, .any, .any, .any, .any, .any, .any, .any, .any, .any, .any, .any, .any, .any, .any, .any, .any, .any, .any, .any, .any, .any, .any, .any, .any, .any, .any, .any, .any, .any, .any, .any, .any, .any, .any, .any, .any, .any, .any, .any, .any, .any, .any, .any, .any, .any, .any, .any, .any, .any, .any, .any, .any, .any, .any, .any, .any, .any, .any, .any, .any, .any, .any, .any, .any, .any, .any, .any, .any, .any, .any, .any, .any, .any, .any, .any, .any, .any, .any, .any, .any, .any, .any, .any, .any, .any, .any, .any, .any, .any, .any, .any, .any, .any, .any, .any, .any, .any, .any, .any, .any, .any] ∧
          st = σ ++ [some (.cells [.d (iD f.vars), .d (.sl 1 (f.cls.map isD))]), some (.cells [.d (iD f.vars), .d (.sl 1 ((f.cls ++ more).map isD))]), some (.cells (flat (((l.take j).map (mvS f.cls.length more.length)).map stpD))),
            some (.cells [.d (.sl 1 (s.lits.map iD)), .rs (σ.length + 4) 1 0 k (some 3)]), some (.cells (((s.hints.take k).map (mvH f.cls.length more.length)).map fun x => A.d (iD x)))]) s.hints.length _
          ⟨_, _, (Weak.mask [1, 2, 3, 7, 8, 9, 10, 11, 12]).trans (Weak.emptyIn (σ := σ) 3 1 1 (some 3) rfl rfl), 0, by omega, rfl, rfl, rfl⟩ ?_
        rintro m fr st ⟨k, hk, hm, rfl, rfl⟩
        rcases Nat.lt_or_ge k s.hints.length with klt | kge
        · have kd : decide ((k : Int) < (s.hints.length : Int)) = true := decide_eq_true (by omega)
          have e2 : List.getD (List.map iD s.hints) k default = iD (s.hints.getD k 0) := getD_mapD klt
          have w3 := wrapS k (by omega)
          have ktk := take_snoc 0 klt
          obtain ⟨x, hxe⟩ : ∃ x, s.hints.getD k 0 = x := ⟨_, rfl⟩
          rw [hxe] at e2 ktk
          simp only [isD, go_sem, List.length_map, kd, e1', e2, w3, beq_self_eq_true]
          refine ⟨⟨by omega, by omega⟩, ⟨by omega, by omega⟩, ⟨by omega, by omega⟩, fun hb => ⟨⟨by rw [List.length_take]; omega, by simp only [maxLen]; omega, by omega⟩, ?_⟩, fun hb => ⟨⟨by rw [List.length_take]; omega, by simp only [maxLen]; omega, by omega⟩, ?_⟩⟩
          · have hmv : mvH f.cls.length more.length x = IntKind.i64.wrap (x + (more.length : Int)) := if_pos (by simpa using hb)
            refine Wk.keep [1, 2, 3, 7, 8, 9, 10, 11, 12] [0, 1, 2, 3, 6] (by decide) (Nat.le_refl _) hbd ⟨s.hints.length - (k + 1), by omega, k + 1, klt, rfl, by simp only [go_sem], ?_⟩
            simp only [go_sem, ktk, List.map_append, List.map_cons, List.map_nil, hmv, isD]
          · have hmv : mvH f.cls.length more.length x = x := if_neg (by simpa using hb)
            refine Wk.keep [1, 2, 3, 7, 8, 9, 10, 11, 12] [0, 1, 2, 3, 6] (by decide) (Nat.le_refl _) hbd ⟨s.hints.length - (k + 1), by omega, k + 1, klt, rfl, by simp only [go_sem], ?_⟩
            simp only [go_sem, ktk, List.map_append, List.map_cons, List.map_nil, hmv, isD]
        · have kd : decide ((k : Int) < (s.hints.length : Int)) = false := decide_eq_false (by omega)
          have ktk : s.hints.take k = s.hints := List.take_of_length_le kge
          simp only [isD, go_sem, List.length_map, kd, e1', w2, ktk]
          refine ⟨⟨by omega, by omega⟩, ⟨by rw [hfl, List.length_map, List.length_take]; omega, by simp only [maxLen]; omega, by omega⟩, ?_⟩
          rw [show k = s.hints.length by omega]
          refine Wk.pre [1, 2, 3, 7, 8, 9, 10] ?_
          simp only [go_sem]
          refine ⟨_, _, (Weak.freezeIn (σ := σ) 4 6 1 0 ((s.hints.map (mvH f.cls.length more.length)).map iD) rfl (lies_ints _) rfl (by decide)).trans (Weak.keep (σ := σ) [0, 1, 6] (by decide) (Nat.le_refl _) hbd), l.length - (j + 1), by omega, j + 1, hlt, rfl, ?_, ?_⟩
          · simp only [go_sem, false_and, ↓reduceIte]
          · simp only [go_sem, List.length_map, frzL_append, frzL_flat, htk, List.map_append, flat_append, List.map_cons, List.map_nil]
            rfl
      · have hd : decide ((j : Int) < (l.length : Int)) = false := decide_eq_false (by omega)
        have htk : l.take j = l := List.take_of_length_le hge
        simp only [go_sem, List.length_map, hd, htk]
        rw [show j = l.length by omega]
        refine Wk.pre [1, 2, 3, 7, 8, 9] ?_
        simp only [go_sem]
        refine Wk.frz 2 2 0 ((l.map (mvS f.cls.length more.length)).map stpD) rfl (lies_of (stp_cells _)) ?_
        simp only [go_sem, List.length_map]
        exact Wk.keep [1, 2, 3, 7, 8, 9] [0, 1] (by decide) (Nat.le_refl _) hbd ⟨by simp only [go_sem], by simp only [go_sem]⟩
    · rintro fr st ⟨rfl, rfl⟩
      simp only [go_sem]
      refine ac' (check_ac f l hf _ _ _ ?_)
      have hff : Fine2 (morF f more) (l.map (mvS f.cls.length more.length)) := by
        refine ⟨⟨hv, by rw [morF, List.length_append]; omega, fun c hc => ?_, by rw [List.length_map]; omega, fun t ht => ?_⟩, fun t ht => ?_⟩
        · exact (List.mem_append.1 hc).elim (h3 c) (h5 c)
        · obtain ⟨s, hs', rfl⟩ := List.mem_map.1 ht
          have := s4 s hs'
          exact ⟨by simp only [mvS]; omega, by simp only [mvS, List.length_map]; omega, hx s hs'⟩
        · obtain ⟨s, hs', rfl⟩ := List.mem_map.1 ht
          have := s4 s hs'
          simp only [mvS]; omega
      have he := more_eq (f := f) (l := l) (more := more) (by omega) (by omega) (by omega) hx hy hvv
      obtain ⟨⟨q1, q2⟩, hq⟩ : ∃ q, chk (goodR f) f l = q := ⟨_, rfl⟩
      rw [hq] at he ⊢
      simp only [go_sem]
      refine ac' (check_ac (morF f more) (l.map (mvS f.cls.length more.length)) hff _ _ _ ?_)
      rw [he]
      simp only [go_sem, beq_self_eq_true, Try.results13]
      exact ret_d hbd h
end Go.Proofs.Ytpmjdaiboniagaa
