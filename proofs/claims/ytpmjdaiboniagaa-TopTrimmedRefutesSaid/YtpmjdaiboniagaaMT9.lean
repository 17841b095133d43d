import Derived.Test.YtpmjdaiboniagaaMT8
import Derived.Test.YtpmjdaiboniagaaRA
import Derived.Test.YtpmjdaiboniagaaMT1

section PartV7
/- TopTrimmedRefutes, evaluated. -/
set_option linter.unusedSimpArgs false
set_option linter.unusedVariables false
set_option maxRecDepth 100000
namespace Go.Proofs.Ytpmjdaiboniagaa
open Go Go.Ab

theorem trimS_mem {n : Nat} {nb : List Bool} : ∀ {l : List Stp} {k : Nat} {nums : List Int} {res : List Stp}, ∀ t ∈ trimS n nb l k nums res, t ∈ res ∨ ∃ s ∈ l, t.lits = s.lits ∧ t.hints.length = s.hints.length
  | [], _, _, _, t, h => .inl h
  | s :: l, k, nums, res, t, h => by
    rw [trimS] at h
    split at h
    · rcases trimS_mem t h with q | ⟨u, hu, e⟩
      · rcases List.mem_append.1 q with q | q
        · exact .inl q
        · rw [List.mem_singleton] at q
          subst q
          exact .inr ⟨s, by simp, rfl, by simp⟩
      · exact .inr ⟨u, List.mem_cons_of_mem _ hu, e⟩
    · rcases trimS_mem t h with q | ⟨u, hu, e⟩
      · exact .inl q
      · exact .inr ⟨u, List.mem_cons_of_mem _ hu, e⟩
theorem steps_of_good {f : Cnf} : ∀ {l : List Stp} {pre : List Stp}, (∀ i, i < l.length → goodR f (pre ++ l.take i) (l.getD i stp0) = true) → stepsOk f.vars (f.cls.length + pre.length) l = true
  | [], _, _ => rfl
  | s :: l, pre, h => by
    have h0 := h 0 (by simp)
    simp only [List.take_zero, List.append_nil, List.getD_cons_zero, goodR, Bool.and_eq_true] at h0
    rw [stepsOk, Bool.and_eq_true]
    refine ⟨h0.1, ?_⟩
    have := steps_of_good (f := f) (l := l) (pre := pre ++ [s]) fun i hi => by
      have := h (i + 1) (by simpa using hi)
      simpa using this
    rw [List.length_append, List.length_singleton] at this
    rw [Nat.add_assoc]; exact this
set_option maxHeartbeats 4000000 in
theorem law18_ac (f : Cnf) (l : List Stp) (v : List Bool) (h1 : f.cls.length ≤ reachBytes) (h3 : ∀ c ∈ f.cls, c.length ≤ reachBytes) (hv : I64 f.vars) (h2 : l.length ≤ reachBytes) (hx : ∀ s ∈ l, ∀ x ∈ s.lits, I64 x) (hvl : v.length ≤ reachBytes) (σ : St) (G : Glob) (R : A → St → Prop) (h : R (db true) σ) : AC Try.prog G 18 [.d (cnfD f), .d (stpsD l), .d (bsD v)] σ R := by
  refine ac_enter mixed Try.func18 rfl Try.ntmps18 (by simp only [go_sem]) fun hbd => ?_
  simp only [List.length_cons, List.length_nil, Nat.reduceAdd, Nat.reduceSub, List.replicate_succ, List.replicate_zero, List.cons_append, List.nil_append]
  simp only [cnfD, go_sem]
  refine ac' (refuted50_ac _ _ _ ?_)
  simp only [go_sem]
  refine ac' (few51_ac f h1 h3 _ _ _ ?_)
  cases hfew : fewB f with
  | false =>
    simp only [stpsD, bsD, go_sem, List.length_map, Try.results18]
    exact ret_d hbd h
  | true =>
  simp only [stpsD, bsD, go_sem, List.length_map, Try.results18]
  refine ⟨fun _ => ret_d hbd h, fun q => ?_⟩
  have hq : ¬ (60 : Int) < l.length ∧ ¬ (100 : Int) < v.length := by simpa using q
  obtain ⟨hl60, hv100⟩ := hq
  refine aw_loop (fun m fr st => ∃ k : Nat, m = l.length - k ∧ k ≤ l.length ∧ (∀ i, i < k → (l.getD i stp0).lits.length ≤ 12 ∧ (l.getD i stp0).hints.length ≤ 40) ∧ fr = [.any, .d (.sl 2 (l.map stpD)), .d (.sl 1 (v.map .bool)), .ref σ.length 0, .any, .any, .any, db true, dn k, .any, .any, .any, .any, .any, .any, .any, .any, .any, .any, .any, .any, .any, .any, .any, .any, .any, .any, .any, .any, .any, .any, .any, .any, .any, .any, .any, .any, .any, .any, .any, .any, .any, .any, .any, .any, .any, .any, .any, .any, .any, .any, .any, .any, .any, .any, .any, .any, .any, .any, .any, .any, .any, .any, .any, .any, .any, .any, .any, .any, .any, .any, .any, .any, .any, .any, .any, .any, .any, .any, .any, .any, .any, .any, .any, .any, .any, .any, .any, .any, .any, .any, .any, .any, .any, .any, .any, .any, .any, .any, .any, .any, .any, .any, .any, .any, .any, .any, .any, .any, .any, .any, .any, .any, .any, .any, .any, .any, .any, .any, .any, .any, .any, .any, .any, .any, .any, .any, .any, .any, .any, .any, .any, .any, .any, .any, .any, .any, .any, .any, .any, .any, .any, .any, .any, .any, .any, .any] ∧ st = σ ++ [some (.cells [.d (iD f.vars), .d (clsD f.cls)])]) l.length _
    (Wk.mask [1, 2, 3, 7, 8] ⟨0, rfl, by omega, fun i hi => by omega, rfl, rfl⟩) ?_
  rintro m fr st ⟨k, hm, hk, hsm, rfl, rfl⟩
  rcases Nat.lt_or_ge k l.length with hlt | hge
  · have hd : decide ((k : Int) < (l.length : Int)) = true := decide_eq_true (by omega)
    have w2 := wrapS k (by omega)
    have e2 := stpD_getD hlt
    obtain ⟨s, hse⟩ : ∃ s, l.getD k ⟨[], []⟩ = s := ⟨_, rfl⟩
    rw [hse] at e2
    simp only [isD] at e2
    simp only [go_sem, List.length_map, hd, e2, w2, Try.results18]
    have next : s.lits.length ≤ 12 ∧ s.hints.length ≤ 40 → ∀ i, i < k + 1 → (l.getD i stp0).lits.length ≤ 12 ∧ (l.getD i stp0).hints.length ≤ 40 := fun hs i hi => by
      by_cases e : i = k
      · subst e; rw [show l.getD i stp0 = s from hse]; exact hs
      · exact hsm i (by omega)
    refine ⟨⟨by omega, by omega⟩, fun q => ⟨q, by omega, by omega⟩, fun _ => ret_d hbd h, fun q => ?_⟩
    have q' : s.lits.length ≤ 12 ∧ s.hints.length ≤ 40 := by
      simp only [Bool.or_eq_false_iff, decide_eq_false_iff_not] at q; omega
    exact Wk.mask [1, 2, 3, 7, 8] ⟨l.length - (k + 1), by omega, k + 1, rfl, hlt, next q', rfl, rfl⟩
  · have hd : decide ((k : Int) < (l.length : Int)) = false := decide_eq_false (by omega)
    have hk' : k = l.length := by omega
    subst hk'
    simp only [go_sem, List.length_map, hd, Try.results18]
    have hf40 := hfew
    simp only [fewB, Bool.and_eq_true, Bool.not_eq_true', decide_eq_false_iff_not, List.all_eq_true] at hf40
    have hsmem : ∀ s ∈ l, s.lits.length ≤ 12 ∧ s.hints.length ≤ 40 := fun s hs => by
      obtain ⟨i, hi, rfl⟩ := List.getElem_of_mem hs
      have := hsm i hi
      simpa only [List.getD_eq_getElem?_getD, List.getElem?_eq_getElem hi, Option.getD_some] using this
    have hfi : Fine2 f l := ⟨⟨hv, by omega, h3, by omega, fun s hs => ⟨by have := hsmem s hs; omega, by have := hsmem s hs; omega, hx s hs⟩⟩, fun s hs => (hsmem s hs).1⟩
    refine ac' (rcheck_ac f l hfi.toFine _ _ _ ?_)
    cases hvv : validC f with
    | false =>
      rw [show chk (goodR f) f l = (-1, 210) by rw [chk, if_pos (by simp [hvv])]]
      simp only [go_sem, List.length_map, Try.results18]
      exact ⟨fun _ => ret_d hbd h, fun q => absurd q (by simp)⟩
    | true =>
    rcases chk_cases (l := l) hvv (by omega) with ⟨hck, hgood⟩ | ⟨n, hck, _⟩
    · rw [hck]
      have hst : stepsOk f.vars f.cls.length l = true := steps_of_good (pre := []) fun i hi => by simpa using hgood i hi
      simp only [go_sem, List.length_map, Try.results18]
      refine ⟨fun _ => ret_d hbd h, fun q => ?_⟩
      have hl0 : 0 < l.length := by
        rcases Nat.eq_zero_or_pos l.length with e | e
        · simp [e] at q
        · exact e
      obtain ⟨t1, t2, t3, t4⟩ := trim_good hvv (by omega) hl0 hst hgood
      have htm : ∀ t ∈ trimL f l, ∃ s ∈ l, t.lits = s.lits ∧ t.hints.length = s.hints.length := fun t ht => (trimS_mem t ht).resolve_left (by simp)
      have hft : Fine2 f (trimL f l) := ⟨⟨hv, by omega, h3, by omega, fun t ht => by
          obtain ⟨s, hs, e1, e2⟩ := htm t ht
          have := hsmem s hs
          exact ⟨by rw [e1]; omega, by omega, by rw [e1]; exact hx s hs⟩⟩, fun t ht => by
          obtain ⟨s, hs, e1, e2⟩ := htm t ht
          rw [e1]; exact (hsmem s hs).1⟩
      refine ac' (trim_ac f l hv (by omega) (by omega) (fun s hs => ⟨(hsmem s hs).1, by have := hsmem s hs; omega⟩) hst (by omega) _ _ _ ?_)
      obtain ⟨t, ht⟩ : ∃ t, trimL f l = t := ⟨_, rfl⟩
      rw [ht] at t1 t2 t3 t4 hft ⊢
      simp only [stpsD, go_sem, List.length_map, Try.results18]
      refine ac' (check_ac f t hft _ _ _ ?_)
      rw [t3]
      have e1 := stpD_getD (l := t) (j := t.length - 1) (by omega)
      have e2 := stpD_getD (l := l) (j := l.length - 1) (by omega)
      simp only [isD] at e1 e2
      have w1 : IntKind.i64.wrap ((t.length : Int) - 1) = ((t.length - 1 : Nat) : Int) := by rw [wrap64_id _ (by omega) (by omega)]; omega
      have w2 : IntKind.i64.wrap ((l.length : Int) - 1) = ((l.length - 1 : Nat) : Int) := by rw [wrap64_id _ (by omega) (by omega)]; omega
      have d1 : ((0 : Int) != 0) = false := rfl
      have d2 : ((-1 : Int) != -1) = false := rfl
      have d3 : ((t.length : Int) == 0) = false := by rw [beq_eq_false_iff_ne]; omega
      have d4 : decide ((l.length : Int) < (t.length : Int)) = false := decide_eq_false (by omega)
      obtain ⟨A, hA⟩ : ∃ A, (l.getD (l.length - 1) stp0).lits = A := ⟨_, rfl⟩
      rw [show (l.getD (l.length - 1) ⟨[], []⟩).lits = A from hA] at e2
      rw [hA] at t4
      rw [show (t.getD (t.length - 1) ⟨[], []⟩).lits = A from t4] at e1
      simp only [stpsD, isD, bsD, go_sem, List.length_map, w1, w2, d1, d2, d3, d4, e1, e2, Try.results18]
      have hA12 : A.length ≤ 12 := by rw [← hA]; exact (hsm _ (by omega)).1
      refine ⟨⟨by omega, by omega⟩, ⟨by omega, by omega⟩, ex' (.bool true) ⟨fun _ => ?_, ?_⟩⟩
      · simp only [go_sem]
        exact ac' (same_ac A A (by simp only [reachBytes]; omega) (by simp only [reachBytes]; omega) _ _ _ (by simp))
      have hrf : refutes (-1, 0) t = ((A.length : Int) == 0) := by
        rw [refutes, show (t.getD (t.length - 1) ⟨[], []⟩).lits = A from t4]
        simp; omega
      simp only [stpsD, isD, bsD, go_sem, List.length_map, w1, w2, d1, d2, d3, d4, e1, e2, Try.results18]
      have hrt := fun st => refutes_ac f t hft st G (fun r s => r = .d (.bool ((A.length : Int) == 0)) ∧ s = st) (by rw [t3, hrf]; exact ⟨rfl, rfl⟩)
      refine ⟨⟨by omega, by omega⟩, ex' (.bool ((A.length : Int) == 0)) ⟨fun _ => ?_, ?_⟩⟩
      · simp only [go_sem]
        exact ac' (hrt _)
      have hsnd := fun hr => refuted_sound (f := f) (l := l) (v := v) (by omega) hvv hx hr
      have hrl : refutes (chk (goodR f) f l) l = ((A.length : Int) == 0) := by
        rw [hck, refutes, show (l.getD (l.length - 1) ⟨[], []⟩).lits = A from hA]
        simp; omega
      rw [hrl] at hsnd
      simp only [stpsD, isD, bsD, go_sem, List.length_map, beq_self_eq_true, w1, w2, d1, d2, d3, d4, e1, e2, Try.results18]
      cases hA0 : ((A.length : Int) == 0) with
      | false =>
        refine ex' (.bool true) ⟨fun q => Bool.noConfusion q, ?_⟩
        simp only [stpsD, isD, bsD, go_sem, List.length_map, beq_self_eq_true, Try.results18]
        exact ret_d hbd h
      | true =>
        refine ex' (.bool false) ⟨fun _ => ?_, ?_⟩
        · simp only [go_sem]
          refine ac' (eval_ac f v hv h1 h3 _ _ _ ?_)
          rw [hsnd hA0, hvv]
          exact ⟨rfl, rfl⟩
        simp only [stpsD, isD, bsD, go_sem, List.length_map, beq_self_eq_true, Try.results18]
        exact ret_d hbd h
    · rw [hck]
      simp only [go_sem, List.length_map, Try.results18]
      exact ⟨fun _ => ret_d hbd h, fun q => absurd q (by simp)⟩
end Go.Proofs.Ytpmjdaiboniagaa
end PartV7

section PartR18
/- TopTrimmedRefutes: the law answers true for every input, and leaves its input as it was. No condition. -/
set_option maxRecDepth 100000
set_option linter.unusedSimpArgs false
set_option linter.unusedVariables false
namespace Go.Proofs.Ytpmjdaiboniagaa
open Go Go.Ab Go.RowKit Go.ChangeShapes Go.WideShapes
theorem liftedTopTrimmedRefutes (os : Os) (started : os.Started) (H : Type) (enc : TypeId × Value → H) :
    ReturnsInHanded {} Try.checked os 18 .any (Rows.topTrimmedRefutesSpec.pre6 enc Try.prog Try.f18 [] false) (Rows.topTrimmedRefutesSpec.post enc Try.prog Try.f18 false true false false) := by
  refine returns_plain (C := Try.checked) own started (by kernel_rfl) Try.func18 (ChangeSpec.witness6 (enc := enc) (C := Try.checked) false ⟨#[], #[.agg #[.int .i64 0, .slice none 0 0], .slice none 0 0, .slice none 0 0], []⟩ 8 (by kernel_rfl) (by kernel_rfl) (by kernel_rfl) (by kernel_rfl)) ?_
  intro W base args ds gs before hval hW hz
  refine calls_true (G := fun _ => none) (S := [3, 4, 25, 35, 22, 24, 44, 50]) (tb := 4) hW hval (by kernel_rfl) (by rw [Try.params18]; kernel_rfl) (by kernel_rfl) (by rw [Try.params18]; kernel_rfl) rfl (by kernel_rfl) Try.underlying4 (fun ds hds => ?_) (fun g x h => by cases h) hz (fun xs hx => ?_)
  · rw [Try.params18] at hds
    match ds, hds with
    | [d0, d1, d2], _ => rfl
  · skip
    rw [Try.params18] at hx
    generalize args.toList = vs at hx
    cases hx with
    | cons h0 _ hx =>
      obtain ⟨n0, h0⟩ := h0
      obtain ⟨x0, rfl, k0⟩ := dty_cnf h0
      cases hx with
      | cons h1 _ hx =>
        obtain ⟨n1, h1⟩ := h1
        obtain ⟨x1, rfl, k1⟩ := dty_stps h1
        cases hx with
        | cons h2 _ hx =>
          obtain ⟨n2, h2⟩ := h2
          obtain ⟨x2, rfl, k2⟩ := dty_bools h2
          cases hx
          exact law18_ac x0 x1 x2 k0.2.1 (fun c hc => (k0.2.2 c hc).1) k0.1 k1.1 (fun s hs => (k1.2 s hs).1.2) k2 [] _ _ rfl
theorem closedTopTrimmedRefutes : joinedFacts Try.prog 18 Try.f18 Rows.topTrimmedRefutesSpec Rows.topTrimmedRefutesRow = true := by
  rw [joinedFacts, mayEnter, liftsFinal, makes]
  kernel_rfl
theorem topTrimmedRefutes_holds : Rows.TopTrimmedRefutesSaid :=
  OpenClaim.holds_of_wide 18 Try.f18 rfl rfl rfl rfl rfl rfl rfl ⟨rfl, rfl, rfl, rfl, rfl⟩ rfl rfl rfl rfl rfl (by kernel_rfl) Try.func18 closedTopTrimmedRefutes
    (of_decide_eq_true (by kernel_rfl)) (by unfold Func.isWrapper; first | (rw [if_pos (by decide +kernel)]; kernel_rfl) | (rw [if_neg (by decide +kernel)]; exact ⟨rfl, rfl⟩))
    (fun os started H enc _ => liftedTopTrimmedRefutes os started H enc)
#print axioms topTrimmedRefutes_holds
end Go.Proofs.Ytpmjdaiboniagaa
end PartR18
