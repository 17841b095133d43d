/- CheckerSound, evaluated. -/
import Derived.Test.YtpmjdaiboniagaaC17
import Derived.Test.YtpmjdaiboniagaaC18
set_option linter.unusedSimpArgs false
set_option linter.unusedVariables false
set_option maxRecDepth 100000
namespace Go.Proofs.Ytpmjdaiboniagaa
open Go Go.Ab

theorem eval_ac (f : Cnf) (v : List Bool) (hv : I64 f.vars) (hn : f.cls.length ≤ reachBytes) (hc : ∀ c ∈ f.cls, c.length ≤ reachBytes) (σ : St) (G : Glob) (R : A → St → Prop) (h : R (db (validC f && evalC f v)) σ) : AC Try.prog G 29 [.d (cnfD f), .d (bsD v)] σ R := by
  refine ac_enter mixed Try.func29 rfl Try.ntmps29 (by simp only [go_sem]) fun hbd => ?_
  simp only [List.length_cons, List.length_nil, Nat.reduceAdd, Nat.reduceSub, List.replicate_succ, List.replicate_zero, List.cons_append, List.nil_append]
  simp only [cnfD, clsD, bsD, go_sem]
  refine ac' (rvalid_ac f hv hn hc _ _ _ ?_)
  simp only [go_sem, Try.results29]
  refine ⟨fun hb => ret_d hbd ?_, fun hb => ?_⟩
  · simp only [Bool.not_eq_true'] at hb
    rw [hb] at h; exact h
  simp only [Bool.not_eq_false'] at hb
  rw [hb, Bool.true_and, evalC] at h
  obtain ⟨hv1, hv2⟩ := validC_iff.1 hb
  simp only [reachBytes] at hn hc
  refine aw_loop (fun m fr st => ∃ j : Nat, j ≤ f.cls.length ∧ m = f.cls.length - j ∧ R (db ((f.cls.drop j).all fun c => c.any (holdsL v))) σ ∧ fr = [.any, .d (.sl 1 (v.map .bool)), .ref σ.length 0, .any, .any, dn j, .any, .any, .any, .any, .any, .any, .any, .any, .any, .any, .any, .any, .any, .any, .any, .any, .any, .any] ∧ st = σ ++ [some (.cells [.d (iD f.vars), .d (.sl 1 (f.cls.map isD))])]) f.cls.length _
    (Wk.mask [1, 2, 5] ⟨0, by omega, rfl, h, rfl, rfl⟩) ?_
  clear h
  rintro m fr st ⟨j, hj, hm, hR, rfl, rfl⟩
  rcases Nat.lt_or_ge j f.cls.length with hlt | hge
  · have hd : decide ((j : Int) < (f.cls.length : Int)) = true := decide_eq_true (by omega)
    have e1 := isD_getD hlt
    have w2 := wrapS j (by omega)
    have hm' := getD_mem ([] : List Int) hlt
    have hcj := hc _ hm'
    have hvj := hv2 _ hm'
    rw [drop_getD [] hlt, List.all_cons] at hR
    simp only [go_sem, List.length_map, hd, e1, w2]
    refine ⟨⟨by omega, by omega⟩, ac' (holds_ac _ v (by simp only [reachBytes]; omega) (fun l hl => by have := hvj l hl; omega) _ _ _ ?_)⟩
    simp only [go_sem, List.length_map, w2, Try.results29]
    refine ⟨fun hb => ret_d hbd ?_, fun hb => Wk.mask [1, 2, 5] ⟨f.cls.length - (j + 1), by omega, j + 1, hlt, rfl, ?_, rfl, rfl⟩⟩
    · simp only [Bool.not_eq_true'] at hb
      rw [hb] at hR; exact hR
    · simp only [Bool.not_eq_false'] at hb
      rw [hb, Bool.true_and] at hR; exact hR
  · have hd : decide ((j : Int) < (f.cls.length : Int)) = false := decide_eq_false (by omega)
    simp only [go_sem, List.length_map, hd, Try.results29]
    rw [List.drop_eq_nil_of_le hge] at hR
    exact ret_d hbd hR
theorem bits_ac' (n : Nat) (vars : Int) (hn : n ≤ 1000000) (hv : 0 ≤ vars) (hv2 : vars ≤ 1000000) (σ : St) (G : Glob) (R : A → St → Prop) (h : R (.d (bsD (bitsL n vars.toNat))) σ) : AC Try.prog G 44 [dn n, di vars] σ R := by
  obtain ⟨w, rfl⟩ := Int.eq_ofNat_of_zero_le hv
  exact bits_ac n w hn (by omega) σ G R h
theorem law11_ac (f : Cnf) (l : List Stp) (h1 : f.cls.length ≤ reachBytes) (h2 : l.length ≤ reachBytes) (h3 : ∀ c ∈ f.cls, c.length ≤ reachBytes) (hv : I64 f.vars) (hx : ∀ s ∈ l, ∀ x ∈ s.lits, I64 x) (σ : St) (G : Glob) (R : A → St → Prop) (h : R (db true) σ) : AC Try.prog G 11 [.d (cnfD f), .d (stpsD l)] σ R := by
  refine ac_enterC [10] mixed Try.func11 rfl Try.ntmps11 (by simp only [go_sem]) fun hbd => ?_
  simp only [List.length_cons, List.length_nil, Nat.reduceAdd, Nat.reduceSub, List.replicate_succ, List.replicate_zero, List.cons_append, List.nil_append]
  simp only [cnfD, go_sem]
  refine ac' (chead_ac _ _ _ ?_)
  simp only [go_sem]
  refine ac' (small_ac f l h1 h2 _ _ _ ?_)
  cases hs : smallC f l with
  | false =>
    simp only [go_sem]
    refine ex' (.bool false) ⟨fun hc => Bool.noConfusion hc, ?_⟩
    simp only [go_sem, Try.results11]
    exact ret_d hbd h
  | true =>
  simp only [go_sem]
  refine ex' (.bool (validC f)) ⟨fun hc => ?_, ?_⟩
  · simp only [go_sem]
    exact ac' (rvalid_ac f hv h1 h3 _ _ _ ⟨rfl, rfl⟩)
  cases hvv : validC f with
  | false =>
    simp only [go_sem, Try.results11]
    exact ret_d hbd h
  | true =>
  simp only [go_sem, Try.results11]
  refine ⟨fun hs => ret_d hbd h, fun hv8 => ?_⟩
  simp only [decide_eq_false_iff_not] at hv8
  have hf := fine2_of hs hv hx
  have hl := hf.steps
  obtain ⟨⟨hv0, hv1, hv2⟩, hv3⟩ := validC_iff.1 hvv
  refine ac' (check_ac f l hf _ _ _ ?_)
  have hch := chk_cases (l := l) hvv (by omega)
  have hrs : refutes (chk (goodR f) f l) l = true → ∀ v, evalC f v = false := fun h v => refuted_sound (by omega) hvv hx h
  obtain ⟨w, hw⟩ : ∃ w : Nat, f.vars.toNat = w := ⟨_, rfl⟩
  have hD : D.agg [iD f.vars, clsD f.cls] = cnfD f := rfl
  obtain ⟨⟨q1, q2⟩, hq⟩ : ∃ q, chk (goodR f) f l = q := ⟨_, rfl⟩
  simp only [hq, stpsD, go_sem, List.length_map]
  refine aw_cut (fun fr st => ∃ n : Nat, n ≤ l.length ∧ (∀ i, i < n → goodR f (l.take i) (l.getD i stp0) = true) ∧ fr = [.any, .d (.sl 2 (l.map stpD)), .ref σ.length 0, .any, .any, db true, .any, .any, dn n, .any, .any, .any, .any, .any, .any, .any, .any, .any, .any, .any, .any, .any, .any, .any, .any, .any, .any, .any, .any, .any, .any, .any, .any, .any, .any, .any, .any, .any, .any, .any, .any, .any, .any, .any, .any, .any, .any, .any, .any, .any, .any, .any, .any, .any, .any, .any, .any, .any, .any, .any, .any, .any, .any, .any, .any, .any, .any, .any, .any, .any, .any, .any, .any, .any, .any, .any, .any, .any, .any, .any, .any, .any, .any] ∧ st = σ ++ [some (.cells [.d (iD f.vars), .d (clsD f.cls)])]) ?_ ?_
  · rw [hq] at hch
    rcases hch with ⟨hc, hg⟩ | ⟨n, hc, hn, -, hg⟩
    · simp only [Prod.mk.injEq] at hc
      obtain ⟨rfl, rfl⟩ := hc
      simp only [go_sem, show ((0 : Int) == 260) = false from rfl, bne_self_eq_false]
      exact Wk.mask [1, 2, 5, 8] ⟨l.length, Nat.le_refl _, hg, rfl, rfl⟩
    · simp only [Prod.mk.injEq] at hc
      obtain ⟨rfl, rfl⟩ := hc
      simp only [go_sem, beq_self_eq_true]
      exact Wk.mask [1, 2, 5, 8] ⟨n, by omega, hg, rfl, rfl⟩
  · rintro fr st ⟨n, hn, hg, rfl, rfl⟩
    have d1 : decide ((n : Int) < 0) = false := decide_eq_false (by omega)
    have d2 : decide ((l.length : Int) < (n : Int)) = false := decide_eq_false (by omega)
    simp only [go_sem, List.length_map, d1, d2]
    refine ac' (refutes_ac f l hf _ _ _ ?_)
    obtain ⟨b, hb⟩ : ∃ b, refutes (chk (goodR f) f l) l = b := ⟨_, rfl⟩
    rw [hb] at hrs ⊢
    have hw8 : w ≤ 8 := by omega
    have hpow : 2 ^ w ≤ 256 := by
      have : 2 ^ w ≤ 2 ^ 8 := Nat.pow_le_pow_right (by decide) hw8
      exact this
    have w1 : IntKind.i64.wrap (1 * 2 ^ min f.vars.toNat 64) = ((2 ^ w : Nat) : Int) := by
      have e2 : (1 : Int) * 2 ^ w = ((2 ^ w : Nat) : Int) := by simp
      rw [hw, Nat.min_eq_left (by omega), e2]
      generalize 2 ^ w = p at hpow
      exact wrap64_id _ (by omega) (by omega)
    simp only [go_sem]
    refine aw_loop (fun m fr st => ∃ k : Nat, m = 2 ^ w - k ∧ k ≤ 2 ^ w ∧ fr = [.any, .d (.sl 2 (l.map stpD)), .ref σ.length 0, .any, .any, db true, .any, .any, dn n, db b, dn k, .any, .any, .any, .any, .any, .any, .any, .any, .any, .any, .any, .any, .any, .any, .any, .any, .any, .any, .any, .any, .any, .any, .any, .any, .any, .any, .any, .any, .any, .any, .any, .any, .any, .any, .any, .any, .any, .any, .any, .any, .any, .any, .any, .any, .any, .any, .any, .any, .any, .any, .any, .any, .any, .any, .any, .any, .any, .any, .any, .any, .any, .any, .any, .any, .any, .any, .any, .any, .any, .any, .any, .any] ∧ st = σ ++ [some (.cells [.d (iD f.vars), .d (clsD f.cls)])]) (2 ^ w) _
      (Wk.mask [1, 2, 5, 8, 9, 10] ⟨0, rfl, Nat.zero_le _, rfl, rfl⟩) ?_
    rintro m fr st ⟨k, hm, hk, rfl, rfl⟩
    have hbits : IntKind.bits .i64 = 64 := rfl
    rcases Nat.lt_or_ge k (2 ^ w) with hlt | hge
    · have hd : decide ((k : Int) < ((2 ^ w : Nat) : Int)) = true := decide_eq_true (by omega)
      have w2 := wrapS k (by omega)
      simp only [go_sem, hbits, w1, hd, w2]
      refine ⟨by omega, ac' (bits_ac' k f.vars (by omega) hv0 (by omega) _ _ _ ?_)⟩
      generalize bitsL (k : Int) f.vars.toNat = v
      simp only [go_sem, hD]
      refine ac' (eval_ac f v hv h1 h3 _ _ _ ?_)
      rw [hvv, Bool.true_and]
      have next : ∀ (fr : Fr), maskN [1, 2, 5, 8, 9, 10] 0 fr = [.any, .d (.sl 2 (l.map stpD)), .ref σ.length 0, .any, .any, db true, .any, .any, dn n, db b, dn (k + 1), .any, .any, .any, .any, .any, .any, .any, .any, .any, .any, .any, .any, .any, .any, .any, .any, .any, .any, .any, .any, .any, .any, .any, .any, .any, .any, .any, .any, .any, .any, .any, .any, .any, .any, .any, .any, .any, .any, .any, .any, .any, .any, .any, .any, .any, .any, .any, .any, .any, .any, .any, .any, .any, .any, .any, .any, .any, .any, .any, .any, .any, .any, .any, .any, .any, .any, .any, .any, .any, .any, .any, .any] → Wk G σ.length (fun g s => ∃ m', m' < m ∧ ∃ k : Nat, m' = 2 ^ w - k ∧ k ≤ 2 ^ w ∧ g = [.any, .d (.sl 2 (l.map stpD)), .ref σ.length 0, .any, .any, db true, .any, .any, dn n, db b, dn k, .any, .any, .any, .any, .any, .any, .any, .any, .any, .any, .any, .any, .any, .any, .any, .any, .any, .any, .any, .any, .any, .any, .any, .any, .any, .any, .any, .any, .any, .any, .any, .any, .any, .any, .any, .any, .any, .any, .any, .any, .any, .any, .any, .any, .any, .any, .any, .any, .any, .any, .any, .any, .any, .any, .any, .any, .any, .any, .any, .any, .any, .any, .any, .any, .any, .any, .any, .any, .any, .any, .any, .any] ∧ s = σ ++ [some (.cells [.d (iD f.vars), .d (clsD f.cls)])]) fr (σ ++ [some (.cells [.d (iD f.vars), .d (clsD f.cls)])]) := fun fr hfr =>
        Wk.mask [1, 2, 5, 8, 9, 10] ⟨2 ^ w - (k + 1), by omega, k + 1, rfl, by omega, hfr, rfl⟩
      cases he : evalC f v with
      | false =>
        simp only [go_sem, w2]
        exact next _ rfl
      | true =>
      have hb0 : b = false := by
        cases b with
        | false => rfl
        | true => have := hrs rfl v; rw [he] at this; cases this
      subst hb0
      have hss := steps_sound hn hvv hx he hg
      simp only [go_sem]
      refine aw_loop (fun m fr st => ∃ j : Nat, j ≤ n ∧ m = n - j ∧ fr = [.any, .d (.sl 2 (l.map stpD)), .ref σ.length 0, .any, .any, db true, .any, .any, dn n, db false, dn k, .d (bsD v), dn j, .any, .any, .any, .any, .any, .any, .any, .any, .any, .any, .any, .any, .any, .any, .any, .any, .any, .any, .any, .any, .any, .any, .any, .any, .any, .any, .any, .any, .any, .any, .any, .any, .any, .any, .any, .any, .any, .any, .any, .any, .any, .any, .any, .any, .any, .any, .any, .any, .any, .any, .any, .any, .any, .any, .any, .any, .any, .any, .any, .any, .any, .any, .any, .any, .any, .any, .any, .any, .any, .any] ∧ st = σ ++ [some (.cells [.d (iD f.vars), .d (clsD f.cls)])]) n _
        (Wk.mask [1, 2, 5, 8, 9, 10, 11, 12] ⟨0, by omega, rfl, rfl, rfl⟩) ?_
      rintro m' fr st ⟨j, hj, hm', rfl, rfl⟩
      rcases Nat.lt_or_ge j n with jlt | jge
      · have jd : decide ((j : Int) < (n : Int)) = true := decide_eq_true (by omega)
        have e1 := stpD_getD (l := l) (j := j) (by omega)
        have w3 := wrapS j (by omega)
        have hmem := getD_mem stp0 (show j < l.length by omega)
        have hr := good_range hvv (hx _ hmem) (hg j jlt)
        have hlen := hf.lits _ hmem
        have hh := hss j jlt
        simp only [go_sem, List.length_map, jd, e1, w3]
        refine ⟨⟨by omega, by omega⟩, ac' (holds_ac (l.getD j stp0).lits v (by simp only [reachBytes]; omega) (fun x hx' => by have := hr x hx'; omega) _ _ _ ?_)⟩
        rw [hh]
        simp only [go_sem, w3]
        exact Wk.mask [1, 2, 5, 8, 9, 10, 11, 12] ⟨n - (j + 1), by omega, j + 1, jlt, rfl, rfl, rfl⟩
      · have jd : decide ((j : Int) < (n : Int)) = false := decide_eq_false (by omega)
        simp only [go_sem, jd, w2]
        exact next _ rfl
    · have hd : decide ((k : Int) < ((2 ^ w : Nat) : Int)) = false := decide_eq_false (by omega)
      simp only [go_sem, hbits, w1, hd, Try.results11]
      exact ⟨by omega, ret_d hbd h⟩
end Go.Proofs.Ytpmjdaiboniagaa
