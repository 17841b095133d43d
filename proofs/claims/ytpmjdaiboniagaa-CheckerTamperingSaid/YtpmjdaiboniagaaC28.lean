/- CheckerTampering, evaluated. -/
import Derived.Test.YtpmjdaiboniagaaC24
import Derived.Test.YtpmjdaiboniagaaC22
import Derived.Test.YtpmjdaiboniagaaC27
set_option linter.unusedSimpArgs false
set_option linter.unusedVariables false
set_option maxRecDepth 100000
namespace Go.Proofs.Ytpmjdaiboniagaa
open Go Go.Ab

theorem flat_ints : ∀ (l : List Int), flat (l.map iD) = l.map fun x => A.d (iD x)
  | [] => rfl
  | x :: l => by rw [List.map_cons, flat_cons, flat_ints l]; rfl
theorem fine2_hints {f : Cnf} {l : List Stp} {s : Stp} (hf : Fine2 f (l ++ [s])) {hs : List Int} (h : hs.length ≤ 1000) : Fine2 f (l ++ [⟨s.lits, hs⟩]) := by
  refine ⟨⟨hf.vars, hf.cls, hf.len, by have := hf.steps; simpa using this, fun t ht => ?_⟩, fun t ht => ?_⟩
  · rcases List.mem_append.1 ht with ht | ht
    · exact hf.lits t (List.mem_append_left _ ht)
    · have := hf.lits s (by simp)
      simp only [List.mem_cons, List.not_mem_nil, or_false] at ht
      subst ht
      exact ⟨this.1, h, this.2.2⟩
  · rcases List.mem_append.1 ht with ht | ht
    · exact hf.lits12 t (List.mem_append_left _ ht)
    · have := hf.lits12 s (by simp)
      simp only [List.mem_cons, List.not_mem_nil, or_false] at ht
      subst ht
      exact this
theorem stepG_just {f : Cnf} {l : List Stp} {s : Stp} (h : stepG f l s = true) : justR (clauseAt f.cls l) (negs s.lits) s.hints = true := by
  simp only [stepG, goodR, Bool.and_eq_true] at h
  exact h.2.2.2
theorem stepG_no {f : Cnf} {l : List Stp} {s : Stp} (h : justR (clauseAt f.cls l) (negs s.lits) s.hints = false) : stepG f l s = false := by
  simp only [stepG, goodR, h, Bool.and_false]
theorem stepG_total {f : Cnf} {l : List Stp} {s : Stp} (h : stepG f l s = true) : 0 < f.cls.length + l.length := by
  have hj := stepG_just h
  simp only [stepG, goodR, stepOk, Bool.and_eq_true, hintsOk, List.all_eq_true] at h
  rcases hh : s.hints with _ | ⟨a, r⟩
  · rw [hh] at hj; cases hj
  · have := h.2.2.1.2 a (by rw [hh]; simp)
    simp only [Bool.not_eq_true', Bool.or_eq_false_iff, decide_eq_false_iff_not] at this
    omega
set_option maxHeartbeats 20000000 in
theorem law16_ac (f : Cnf) (l : List Stp) (pick hint place : Nat) (hb : pick ≤ 255 ∧ hint ≤ 255 ∧ place ≤ 255) (h1 : f.cls.length ≤ reachBytes) (h2 : l.length ≤ reachBytes) (hv : I64 f.vars) (hx : ∀ s ∈ l, ∀ x ∈ s.lits, I64 x) (σ : St) (G : Glob) (R : A → St → Prop) (h : R (db true) σ) : AC Try.prog G 16 [.d (cnfD f), .d (stpsD l), .d (.int .u8 pick), .d (.int .u8 hint), .d (.int .u8 place)] σ R := by
  refine ac_enterC' [12, 17, 21] mixed Try.func16 rfl Try.ntmps16 (by simp only [go_sem]) fun hbd => ?_
  simp only [List.length_cons, List.length_nil, Nat.reduceAdd, Nat.reduceSub, List.replicate_succ, List.replicate_zero, List.cons_append, List.nil_append]
  simp only [cnfD, go_sem]
  refine ac' (chead_ac _ _ _ ?_)
  simp only [go_sem]
  refine ac' (small_ac f l h1 h2 _ _ _ ?_)
  cases hs : smallC f l with
  | false =>
    simp only [go_sem, Try.results16]
    exact ret_d hbd h
  | true =>
  obtain ⟨⟨s1, s2⟩, s3, s4⟩ := smallC_iff.1 hs
  have hf := fine2_of hs hv hx
  have w0 : IntKind.i64.wrap (pick : Int) = (pick : Int) := wrap64_id _ (by omega) (by omega)
  simp only [stpsD, go_sem, List.length_map, Try.results16, w0]
  refine ⟨fun hz => ret_d hbd h, fun hz => ?_⟩
  have h0 : 0 < l.length := by
    rcases Nat.eq_zero_or_pos l.length with h0 | h0
    · rw [h0] at hz; simp at hz
    · exact h0
  obtain ⟨n, hn⟩ : ∃ n, pick % l.length = n := ⟨_, rfl⟩
  have hnl : n < l.length := hn ▸ Nat.mod_lt _ h0
  have wn : (pick : Int).tmod (l.length : Int) = (n : Int) := by rw [← hn]; rfl
  have e1 := stpD_getD hnl
  have hs4 := s4 _ (getD_mem stp0 hnl)
  have hf' : Fine2 f (l.take n ++ [l.getD n stp0]) := by rw [← take_snoc stp0 hnl]; exact fine2_take hf _
  obtain ⟨s, hse⟩ : ∃ s, l.getD n stp0 = s := ⟨_, rfl⟩
  have e1' : List.getD (l.map stpD) n default = .agg [isD s.lits, isD s.hints] := by rw [← hse]; exact e1
  rw [hse] at hs4 hf'
  simp only [go_sem, wn, e1', List.length_map]
  refine ⟨by omega, ⟨by omega, by omega⟩, ?_⟩
  refine aw_plan (.tk 5 0 <| .pure 5 <| .take 6 <| .done) (by kernel_rfl) ?_
  simp only [go_sem, List.length_map, ← List.map_take]
  refine ⟨by omega, exP (db (stepG f (l.take n) s)) ⟨fun σ' => ?_, ?_⟩⟩
  · simp only [go_sem]
    exact ac' (rstepF_ac f (l.take n) s hf'.toFine _ _ _ ⟨rfl, rfl⟩)
  cases hg : stepG f (l.take n) s with
  | false =>
    simp only [go_sem, Try.results16]
    exact ret_d hbd h
  | true =>
  have hj := stepG_just hg
  have htot := stepG_total hg
  rw [List.length_take, Nat.min_eq_left (by omega)] at htot
  have hne : 0 < s.hints.length := by
    rcases hh : s.hints with _ | ⟨a, r⟩
    · rw [hh] at hj; cases hj
    · simp
  have w1 : IntKind.i64.wrap ((s.hints.length : Int) - 1) = ((s.hints.length - 1 : Nat) : Int) := by rw [wrap64_id _ (by omega) (by omega)]; omega
  simp only [go_sem]
  refine aw_plan (.tk 5 0 <| .pure 5 <| .tk 16 6 <| .pure 22 <| .take 23 <| .done) (by kernel_rfl) ?_
  simp only [isD, go_sem, List.length_map, ← List.map_take]
  refine ⟨by omega, exP (db true) ⟨fun σ' => ?_, ?_⟩⟩
  · simp only [go_sem]
    refine ac' (step_ac f (l.take n) s hf' _ _ _ ?_)
    rw [hg]
    exact ⟨rfl, rfl⟩
  simp only [isD, go_sem, List.length_map, w1, ← List.map_take]
  have hless : stepG f (l.take n) ⟨s.lits, s.hints.take (s.hints.length - 1)⟩ = false := stepG_no (just_less hj)
  refine ⟨by omega, by omega, exQ (.bool false) ⟨fun _ => ?_, ?_⟩⟩
  · simp only [go_sem, ← List.map_take]
    intro σ'
    refine ac' (step_ac f (l.take n) ⟨s.lits, s.hints.take (s.hints.length - 1)⟩ (fine2_hints hf' (by rw [List.length_take]; omega)) _ _ _ ?_)
    rw [hless]
    exact ⟨rfl, rfl⟩
  obtain ⟨q, hq⟩ : ∃ q, hint % (f.cls.length + n) = q := ⟨_, rfl⟩
  have wh : IntKind.i64.wrap (hint : Int) = (hint : Int) := wrap64_id _ (by omega) (by omega)
  have wt : IntKind.i64.wrap ((f.cls.length : Int) + (n : Int)) = ((f.cls.length + n : Nat) : Int) := by rw [wrap64_id _ (by omega) (by omega)]; omega
  have wr : (hint : Int).tmod ((f.cls.length + n : Nat) : Int) = (q : Int) := by rw [← hq]; rfl
  have hqt : q < f.cls.length + n := hq ▸ Nat.mod_lt _ htot
  simp only [isD, clsD, go_sem, List.length_map, w1, wh, wt, wr]
  refine ⟨by omega, ?_⟩
  refine aw_cut (fun fr st => fr = [.any, .d (.sl 2 (l.map stpD)), .any, .any, .d (.int .u8 place), .ref σ.length 0, .any, .any, .any, .any, .any, db true, dn n, .ref (σ.length + 1) 0, dn q, .ref (σ.length + 2) 0, .any, .any, .any, .any, .any, .any, .any, .any, .any, .any, .any, .any, .any, .any, .any, .any, .any, .any, .any, .any, .any, .any, .any, .any, .any, .any, .any, .any, .any, .any, .any, .any, .any, .any, .any, .any, .any, .any, .any, .any, .any, .any, .any, .any, .any, .any, .any, .any, .any, .any, .any, .any, .any, .any, .any, .any, .any, .any, .any, .any, .any, .any, .any, .any, .any, .any, .any, .any, .any, .any, .any, .any, .any, .any, .any, .any, .any, .any, .any, .any, .any, .any, .any, .any, .any, .any, .any, .any, .any, .any, .any, .any, .any, .any, .any, .any, .any, .any, .any, .any, .any, .any, .any, .any, .any, .any, .any, .any, .any, .any, .any, .any, .any, .any, .any, .any, .any, .any, .any, .any, .any, .any, .any, .any, .any, .any, .any, .any, .any, .any, .any, .any, .any, .any, .any, .any, .any, .any, .any, .any, .any, .any, .any, .any, .any, .any, .any, .any] ∧
    st = σ ++ [some (.cells [.d (iD f.vars), .d (clsD f.cls)]), some (.cells [.d (isD s.lits), .d (isD s.hints)]), some (.cells [.d (isD s.lits), .d (isD (s.hints ++ [(q : Int)]))])]) ?_ ?_
  · have hord : (s.hints.map fun x => A.d (iD x)) ++ [A.d (.int .i64 q)] = (s.hints ++ [(q : Int)]).map fun x => A.d (iD x) := by rw [List.map_append]; rfl
    refine aw_plan (.tk 2 3 <| .take 6 <| .alt 0 (.alt 1 (.alt 2 (.alt 5 (.alt 7 (.alt 8 (.tk 3 9 <| .done) <| .alt 10 (.tk 2 8 <| .take 11 <| .done) <| .stop) <| .alt 10 (.tk 3 7 <| .take 11 <| .done) <| .stop) <| .alt 7 (.alt 5 (.alt 8 (.tk 3 9 <| .done) <| .alt 10 (.tk 2 8 <| .take 11 <| .done) <| .stop) <| .alt 10 (.take 5 <| .tk 2 8 <| .take 11 <| .done) <| .stop) <| .alt 10 (.alt 5 (.tk 3 7 <| .take 11 <| .done) <| .alt 7 (.take 5 <| .tk 2 8 <| .take 11 <| .done) <| .stop) <| .stop) <| .alt 7 (.alt 2 (.alt 5 (.alt 8 (.tk 3 9 <| .done) <| .alt 10 (.tk 2 8 <| .take 11 <| .done) <| .stop) <| .alt 10 (.take 5 <| .tk 2 8 <| .take 11 <| .done) <| .stop) <| .alt 10 (.take 2 <| .take 5 <| .tk 2 8 <| .take 11 <| .done) <| .stop) <| .alt 10 (.alt 2 (.alt 5 (.tk 3 7 <| .take 11 <| .done) <| .alt 7 (.take 5 <| .tk 2 8 <| .take 11 <| .done) <| .stop) <| .alt 7 (.take 2 <| .take 5 <| .tk 2 8 <| .take 11 <| .done) <| .stop) <| .stop) <| .alt 2 (.alt 1 (.alt 5 (.alt 7 (.alt 8 (.tk 3 9 <| .done) <| .alt 10 (.tk 2 8 <| .take 11 <| .done) <| .stop) <| .alt 10 (.tk 3 7 <| .take 11 <| .done) <| .stop) <| .alt 7 (.alt 5 (.alt 8 (.tk 3 9 <| .done) <| .alt 10 (.tk 2 8 <| .take 11 <| .done) <| .stop) <| .alt 10 (.take 5 <| .tk 2 8 <| .take 11 <| .done) <| .stop) <| .alt 10 (.alt 5 (.tk 3 7 <| .take 11 <| .done) <| .alt 7 (.take 5 <| .tk 2 8 <| .take 11 <| .done) <| .stop) <| .stop) <| .alt 5 (.alt 1 (.alt 7 (.alt 8 (.tk 3 9 <| .done) <| .alt 10 (.tk 2 8 <| .take 11 <| .done) <| .stop) <| .alt 10 (.tk 3 7 <| .take 11 <| .done) <| .stop) <| .alt 7 (.alt 1 (.alt 8 (.tk 3 9 <| .done) <| .alt 10 (.tk 2 8 <| .take 11 <| .done) <| .stop) <| .alt 8 (.take 1 <| .tk 3 9 <| .done) <| .alt 10 (.alt 1 (.tk 2 8 <| .take 11 <| .done) <| .alt 8 (.take 1 <| .take 9 <| .take 11 <| .done) <| .stop) <| .stop) <| .alt 10 (.alt 1 (.tk 3 7 <| .take 11 <| .done) <| .alt 7 (.alt 1 (.tk 2 8 <| .take 11 <| .done) <| .alt 8 (.take 1 <| .take 9 <| .take 11 <| .done) <| .stop) <| .stop) <| .stop) <| .alt 7 (.alt 1 (.alt 5 (.alt 8 (.tk 3 9 <| .done) <| .alt 10 (.tk 2 8 <| .take 11 <| .done) <| .stop) <| .alt 10 (.take 5 <| .tk 2 8 <| .take 11 <| .done) <| .stop) <| .alt 5 (.alt 1 (.alt 8 (.tk 3 9 <| .done) <| .alt 10 (.tk 2 8 <| .take 11 <| .done) <| .stop) <| .alt 8 (.take 1 <| .tk 3 9 <| .done) <| .alt 10 (.alt 1 (.tk 2 8 <| .take 11 <| .done) <| .alt 8 (.take 1 <| .take 9 <| .take 11 <| .done) <| .stop) <| .stop) <| .alt 10 (.alt 1 (.take 5 <| .tk 2 8 <| .take 11 <| .done) <| .alt 5 (.alt 1 (.tk 2 8 <| .take 11 <| .done) <| .alt 8 (.take 1 <| .take 9 <| .take 11 <| .done) <| .stop) <| .stop) <| .stop) <| .alt 10 (.alt 1 (.alt 5 (.tk 3 7 <| .take 11 <| .done) <| .alt 7 (.take 5 <| .tk 2 8 <| .take 11 <| .done) <| .stop) <| .alt 5 (.alt 1 (.tk 3 7 <| .take 11 <| .done) <| .alt 7 (.alt 1 (.tk 2 8 <| .take 11 <| .done) <| .alt 8 (.take 1 <| .take 9 <| .take 11 <| .done) <| .stop) <| .stop) <| .alt 7 (.alt 1 (.take 5 <| .tk 2 8 <| .take 11 <| .done) <| .alt 5 (.alt 1 (.tk 2 8 <| .take 11 <| .done) <| .alt 8 (.take 1 <| .take 9 <| .take 11 <| .done) <| .stop) <| .stop) <| .stop) <| .stop) <| .alt 7 (.alt 1 (.alt 2 (.alt 5 (.alt 8 (.tk 3 9 <| .done) <| .alt 10 (.tk 2 8 <| .take 11 <| .done) <| .stop) <| .alt 10 (.take 5 <| .tk 2 8 <| .take 11 <| .done) <| .stop) <| .alt 10 (.take 2 <| .take 5 <| .tk 2 8 <| .take 11 <| .done) <| .stop) <| .alt 2 (.alt 1 (.alt 5 (.alt 8 (.tk 3 9 <| .done) <| .alt 10 (.tk 2 8 <| .take 11 <| .done) <| .stop) <| .alt 10 (.take 5 <| .tk 2 8 <| .take 11 <| .done) <| .stop) <| .alt 5 (.alt 1 (.alt 8 (.tk 3 9 <| .done) <| .alt 10 (.tk 2 8 <| .take 11 <| .done) <| .stop) <| .alt 8 (.take 1 <| .tk 3 9 <| .done) <| .alt 10 (.alt 1 (.tk 2 8 <| .take 11 <| .done) <| .alt 8 (.take 1 <| .take 9 <| .take 11 <| .done) <| .stop) <| .stop) <| .alt 10 (.alt 1 (.take 5 <| .tk 2 8 <| .take 11 <| .done) <| .alt 5 (.alt 1 (.tk 2 8 <| .take 11 <| .done) <| .alt 8 (.take 1 <| .take 9 <| .take 11 <| .done) <| .stop) <| .stop) <| .stop) <| .alt 10 (.alt 1 (.take 2 <| .take 5 <| .tk 2 8 <| .take 11 <| .done) <| .alt 2 (.alt 1 (.take 5 <| .tk 2 8 <| .take 11 <| .done) <| .alt 5 (.alt 1 (.tk 2 8 <| .take 11 <| .done) <| .alt 8 (.take 1 <| .take 9 <| .take 11 <| .done) <| .stop) <| .stop) <| .stop) <| .stop) <| .alt 10 (.alt 1 (.alt 2 (.alt 5 (.tk 3 7 <| .take 11 <| .done) <| .alt 7 (.take 5 <| .tk 2 8 <| .take 11 <| .done) <| .stop) <| .alt 7 (.take 2 <| .take 5 <| .tk 2 8 <| .take 11 <| .done) <| .stop) <| .alt 2 (.alt 1 (.alt 5 (.tk 3 7 <| .take 11 <| .done) <| .alt 7 (.take 5 <| .tk 2 8 <| .take 11 <| .done) <| .stop) <| .alt 5 (.alt 1 (.tk 3 7 <| .take 11 <| .done) <| .alt 7 (.alt 1 (.tk 2 8 <| .take 11 <| .done) <| .alt 8 (.take 1 <| .take 9 <| .take 11 <| .done) <| .stop) <| .stop) <| .alt 7 (.alt 1 (.take 5 <| .tk 2 8 <| .take 11 <| .done) <| .alt 5 (.alt 1 (.tk 2 8 <| .take 11 <| .done) <| .alt 8 (.take 1 <| .take 9 <| .take 11 <| .done) <| .stop) <| .stop) <| .stop) <| .alt 7 (.alt 1 (.take 2 <| .take 5 <| .tk 2 8 <| .take 11 <| .done) <| .alt 2 (.alt 1 (.take 5 <| .tk 2 8 <| .take 11 <| .done) <| .alt 5 (.alt 1 (.tk 2 8 <| .take 11 <| .done) <| .alt 8 (.take 1 <| .take 9 <| .take 11 <| .done) <| .stop) <| .stop) <| .stop) <| .stop) <| .stop) <| .alt 2 (.alt 0 (.alt 1 (.alt 5 (.alt 7 (.alt 8 (.tk 3 9 <| .done) <| .alt 10 (.tk 2 8 <| .take 11 <| .done) <| .stop) <| .alt 10 (.tk 3 7 <| .take 11 <| .done) <| .stop) <| .alt 7 (.alt 5 (.alt 8 (.tk 3 9 <| .done) <| .alt 10 (.tk 2 8 <| .take 11 <| .done) <| .stop) <| .alt 10 (.take 5 <| .tk 2 8 <| .take 11 <| .done) <| .stop) <| .alt 10 (.alt 5 (.tk 3 7 <| .take 11 <| .done) <| .alt 7 (.take 5 <| .tk 2 8 <| .take 11 <| .done) <| .stop) <| .stop) <| .alt 5 (.alt 1 (.alt 7 (.alt 8 (.tk 3 9 <| .done) <| .alt 10 (.tk 2 8 <| .take 11 <| .done) <| .stop) <| .alt 10 (.tk 3 7 <| .take 11 <| .done) <| .stop) <| .alt 7 (.alt 1 (.alt 8 (.tk 3 9 <| .done) <| .alt 10 (.tk 2 8 <| .take 11 <| .done) <| .stop) <| .alt 8 (.take 1 <| .tk 3 9 <| .done) <| .alt 10 (.alt 1 (.tk 2 8 <| .take 11 <| .done) <| .alt 8 (.take 1 <| .take 9 <| .take 11 <| .done) <| .stop) <| .stop) <| .alt 10 (.alt 1 (.tk 3 7 <| .take 11 <| .done) <| .alt 7 (.alt 1 (.tk 2 8 <| .take 11 <| .done) <| .alt 8 (.take 1 <| .take 9 <| .take 11 <| .done) <| .stop) <| .stop) <| .stop) <| .alt 7 (.alt 1 (.alt 5 (.alt 8 (.tk 3 9 <| .done) <| .alt 10 (.tk 2 8 <| .take 11 <| .done) <| .stop) <| .alt 10 (.take 5 <| .tk 2 8 <| .take 11 <| .done) <| .stop) <| .alt 5 (.alt 1 (.alt 8 (.tk 3 9 <| .done) <| .alt 10 (.tk 2 8 <| .take 11 <| .done) <| .stop) <| .alt 8 (.take 1 <| .tk 3 9 <| .done) <| .alt 10 (.alt 1 (.tk 2 8 <| .take 11 <| .done) <| .alt 8 (.take 1 <| .take 9 <| .take 11 <| .done) <| .stop) <| .stop) <| .alt 10 (.alt 1 (.take 5 <| .tk 2 8 <| .take 11 <| .done) <| .alt 5 (.alt 1 (.tk 2 8 <| .take 11 <| .done) <| .alt 8 (.take 1 <| .take 9 <| .take 11 <| .done) <| .stop) <| .stop) <| .stop) <| .alt 10 (.alt 1 (.alt 5 (.tk 3 7 <| .take 11 <| .done) <| .alt 7 (.take 5 <| .tk 2 8 <| .take 11 <| .done) <| .stop) <| .alt 5 (.alt 1 (.tk 3 7 <| .take 11 <| .done) <| .alt 7 (.alt 1 (.tk 2 8 <| .take 11 <| .done) <| .alt 8 (.take 1 <| .take 9 <| .take 11 <| .done) <| .stop) <| .stop) <| .alt 7 (.alt 1 (.take 5 <| .tk 2 8 <| .take 11 <| .done) <| .alt 5 (.alt 1 (.tk 2 8 <| .take 11 <| .done) <| .alt 8 (.take 1 <| .take 9 <| .take 11 <| .done) <| .stop) <| .stop) <| .stop) <| .stop) <| .alt 5 (.alt 0 (.alt 1 (.alt 7 (.alt 8 (.tk 3 9 <| .done) <| .alt 10 (.tk 2 8 <| .take 11 <| .done) <| .stop) <| .alt 10 (.tk 3 7 <| .take 11 <| .done) <| .stop) <| .alt 7 (.alt 1 (.alt 8 (.tk 3 9 <| .done) <| .alt 10 (.tk 2 8 <| .take 11 <| .done) <| .stop) <| .alt 8 (.take 1 <| .tk 3 9 <| .done) <| .alt 10 (.alt 1 (.tk 2 8 <| .take 11 <| .done) <| .alt 8 (.take 1 <| .take 9 <| .take 11 <| .done) <| .stop) <| .stop) <| .alt 10 (.alt 1 (.tk 3 7 <| .take 11 <| .done) <| .alt 7 (.alt 1 (.tk 2 8 <| .take 11 <| .done) <| .alt 8 (.take 1 <| .take 9 <| .take 11 <| .done) <| .stop) <| .stop) <| .stop) <| .alt 7 (.alt 0 (.alt 1 (.alt 8 (.tk 3 9 <| .done) <| .alt 10 (.tk 2 8 <| .take 11 <| .done) <| .stop) <| .alt 8 (.take 1 <| .tk 3 9 <| .done) <| .alt 10 (.alt 1 (.tk 2 8 <| .take 11 <| .done) <| .alt 8 (.take 1 <| .take 9 <| .take 11 <| .done) <| .stop) <| .stop) <| .alt 8 (.tk 2 0 <| .tk 3 9 <| .done) <| .alt 10 (.alt 0 (.alt 1 (.tk 2 8 <| .take 11 <| .done) <| .alt 8 (.take 1 <| .take 9 <| .take 11 <| .done) <| .stop) <| .alt 8 (.tk 2 0 <| .take 9 <| .take 11 <| .done) <| .stop) <| .stop) <| .alt 10 (.alt 0 (.alt 1 (.tk 3 7 <| .take 11 <| .done) <| .alt 7 (.alt 1 (.tk 2 8 <| .take 11 <| .done) <| .alt 8 (.take 1 <| .take 9 <| .take 11 <| .done) <| .stop) <| .stop) <| .alt 7 (.alt 0 (.alt 1 (.tk 2 8 <| .take 11 <| .done) <| .alt 8 (.take 1 <| .take 9 <| .take 11 <| .done) <| .stop) <| .alt 8 (.tk 2 0 <| .take 9 <| .take 11 <| .done) <| .stop) <| .stop) <| .stop) <| .alt 7 (.alt 0 (.alt 1 (.alt 5 (.alt 8 (.tk 3 9 <| .done) <| .alt 10 (.tk 2 8 <| .take 11 <| .done) <| .stop) <| .alt 10 (.take 5 <| .tk 2 8 <| .take 11 <| .done) <| .stop) <| .alt 5 (.alt 1 (.alt 8 (.tk 3 9 <| .done) <| .alt 10 (.tk 2 8 <| .take 11 <| .done) <| .stop) <| .alt 8 (.take 1 <| .tk 3 9 <| .done) <| .alt 10 (.alt 1 (.tk 2 8 <| .take 11 <| .done) <| .alt 8 (.take 1 <| .take 9 <| .take 11 <| .done) <| .stop) <| .stop) <| .alt 10 (.alt 1 (.take 5 <| .tk 2 8 <| .take 11 <| .done) <| .alt 5 (.alt 1 (.tk 2 8 <| .take 11 <| .done) <| .alt 8 (.take 1 <| .take 9 <| .take 11 <| .done) <| .stop) <| .stop) <| .stop) <| .alt 5 (.alt 0 (.alt 1 (.alt 8 (.tk 3 9 <| .done) <| .alt 10 (.tk 2 8 <| .take 11 <| .done) <| .stop) <| .alt 8 (.take 1 <| .tk 3 9 <| .done) <| .alt 10 (.alt 1 (.tk 2 8 <| .take 11 <| .done) <| .alt 8 (.take 1 <| .take 9 <| .take 11 <| .done) <| .stop) <| .stop) <| .alt 8 (.tk 2 0 <| .tk 3 9 <| .done) <| .alt 10 (.alt 0 (.alt 1 (.tk 2 8 <| .take 11 <| .done) <| .alt 8 (.take 1 <| .take 9 <| .take 11 <| .done) <| .stop) <| .alt 8 (.tk 2 0 <| .take 9 <| .take 11 <| .done) <| .stop) <| .stop) <| .alt 10 (.alt 0 (.alt 1 (.take 5 <| .tk 2 8 <| .take 11 <| .done) <| .alt 5 (.alt 1 (.tk 2 8 <| .take 11 <| .done) <| .alt 8 (.take 1 <| .take 9 <| .take 11 <| .done) <| .stop) <| .stop) <| .alt 5 (.alt 0 (.alt 1 (.tk 2 8 <| .take 11 <| .done) <| .alt 8 (.take 1 <| .take 9 <| .take 11 <| .done) <| .stop) <| .alt 8 (.tk 2 0 <| .take 9 <| .take 11 <| .done) <| .stop) <| .stop) <| .stop) <| .alt 10 (.alt 0 (.alt 1 (.alt 5 (.tk 3 7 <| .take 11 <| .done) <| .alt 7 (.take 5 <| .tk 2 8 <| .take 11 <| .done) <| .stop) <| .alt 5 (.alt 1 (.tk 3 7 <| .take 11 <| .done) <| .alt 7 (.alt 1 (.tk 2 8 <| .take 11 <| .done) <| .alt 8 (.take 1 <| .take 9 <| .take 11 <| .done) <| .stop) <| .stop) <| .alt 7 (.alt 1 (.take 5 <| .tk 2 8 <| .take 11 <| .done) <| .alt 5 (.alt 1 (.tk 2 8 <| .take 11 <| .done) <| .alt 8 (.take 1 <| .take 9 <| .take 11 <| .done) <| .stop) <| .stop) <| .stop) <| .alt 5 (.alt 0 (.alt 1 (.tk 3 7 <| .take 11 <| .done) <| .alt 7 (.alt 1 (.tk 2 8 <| .take 11 <| .done) <| .alt 8 (.take 1 <| .take 9 <| .take 11 <| .done) <| .stop) <| .stop) <| .alt 7 (.alt 0 (.alt 1 (.tk 2 8 <| .take 11 <| .done) <| .alt 8 (.take 1 <| .take 9 <| .take 11 <| .done) <| .stop) <| .alt 8 (.tk 2 0 <| .take 9 <| .take 11 <| .done) <| .stop) <| .stop) <| .alt 7 (.alt 0 (.alt 1 (.take 5 <| .tk 2 8 <| .take 11 <| .done) <| .alt 5 (.alt 1 (.tk 2 8 <| .take 11 <| .done) <| .alt 8 (.take 1 <| .take 9 <| .take 11 <| .done) <| .stop) <| .stop) <| .alt 5 (.alt 0 (.alt 1 (.tk 2 8 <| .take 11 <| .done) <| .alt 8 (.take 1 <| .take 9 <| .take 11 <| .done) <| .stop) <| .alt 8 (.tk 2 0 <| .take 9 <| .take 11 <| .done) <| .stop) <| .stop) <| .stop) <| .stop) <| .alt 7 (.alt 0 (.alt 1 (.alt 2 (.alt 5 (.alt 8 (.tk 3 9 <| .done) <| .alt 10 (.tk 2 8 <| .take 11 <| .done) <| .stop) <| .alt 10 (.take 5 <| .tk 2 8 <| .take 11 <| .done) <| .stop) <| .alt 10 (.take 2 <| .take 5 <| .tk 2 8 <| .take 11 <| .done) <| .stop) <| .alt 2 (.alt 1 (.alt 5 (.alt 8 (.tk 3 9 <| .done) <| .alt 10 (.tk 2 8 <| .take 11 <| .done) <| .stop) <| .alt 10 (.take 5 <| .tk 2 8 <| .take 11 <| .done) <| .stop) <| .alt 5 (.alt 1 (.alt 8 (.tk 3 9 <| .done) <| .alt 10 (.tk 2 8 <| .take 11 <| .done) <| .stop) <| .alt 8 (.take 1 <| .tk 3 9 <| .done) <| .alt 10 (.alt 1 (.tk 2 8 <| .take 11 <| .done) <| .alt 8 (.take 1 <| .take 9 <| .take 11 <| .done) <| .stop) <| .stop) <| .alt 10 (.alt 1 (.take 5 <| .tk 2 8 <| .take 11 <| .done) <| .alt 5 (.alt 1 (.tk 2 8 <| .take 11 <| .done) <| .alt 8 (.take 1 <| .take 9 <| .take 11 <| .done) <| .stop) <| .stop) <| .stop) <| .alt 10 (.alt 1 (.take 2 <| .take 5 <| .tk 2 8 <| .take 11 <| .done) <| .alt 2 (.alt 1 (.take 5 <| .tk 2 8 <| .take 11 <| .done) <| .alt 5 (.alt 1 (.tk 2 8 <| .take 11 <| .done) <| .alt 8 (.take 1 <| .take 9 <| .take 11 <| .done) <| .stop) <| .stop) <| .stop) <| .stop) <| .alt 2 (.alt 0 (.alt 1 (.alt 5 (.alt 8 (.tk 3 9 <| .done) <| .alt 10 (.tk 2 8 <| .take 11 <| .done) <| .stop) <| .alt 10 (.take 5 <| .tk 2 8 <| .take 11 <| .done) <| .stop) <| .alt 5 (.alt 1 (.alt 8 (.tk 3 9 <| .done) <| .alt 10 (.tk 2 8 <| .take 11 <| .done) <| .stop) <| .alt 8 (.take 1 <| .tk 3 9 <| .done) <| .alt 10 (.alt 1 (.tk 2 8 <| .take 11 <| .done) <| .alt 8 (.take 1 <| .take 9 <| .take 11 <| .done) <| .stop) <| .stop) <| .alt 10 (.alt 1 (.take 5 <| .tk 2 8 <| .take 11 <| .done) <| .alt 5 (.alt 1 (.tk 2 8 <| .take 11 <| .done) <| .alt 8 (.take 1 <| .take 9 <| .take 11 <| .done) <| .stop) <| .stop) <| .stop) <| .alt 5 (.alt 0 (.alt 1 (.alt 8 (.tk 3 9 <| .done) <| .alt 10 (.tk 2 8 <| .take 11 <| .done) <| .stop) <| .alt 8 (.take 1 <| .tk 3 9 <| .done) <| .alt 10 (.alt 1 (.tk 2 8 <| .take 11 <| .done) <| .alt 8 (.take 1 <| .take 9 <| .take 11 <| .done) <| .stop) <| .stop) <| .alt 8 (.tk 2 0 <| .tk 3 9 <| .done) <| .alt 10 (.alt 0 (.alt 1 (.tk 2 8 <| .take 11 <| .done) <| .alt 8 (.take 1 <| .take 9 <| .take 11 <| .done) <| .stop) <| .alt 8 (.tk 2 0 <| .take 9 <| .take 11 <| .done) <| .stop) <| .stop) <| .alt 10 (.alt 0 (.alt 1 (.take 5 <| .tk 2 8 <| .take 11 <| .done) <| .alt 5 (.alt 1 (.tk 2 8 <| .take 11 <| .done) <| .alt 8 (.take 1 <| .take 9 <| .take 11 <| .done) <| .stop) <| .stop) <| .alt 5 (.alt 0 (.alt 1 (.tk 2 8 <| .take 11 <| .done) <| .alt 8 (.take 1 <| .take 9 <| .take 11 <| .done) <| .stop) <| .alt 8 (.tk 2 0 <| .take 9 <| .take 11 <| .done) <| .stop) <| .stop) <| .stop) <| .alt 10 (.alt 0 (.alt 1 (.take 2 <| .take 5 <| .tk 2 8 <| .take 11 <| .done) <| .alt 2 (.alt 1 (.take 5 <| .tk 2 8 <| .take 11 <| .done) <| .alt 5 (.alt 1 (.tk 2 8 <| .take 11 <| .done) <| .alt 8 (.take 1 <| .take 9 <| .take 11 <| .done) <| .stop) <| .stop) <| .stop) <| .alt 2 (.alt 0 (.alt 1 (.take 5 <| .tk 2 8 <| .take 11 <| .done) <| .alt 5 (.alt 1 (.tk 2 8 <| .take 11 <| .done) <| .alt 8 (.take 1 <| .take 9 <| .take 11 <| .done) <| .stop) <| .stop) <| .alt 5 (.alt 0 (.alt 1 (.tk 2 8 <| .take 11 <| .done) <| .alt 8 (.take 1 <| .take 9 <| .take 11 <| .done) <| .stop) <| .alt 8 (.tk 2 0 <| .take 9 <| .take 11 <| .done) <| .stop) <| .stop) <| .stop) <| .stop) <| .alt 10 (.alt 0 (.alt 1 (.alt 2 (.alt 5 (.tk 3 7 <| .take 11 <| .done) <| .alt 7 (.take 5 <| .tk 2 8 <| .take 11 <| .done) <| .stop) <| .alt 7 (.take 2 <| .take 5 <| .tk 2 8 <| .take 11 <| .done) <| .stop) <| .alt 2 (.alt 1 (.alt 5 (.tk 3 7 <| .take 11 <| .done) <| .alt 7 (.take 5 <| .tk 2 8 <| .take 11 <| .done) <| .stop) <| .alt 5 (.alt 1 (.tk 3 7 <| .take 11 <| .done) <| .alt 7 (.alt 1 (.tk 2 8 <| .take 11 <| .done) <| .alt 8 (.take 1 <| .take 9 <| .take 11 <| .done) <| .stop) <| .stop) <| .alt 7 (.alt 1 (.take 5 <| .tk 2 8 <| .take 11 <| .done) <| .alt 5 (.alt 1 (.tk 2 8 <| .take 11 <| .done) <| .alt 8 (.take 1 <| .take 9 <| .take 11 <| .done) <| .stop) <| .stop) <| .stop) <| .alt 7 (.alt 1 (.take 2 <| .take 5 <| .tk 2 8 <| .take 11 <| .done) <| .alt 2 (.alt 1 (.take 5 <| .tk 2 8 <| .take 11 <| .done) <| .alt 5 (.alt 1 (.tk 2 8 <| .take 11 <| .done) <| .alt 8 (.take 1 <| .take 9 <| .take 11 <| .done) <| .stop) <| .stop) <| .stop) <| .stop) <| .alt 2 (.alt 0 (.alt 1 (.alt 5 (.tk 3 7 <| .take 11 <| .done) <| .alt 7 (.take 5 <| .tk 2 8 <| .take 11 <| .done) <| .stop) <| .alt 5 (.alt 1 (.tk 3 7 <| .take 11 <| .done) <| .alt 7 (.alt 1 (.tk 2 8 <| .take 11 <| .done) <| .alt 8 (.take 1 <| .take 9 <| .take 11 <| .done) <| .stop) <| .stop) <| .alt 7 (.alt 1 (.take 5 <| .tk 2 8 <| .take 11 <| .done) <| .alt 5 (.alt 1 (.tk 2 8 <| .take 11 <| .done) <| .alt 8 (.take 1 <| .take 9 <| .take 11 <| .done) <| .stop) <| .stop) <| .stop) <| .alt 5 (.alt 0 (.alt 1 (.tk 3 7 <| .take 11 <| .done) <| .alt 7 (.alt 1 (.tk 2 8 <| .take 11 <| .done) <| .alt 8 (.take 1 <| .take 9 <| .take 11 <| .done) <| .stop) <| .stop) <| .alt 7 (.alt 0 (.alt 1 (.tk 2 8 <| .take 11 <| .done) <| .alt 8 (.take 1 <| .take 9 <| .take 11 <| .done) <| .stop) <| .alt 8 (.tk 2 0 <| .take 9 <| .take 11 <| .done) <| .stop) <| .stop) <| .alt 7 (.alt 0 (.alt 1 (.take 5 <| .tk 2 8 <| .take 11 <| .done) <| .alt 5 (.alt 1 (.tk 2 8 <| .take 11 <| .done) <| .alt 8 (.take 1 <| .take 9 <| .take 11 <| .done) <| .stop) <| .stop) <| .alt 5 (.alt 0 (.alt 1 (.tk 2 8 <| .take 11 <| .done) <| .alt 8 (.take 1 <| .take 9 <| .take 11 <| .done) <| .stop) <| .alt 8 (.tk 2 0 <| .take 9 <| .take 11 <| .done) <| .stop) <| .stop) <| .stop) <| .alt 7 (.alt 0 (.alt 1 (.take 2 <| .take 5 <| .tk 2 8 <| .take 11 <| .done) <| .alt 2 (.alt 1 (.take 5 <| .tk 2 8 <| .take 11 <| .done) <| .alt 5 (.alt 1 (.tk 2 8 <| .take 11 <| .done) <| .alt 8 (.take 1 <| .take 9 <| .take 11 <| .done) <| .stop) <| .stop) <| .stop) <| .alt 2 (.alt 0 (.alt 1 (.take 5 <| .tk 2 8 <| .take 11 <| .done) <| .alt 5 (.alt 1 (.tk 2 8 <| .take 11 <| .done) <| .alt 8 (.take 1 <| .take 9 <| .take 11 <| .done) <| .stop) <| .stop) <| .alt 5 (.alt 0 (.alt 1 (.tk 2 8 <| .take 11 <| .done) <| .alt 8 (.take 1 <| .take 9 <| .take 11 <| .done) <| .stop) <| .alt 8 (.tk 2 0 <| .take 9 <| .take 11 <| .done) <| .stop) <| .stop) <| .stop) <| .stop) <| .stop) (by kernel_rfl) ?_
    simp only [isD, go_sem, List.length_map, flat_ints]
    repeat' apply And.intro
    all_goals first
      | omega
      | (simp only [maxLen]; omega)
      | skip
    all_goals
      refine Wk.pre [1, 4, 5, 11, 12, 13, 14, 15] ?_
      simp only [go_sem]
    all_goals first
      | (refine ⟨_, _, (Weak.freezeIn (σ := σ) 5 6 1 0 ((s.hints ++ [(q : Int)]).map iD) rfl (hord ▸ lies_ints (s.hints ++ [(q : Int)])) rfl (by decide)).trans (Weak.keep (σ := σ) [0, 1, 6] (by decide) (Nat.le_refl _) hbd), ?_, ?_⟩
         · simp only [go_sem]
         · simp only [go_sem, List.length_map, List.length_append, List.length_singleton]
           rfl)
      | (refine ⟨_, _, (Weak.freezeIn (σ := σ) 6 5 1 0 ((s.hints ++ [(q : Int)]).map iD) rfl (hord ▸ lies_ints (s.hints ++ [(q : Int)])) rfl (by decide)).trans (Weak.keep (σ := σ) [0, 1, 5] (by decide) (Nat.le_refl _) hbd), ?_, ?_⟩
         · simp only [go_sem]
         · simp only [go_sem, List.length_map, List.length_append, List.length_singleton]
           rfl)
      | (refine ⟨_, _, (Weak.freezeIn (σ := σ) 6 4 1 0 ((s.hints ++ [(q : Int)]).map iD) rfl (hord ▸ lies_ints (s.hints ++ [(q : Int)])) rfl (by decide)).trans (Weak.keep (σ := σ) [0, 1, 4] (by decide) (Nat.le_refl _) hbd), ?_, ?_⟩
         · simp only [go_sem]
         · simp only [go_sem, List.length_map, List.length_append, List.length_singleton]
           rfl)
      | (refine ⟨_, _, (Weak.freezeIn (σ := σ) 6 3 1 0 ((s.hints ++ [(q : Int)]).map iD) rfl (hord ▸ lies_ints (s.hints ++ [(q : Int)])) rfl (by decide)).trans (Weak.keep (σ := σ) [0, 1, 3] (by decide) (Nat.le_refl _) hbd), ?_, ?_⟩
         · simp only [go_sem]
         · simp only [go_sem, List.length_map, List.length_append, List.length_singleton]
           rfl)
      | (refine ⟨_, _, (Weak.freezeIn (σ := σ) 6 2 1 0 ((s.hints ++ [(q : Int)]).map iD) rfl (hord ▸ lies_ints (s.hints ++ [(q : Int)])) rfl (by decide)).trans (Weak.keep (σ := σ) [0, 1, 2] (by decide) (Nat.le_refl _) hbd), ?_, ?_⟩
         · simp only [go_sem]
         · simp only [go_sem, List.length_map, List.length_append, List.length_singleton]
           rfl)
  · rintro fr st ⟨rfl, rfl⟩
    simp only [go_sem]
    have hmore : stepG f (l.take n) ⟨s.lits, s.hints ++ [(q : Int)]⟩ = false := stepG_no (just_more hj)
    refine aw_plan (.tk 5 0 <| .pure 5 <| .done) (by kernel_rfl) ?_
    simp only [isD, go_sem, List.length_map, ← List.map_take]
    refine ⟨by omega, exP (db false) ⟨fun σ' => ?_, ?_⟩⟩
    · simp only [go_sem, ← List.map_take]
      refine ac' (step_ac f (l.take n) ⟨s.lits, s.hints ++ [(q : Int)]⟩ (fine2_hints hf' (by rw [List.length_append, List.length_singleton]; omega)) _ _ _ ?_)
      rw [hmore]
      exact ⟨rfl, rfl⟩
    obtain ⟨k, hk⟩ : ∃ k, place % (s.hints.length + 1) = k := ⟨_, rfl⟩
    have hkl : k ≤ s.hints.length := Nat.le_of_lt_succ (hk ▸ Nat.mod_lt _ (by omega))
    have wp : IntKind.i64.wrap (place : Int) = (place : Int) := wrap64_id _ (by omega) (by omega)
    have wq : IntKind.i64.wrap ((s.hints.length : Int) + 1) = ((s.hints.length + 1 : Nat) : Int) := by rw [wrap64_id _ (by omega) (by omega)]; omega
    have wk : (place : Int).tmod ((s.hints.length + 1 : Nat) : Int) = (k : Int) := by rw [← hk]; rfl
    simp only [isD, go_sem, List.length_map, wp, wq, wk, ← List.map_take, flat_ints]
    have htl : (s.hints.take k).length ≤ 40 := by rw [List.length_take]; omega
    have hdl : (s.hints.drop k).length ≤ 40 := by rw [List.length_drop]; omega
    refine ⟨by omega, by omega, ⟨by simp only [maxLen]; omega, by omega⟩, ⟨by omega, by simp only [maxLen]; omega, by omega⟩, ?_⟩
    obtain ⟨M, hM⟩ : ∃ M, s.hints.take k ++ (q : Int) :: s.hints.drop k = M := ⟨_, rfl⟩
    have hMl : M.length ≤ 1000 := by rw [← hM, List.length_append, List.length_cons]; omega
    have hMo : (s.hints.take k).map (fun x => A.d (iD x)) ++ A.d (.int .i64 q) :: (s.hints.drop k).map (fun x => A.d (iD x)) = M.map fun x => A.d (iD x) := by rw [← hM, List.map_append, List.map_cons]
    have hMn : (s.hints.take k).length + 1 + (s.hints.drop k).length = M.length := by rw [← hM, List.length_append, List.length_cons]; omega
    have hMj : ∀ x ∈ clauseAt f.cls (l.take n) q, x ∈ negs s.lits → stepG f (l.take n) ⟨s.lits, M⟩ = false := fun x hx1 hx2 => by
      have := just_mixed (y := (q : Int)) (x := x) (k := k) (by simpa using hx1) hx2 hj
      rw [← hM]
      refine stepG_no ?_
      simpa using this
    -- the hint put in
    refine aw_cut (fun fr st => fr = [.any, .d (.sl 2 (l.map stpD)), .any, .any, .any, .ref σ.length 0, .any, .any, .any, .any, .any, db true, dn n, .ref (σ.length + 1) 0, dn q, .any, .any, .d (isD M), .any, .any, .any, .any, .any, .any, .any, .any, .any, .any, .any, .any, .any, .any, .any, .any, .any, .any, .any, .any, .any, .any, .any, .any, .any, .any, .any, .any, .any, .any, .any, .any, .any, .any, .any, .any, .any, .any, .any, .any, .any, .any, .any, .any, .any, .any, .any, .any, .any, .any, .any, .any, .any, .any, .any, .any, .any, .any, .any, .any, .any, .any, .any, .any, .any, .any, .any, .any, .any, .any, .any, .any, .any, .any, .any, .any, .any, .any, .any, .any, .any, .any, .any, .any, .any, .any, .any, .any, .any, .any, .any, .any, .any, .any, .any, .any, .any, .any, .any, .any, .any, .any, .any, .any, .any, .any, .any, .any, .any, .any, .any, .any, .any, .any, .any, .any, .any, .any, .any, .any, .any, .any, .any, .any, .any, .any, .any, .any, .any, .any, .any, .any, .any, .any, .any, .any, .any, .any, .any, .any, .any, .any, .any, .any, .any, .any] ∧
      st = σ ++ [some (.cells [.d (iD f.vars), .d (clsD f.cls)]), some (.cells [.d (isD s.lits), .d (isD s.hints)])]) ?_ ?_
    · simp only [isD, go_sem, List.length_map, ← List.map_take, ← List.map_drop, flat_ints]
      refine ⟨by omega, ⟨by omega, by simp only [maxLen]; omega, by omega⟩, ?_⟩
      refine Wk.pre [1, 5, 11, 12, 13, 14, 17] ?_
      simp only [go_sem]
      refine Wk.frz 7 1 0 (M.map iD) rfl (hMo ▸ lies_ints M) ?_
      simp only [go_sem, List.length_map, hMn]
      exact Wk.keep [1, 5, 11, 12, 13, 14, 17] [0, 1] (by decide) (Nat.le_refl _) hbd ⟨by simp only [go_sem], by simp only [go_sem]⟩
    · rintro fr st ⟨rfl, rfl⟩
      simp only [go_sem]
      refine aw_cut (fun fr st => fr = [.any, .d (.sl 2 (l.map stpD)), .any, .any, .any, .ref σ.length 0, .any, .any, .any, .any, .any, db true, dn n, .ref (σ.length + 1) 0, .any, .any, .any, .d (isD M), .d (isD (clauseAt f.cls (l.take n) q)), .any, .any, .any, .any, .any, .any, .any, .any, .any, .any, .any, .any, .any, .any, .any, .any, .any, .any, .any, .any, .any, .any, .any, .any, .any, .any, .any, .any, .any, .any, .any, .any, .any, .any, .any, .any, .any, .any, .any, .any, .any, .any, .any, .any, .any, .any, .any, .any, .any, .any, .any, .any, .any, .any, .any, .any, .any, .any, .any, .any, .any, .any, .any, .any, .any, .any, .any, .any, .any, .any, .any, .any, .any, .any, .any, .any, .any, .any, .any, .any, .any, .any, .any, .any, .any, .any, .any, .any, .any, .any, .any, .any, .any, .any, .any, .any, .any, .any, .any, .any, .any, .any, .any, .any, .any, .any, .any, .any, .any, .any, .any, .any, .any, .any, .any, .any, .any, .any, .any, .any, .any, .any, .any, .any, .any, .any, .any, .any, .any, .any, .any, .any, .any, .any, .any, .any, .any, .any, .any, .any, .any, .any, .any, .any, .any] ∧
        st = σ ++ [some (.cells [.d (iD f.vars), .d (clsD f.cls)]), some (.cells [.d (isD s.lits), .d (isD s.hints)])]) ?_ ?_
      · rcases Nat.lt_or_ge q f.cls.length with hqc | hqc
        · have d1 : decide ((q : Int) < (f.cls.length : Int)) = true := decide_eq_true (by omega)
          have e2 := isD_getD hqc
          have ec : clauseAt f.cls (l.take n) q = f.cls.getD q [] := by rw [clauseAt, if_pos hqc]
          rw [ec]
          simp only [clsD, go_sem, List.length_map, d1, e2]
          refine ⟨⟨by omega, by omega⟩, ?_⟩
          exact Wk.mask [1, 5, 11, 12, 13, 17, 18] ⟨rfl, rfl⟩
        · have d1 : decide ((q : Int) < (f.cls.length : Int)) = false := decide_eq_false (by omega)
          have w3 : IntKind.i64.wrap ((q : Int) - (f.cls.length : Int)) = ((q - f.cls.length : Nat) : Int) := by rw [wrap64_id _ (by omega) (by omega)]; omega
          have e2 := stpD_getD (l := l) (j := q - f.cls.length) (by omega)
          have ec : clauseAt f.cls (l.take n) q = (l.getD (q - f.cls.length) stp0).lits := by rw [clauseAt, if_neg (by omega)]; exact congrArg Stp.lits (take_getD (by omega))
          rw [ec]
          simp only [clsD, go_sem, List.length_map, d1, w3, e2]
          refine ⟨⟨by omega, by omega⟩, ?_⟩
          exact Wk.mask [1, 5, 11, 12, 13, 17, 18] ⟨rfl, rfl⟩
      · rintro fr st ⟨rfl, rfl⟩
        simp only [go_sem]
        have hcl : (clauseAt f.cls (l.take n) q).length ≤ reachBytes := by
          have hr : 12 ≤ reachBytes := by simp only [reachBytes]; omega
          rw [clauseAt]
          split
          · exact Nat.le_trans (s3 _ (getD_mem [] (by assumption))) hr
          · have hlt : q - f.cls.length < l.length := by omega
            have := (s4 _ (getD_mem stp0 hlt)).1
            rw [← take_getD (l := l) (n := n) (i := q - f.cls.length) (by omega)] at this
            exact Nat.le_trans this hr
        have hsl : s.lits.length ≤ 12 := hs4.1
        have hsx : ∀ x ∈ s.lits, I64 x := fun x hx' => hx s (hse ▸ getD_mem stp0 hnl) x hx'
        have hgg : validC f = true ∧ goodR f (l.take n) s = true := by
          simp only [stepG, Bool.and_eq_true] at hg
          exact ⟨hg.1, hg.2.2⟩
        have hrg := good_range hgg.1 hsx hgg.2
        have hvr := (validC_iff.1 hgg.1).1
        generalize clauseAt f.cls (l.take n) q = c at hcl hMj
        refine aw_loop (fun m fr st => ∃ j : Nat, j ≤ s.lits.length ∧ m = s.lits.length - j ∧ fr = [.any, .d (.sl 2 (l.map stpD)), .any, .any, .any, .ref σ.length 0, .any, .any, .any, .any, .any, db true, dn n, .ref (σ.length + 1) 0, .any, .any, .any, .d (isD M), .d (isD c), dn j, .any, .any, .any, .any, .any, .any, .any, .any, .any, .any, .any, .any, .any, .any, .any, .any, .any, .any, .any, .any, .any, .any, .any, .any, .any, .any, .any, .any, .any, .any, .any, .any, .any, .any, .any, .any, .any, .any, .any, .any, .any, .any, .any, .any, .any, .any, .any, .any, .any, .any, .any, .any, .any, .any, .any, .any, .any, .any, .any, .any, .any, .any, .any, .any, .any, .any, .any, .any, .any, .any, .any, .any, .any, .any, .any, .any, .any, .any, .any, .any, .any, .any, .any, .any, .any, .any, .any, .any, .any, .any, .any, .any, .any, .any, .any, .any, .any, .any, .any, .any, .any, .any, .any, .any, .any, .any, .any, .any, .any, .any, .any, .any, .any, .any, .any, .any, .any, .any, .any, .any, .any, .any, .any, .any, .any, .any, .any, .any, .any, .any, .any, .any, .any, .any, .any, .any, .any, .any, .any, .any, .any, .any, .any, .any] ∧
          st = σ ++ [some (.cells [.d (iD f.vars), .d (clsD f.cls)]), some (.cells [.d (isD s.lits), .d (isD s.hints)])]) s.lits.length _ (Wk.mask [1, 5, 11, 12, 13, 17, 18, 19] ⟨0, by omega, rfl, rfl, rfl⟩) ?_
        rintro m fr st ⟨j, hj', hm, rfl, rfl⟩
        rcases Nat.lt_or_ge j s.lits.length with hlt | hge
        · have hd : decide ((j : Int) < (s.lits.length : Int)) = true := decide_eq_true (by omega)
          have e3 : List.getD (List.map iD s.lits) j default = iD (s.lits.getD j 0) := getD_mapD hlt
          have w2 := wrapS j (by omega)
          have hxm := getD_mem 0 hlt
          have hxr := hrg _ hxm
          generalize s.lits.getD j 0 = x at e3 hxm hxr
          have wneg : IntKind.i64.wrap (0 - x) = -x := by rw [wrap64_id _ (by omega) (by omega)]; omega
          simp only [isD, go_sem, List.length_map, hd]
          refine aw_plan (.tk 7 0 <| .pure 7 <| .tk 9 8 <| .pure 17 <| .take 18 <| .done) (by kernel_rfl) ?_
          simp only [isD, go_sem, List.length_map, e3, wneg]
          refine ⟨⟨by omega, by omega⟩, exP (db (decide (-x ∈ c))) ⟨fun σ' => ?_, ?_⟩⟩
          · simp only [go_sem]
            exact ac' (has_ac c (-x) hcl _ _ _ ⟨rfl, rfl⟩)
          cases hc : decide (-x ∈ c) with
          | false =>
            simp only [go_sem]
            refine exQ (.bool false) ⟨fun hh => Bool.noConfusion hh, ?_⟩
            simp only [go_sem, w2]
            exact Wk.mask [1, 5, 11, 12, 13, 17, 18, 19] ⟨s.lits.length - (j + 1), by omega, j + 1, hlt, rfl, rfl, rfl⟩
          | true =>
            have hno := hMj (-x) (of_decide_eq_true hc) (List.mem_map.2 ⟨x, hxm, rfl⟩)
            simp only [isD, go_sem, List.length_map, ← List.map_take]
            refine ⟨by omega, exQ (.bool false) ⟨fun _ => ?_, ?_⟩⟩
            · simp only [go_sem, ← List.map_take]
              intro σ'
              refine ac' (step_ac f (l.take n) ⟨s.lits, M⟩ (fine2_hints hf' hMl) _ _ _ ?_)
              rw [hno]
              exact ⟨rfl, rfl⟩
            simp only [go_sem, w2]
            exact Wk.mask [1, 5, 11, 12, 13, 17, 18, 19] ⟨s.lits.length - (j + 1), by omega, j + 1, hlt, rfl, rfl, rfl⟩
        · have hd : decide ((j : Int) < (s.lits.length : Int)) = false := decide_eq_false (by omega)
          simp only [isD, go_sem, List.length_map, hd, Try.results16]
          exact ret_d hbd h
end Go.Proofs.Ytpmjdaiboniagaa
