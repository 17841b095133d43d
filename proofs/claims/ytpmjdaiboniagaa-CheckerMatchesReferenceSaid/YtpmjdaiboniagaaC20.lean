/- CheckerMatchesReference, evaluated. -/
import Derived.Test.YtpmjdaiboniagaaC17
set_option linter.unusedSimpArgs false
set_option linter.unusedVariables false
set_option maxRecDepth 100000
namespace Go.Proofs.Ytpmjdaiboniagaa
open Go Go.Ab

theorem law10_ac (f : Cnf) (l : List Stp) (h1 : f.cls.length ≤ reachBytes) (h2 : l.length ≤ reachBytes) (hv : I64 f.vars) (hx : ∀ s ∈ l, ∀ x ∈ s.lits, I64 x) (σ : St) (G : Glob) (R : A → St → Prop) (h : R (db true) σ) : AC Try.prog G 10 [.d (cnfD f), .d (stpsD l)] σ R := by
  refine ac_enterC' [] mixed Try.func10 rfl Try.ntmps10 (by simp only [go_sem]) fun hbd => ?_
  simp only [List.length_cons, List.length_nil, Nat.reduceAdd, Nat.reduceSub, List.replicate_succ, List.replicate_zero, List.cons_append, List.nil_append]
  simp only [cnfD, go_sem]
  refine ac' (chead_ac _ _ _ ?_)
  simp only [go_sem]
  refine ac' (small_ac f l h1 h2 _ _ _ ?_)
  simp only [go_sem, Try.results10]
  refine ⟨fun hs => ret_d hbd h, fun hs => ?_⟩
  simp only [Bool.not_eq_false'] at hs
  have hf := fine2_of hs hv hx
  refine ac' (check_ac f l hf _ _ _ ?_)
  simp only [go_sem]
  refine ac' (rcheck_ac f l hf.toFine _ _ _ ?_)
  obtain ⟨⟨q1, q2⟩, hq⟩ : ∃ q, chk (goodR f) f l = q := ⟨_, rfl⟩
  simp only [hq, go_sem]
  have n1 : (q1 != q1) = false := bne_self_eq_false ..
  have n2 : (q2 != q2) = false := bne_self_eq_false ..
  refine aw_plan (.tk 11 0 <| .take 13 <| .pure 11 <| .take 12 <| .pure 14 <| .tk 2 15 <| .done) (by kernel_rfl) ?_
  simp only [go_sem, n1, n2]
  obtain ⟨b, hb⟩ : ∃ b, refutes (chk (goodR f) f l) l = b := ⟨_, rfl⟩
  refine exQ (.bool b) ⟨fun _ => ?_, ?_⟩
  · simp only [go_sem]
    exact fun σ' => ac' (refutes_ac f l hf _ _ _ (by rw [hb]; exact ⟨rfl, rfl⟩))
  simp only [go_sem, n2]
  refine exQ (.bool b) ⟨fun _ => ?_, ?_⟩
  · simp only [go_sem, n2]
    exact fun σ' => ac' (rrefutes_ac f l hf.toFine _ _ _ (by rw [hb]; exact ⟨rfl, rfl⟩))
  simp only [go_sem, n2, beq_self_eq_true]
  have hl := hf.steps
  clear hq n1 n2 hb
  refine aw_loop (fun m fr st => ∃ j : Nat, j ≤ l.length ∧ m = l.length - j ∧ fr = [.any, .d (stpsD l), .ref σ.length 0, .any, .any, db true, .any, .any, .any, .any, dn j, .any, .any, .any, .any, .any, .any, .any, .any, .any, .any, .any, .any, .any, .any, .any, .any, .any, .any, .any, .any, .any, .any, .any, .any, .any, .any, .any, .any, .any, .any, .any, .any, .any, .any, .any, .any, .any, .any, .any, .any, .any, .any, .any, .any, .any, .any, .any, .any, .any, .any, .any, .any, .any, .any, .any, .any, .any, .any, .any, .any, .any] ∧ st = σ ++ [some (.cells [.d (iD f.vars), .d (clsD f.cls)])]) l.length _
    (Wk.mask [1, 2, 5, 10] ⟨0, by omega, rfl, rfl, rfl⟩) ?_
  rintro m fr st ⟨j, hj, hm, rfl, rfl⟩
  rcases Nat.lt_or_ge j l.length with hlt | hge
  · have hd : decide ((j : Int) < (l.length : Int)) = true := decide_eq_true (by omega)
    have e1 := stpD_getD hlt
    have w2 := wrapS j (by omega)
    have htk := take_snoc (⟨[], []⟩ : Stp) hlt
    generalize l.getD j ⟨[], []⟩ = s at e1 htk
    have hf' : Fine2 f (l.take j ++ [s]) := ⟨⟨hf.vars, hf.cls, hf.len, by rw [← htk, List.length_take]; omega, fun t ht => hf.lits t (by rw [← htk] at ht; exact List.mem_of_mem_take ht)⟩, fun t ht => hf.lits12 t (by rw [← htk] at ht; exact List.mem_of_mem_take ht)⟩
    simp only [stpsD, go_sem, hd, List.length_map]
    refine aw_plan (.tk 8 0 <| .tk 2 10 <| .tk 2 13 <| .pure 8 <| .take 9 <| .take 12 <| .tk 2 15 <| .pure 17 <| .take 18 <| .done) (by kernel_rfl) ?_
    simp only [go_sem, e1, List.length_map, ← List.map_take]
    obtain ⟨b, hb⟩ : ∃ b, stepG f (l.take j) s = b := ⟨_, rfl⟩
    refine ⟨⟨by omega, by omega, by omega⟩, ⟨by omega, by omega⟩, exP (db b) ⟨fun σ' => ?_, ?_⟩⟩
    · simp only [go_sem]
      exact ac' (step_ac f (l.take j) s hf' _ _ _ (by rw [hb]; exact ⟨rfl, rfl⟩))
    simp only [go_sem, e1, List.length_map, ← List.map_take]
    refine ⟨⟨by omega, by omega, by omega⟩, ⟨by omega, by omega⟩, exP (db b) ⟨fun σ' => ?_, ?_⟩⟩
    · simp only [go_sem]
      exact ac' (rstepF_ac f (l.take j) s hf'.toFine _ _ _ (by rw [hb]; exact ⟨rfl, rfl⟩))
    simp only [go_sem, beq_self_eq_true, w2]
    exact Wk.mask [1, 2, 5, 10] ⟨l.length - (j + 1), by omega, j + 1, hlt, rfl, rfl, rfl⟩
  · have hd : decide ((j : Int) < (l.length : Int)) = false := decide_eq_false (by omega)
    simp only [stpsD, go_sem, hd, List.length_map, Try.results10]
    exact ret_d hbd h
end Go.Proofs.Ytpmjdaiboniagaa
