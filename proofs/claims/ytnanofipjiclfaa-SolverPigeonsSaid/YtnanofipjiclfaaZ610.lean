import Derived.Test.YtnanofipjiclfaaZ69
import Derived.Test.YtnanofipjiclfaaAbMore

section PartX13
/- Pigeons' walk. -/
set_option linter.unusedSimpArgs false
set_option linter.unusedVariables false
set_option maxRecDepth 100000
namespace Go.Proofs.Ytnanofipjiclfaa
open Go Go.Ab
variable {I : Sl → Nat} {S : Sv} {σ : St}

theorem pigC_len (n p k : Nat) : (pigC n p k).length = k := by unfold pigC; simp
theorem pigC_snoc (n p k : Nat) : pigC n p (k + 1) = pigC n p k ++ [((n * p + k + 1 : Nat) : Int)] := by unfold pigC; rw [List.range_succ, List.map_append]; rfl
theorem pigP_snoc (n p k : Nat) : pigP n p (k + 1) = pigP n p k ++ pigH n p k := by unfold pigP; rw [List.range_succ, List.flatMap_append]; simp
theorem pigs_snoc (n k : Nat) : pigs n (k + 1) = pigs n k ++ pigR n k := by unfold pigs; rw [List.range_succ, List.flatMap_append]; simp
theorem pigH_len (n p k : Nat) : (pigH n p k).length = p := by unfold pigH; simp
theorem pigH_get {n p k q : Nat} (h : q < p) : (pigH n p k).getD q [] = pigQ n p k q := by
  unfold pigH
  rw [List.getD_eq_getElem?_getD, List.getElem?_map, List.getElem?_range h]; rfl
theorem pigP_len {n p k : Nat} (hk : k ≤ 3) (hp : p ≤ 3) : (pigP n p k).length ≤ 9 := by
  induction k with
  | zero => exact Nat.zero_le _
  | succ k ih =>
    have : (pigP n p k).length ≤ 3 * k := by
      clear ih hk
      induction k with
      | zero => exact Nat.zero_le _
      | succ k ih => rw [pigP_snoc, List.length_append, pigH_len]; omega
    rw [pigP_snoc, List.length_append, pigH_len]; omega
theorem pigs_len {n k : Nat} (hn : n ≤ 3) (hk : k ≤ 4) : (pigs n k).length ≤ 10 * k := by
  induction k with
  | zero => exact Nat.zero_le _
  | succ k ih =>
    have h1 := ih (by omega)
    have h2 := pigP_len (n := n) (p := k) hn (by omega)
    rw [pigs_snoc, List.length_append]
    unfold pigR
    rw [List.length_append, List.length_singleton]; omega
theorem frz_snoc (id : Nat) (w : Option TypeId) (B : List (List Int)) (l : List Int) : frzL id 1 0 (l.map iD) (clzA B ++ [A.rs id 1 0 l.length w]) = clzA (B ++ [l]) := by
  rw [← clzA_snoc]
  unfold clzA
  induction B with
  | nil => simp [frzL, A.frz, isD]
  | cons x B ih =>
    simp only [List.map_cons, List.cons_append, frzL, A.frz, ih]
set_option maxHeartbeats 4000000 in
theorem pigeons_ac (n : Nat) (hn : n ≤ 3) (σ : St) (G : Glob) (R : A → St → Prop) (h : R (.tup [dn (n * (n + 1)), .d (csD (pig n))]) σ) : AC Try.prog G 25 [dn n] σ R := by
  refine ac_enter mixed Try.func25 rfl Try.ntmps25 (by simp only [go_sem]) fun hbd => ?_
  simp only [List.length_cons, List.length_nil, Nat.reduceAdd, Nat.reduceSub, List.replicate_succ, List.replicate_zero, List.cons_append, List.nil_append]
  simp only [go_sem, Try.results25]
  refine aw_loop (fun m fr st => ∃ p : Nat, p ≤ n + 1 ∧ m = n + 1 - p ∧ fr = [dn n, .any, .any, .any, .rs σ.length 1 0 (pigs n p).length (some 28), dn p, .any, .any, .any, .any, .any, .any, .any, .any, .any, .any, .any, .any, .any, .any, .any, .any, .any, .any, .any, .any, .any, .any, .any, .any, .any, .any, .any, .any, .any, .any, .any, .any, .any, .any, .any, .any, .any, .any, .any, .any, .any, .any, .any, .any, .any, .any, .any, .any, .any, .any, .any, .any, .any, .any] ∧ st = σ ++ [some (.cells (clzA (pigs n p)))]) (n + 1) _
    (Wk.via ((Weak.mask [0, 4, 5]).trans (Weak.empty 4 1 (some 28) rfl)) (Wk.mask [0, 4, 5] ⟨0, by omega, by omega, rfl, rfl⟩)) ?_
  rintro m fr st ⟨p, hp, hm, rfl, rfl⟩
  have hpl := pigs_len (k := p) hn (by omega)
  have hsn := pigs_snoc n p
  unfold pigR at hsn
  rcases Nat.lt_or_ge p (n + 1) with plt | pge
  · have pd : decide ((p : Int) ≤ (n : Int)) = true := decide_eq_true (by omega)
    have pw := wrapS p (by omega)
    have hnp : n * p ≤ 9 := Nat.le_trans (Nat.mul_le_mul hn (by omega : p ≤ 3)) (by decide)
    have w1 : IntKind.i64.wrap ((n : Int) * (p : Int)) = ((n * p : Nat) : Int) := by rw [← Int.natCast_mul]; exact wrap64_id _ (by omega) (by omega)
    generalize pigs n p = B0 at hpl hsn
    simp only [go_sem, pd, Try.results25]
    refine aw_loop (fun m fr st => ∃ k : Nat, k ≤ n ∧ m = n - k ∧ fr = [dn n, .any, .any, .any, .rs σ.length 1 0 (B0 ++ pigP n p k).length (some 28), dn p, .rs (σ.length + 1) 1 0 k (some 3), dn k, .any, .any, .any, .any, .any, .any, .any, .any, .any, .any, .any, .any, .any, .any, .any, .any, .any, .any, .any, .any, .any, .any, .any, .any, .any, .any, .any, .any, .any, .any, .any, .any, .any, .any, .any, .any, .any, .any, .any, .any, .any, .any, .any, .any, .any, .any, .any, .any, .any, .any, .any, .any] ∧ st = σ ++ [some (.cells (clzA (B0 ++ pigP n p k))), some (.cells (intsA (pigC n p k)))]) n _
      (Wk.via ((Weak.mask [0, 4, 5, 6, 7]).trans (Weak.empty 6 1 (some 3) rfl)) (Wk.mask [0, 4, 5, 6, 7] ⟨0, by omega, by omega, by rw [List.length_append]; simp [pigP, pigC, maskN], by simp [pigP, pigC, intsA]⟩)) ?_
    rintro m2 fr st ⟨k, hk, hm2, rfl, rfl⟩
    have hqn := pigP_snoc n p k
    have hql := pigP_len (n := n) (p := p) (k := k) (by omega) (by omega)
    have hbl : (B0 ++ pigP n p k).length ≤ 49 := by rw [List.length_append]; omega
    have hbn : B0 ++ pigP n p (k + 1) = B0 ++ pigP n p k ++ pigH n p k := by rw [hqn, List.append_assoc]
    rcases Nat.lt_or_ge k n with klt | kge
    · generalize B0 ++ pigP n p k = Bk at hbl hbn
      have kd : decide ((k : Int) < (n : Int)) = true := decide_eq_true (by omega)
      have kw := wrapS k (by omega)
      have w2 : IntKind.i64.wrap (((n * p : Nat) : Int) + (k : Int)) = ((n * p + k : Nat) : Int) := by rw [wrap64_id _ (by omega) (by omega)]; omega
      have w3 := wrapS (n * p + k) (by omega)
      have w4 : IntKind.i64.wrap (0 - ((n * p + k + 1 : Nat) : Int)) = -((n * p + k + 1 : Nat) : Int) := by rw [wrap64_id _ (by omega) (by omega)]; omega
      have hcn := pigC_snoc n p k
      have hcl := pigC_len n p k
      simp only [go_sem, kd, w1, w2, w3, Try.results25]
      refine ⟨⟨by rw [intsA_len, hcl]; omega, by simp only [maxLen]; omega, by omega⟩, ?_⟩
      refine aw_loop (fun m fr st => ∃ q : Nat, q ≤ p ∧ m = p - q ∧ fr = [dn n, .any, .any, .any, .rs σ.length 1 0 (Bk ++ (pigH n p k).take q).length (some 28), dn p, .rs (σ.length + 1) 1 0 (k + 1) (some 3), dn k, dn q, .any, .any, .any, .any, .any, .any, .any, .any, .any, .any, .any, .any, .any, .any, .any, .any, .any, .any, .any, .any, .any, .any, .any, .any, .any, .any, .any, .any, .any, .any, .any, .any, .any, .any, .any, .any, .any, .any, .any, .any, .any, .any, .any, .any, .any, .any, .any, .any, .any, .any, .any] ∧ st = σ ++ [some (.cells (clzA (Bk ++ (pigH n p k).take q))), some (.cells (intsA (pigC n p (k + 1))))]) p _
        (Wk.keep [0, 4, 5, 6, 7, 8] [0, 3] (by decide) (Nat.le_refl _) hbd ⟨0, by omega, by omega, by simp only [go_sem, List.take_zero, List.append_nil]; rfl, by simp only [go_sem, ren_cls, List.take_zero, List.append_nil, hcn, ren_ints, ← intsA_snoc]⟩) ?_
      rintro m3 fr st ⟨q, hq, hm3, rfl, rfl⟩
      rcases Nat.lt_or_ge q p with qlt | qge
      · have qd : decide ((q : Int) < (p : Int)) = true := decide_eq_true (by omega)
        have qw := wrapS q (by omega)
        have hnq : n * q ≤ 9 := Nat.le_trans (Nat.mul_le_mul hn (by omega : q ≤ 3)) (by decide)
        have w5 : IntKind.i64.wrap ((n : Int) * (q : Int)) = ((n * q : Nat) : Int) := by rw [← Int.natCast_mul]; exact wrap64_id _ (by omega) (by omega)
        have w6 : IntKind.i64.wrap (((n * q : Nat) : Int) + (k : Int)) = ((n * q + k : Nat) : Int) := by rw [wrap64_id _ (by omega) (by omega)]; omega
        have w7 := wrapS (n * q + k) (by omega)
        have w8 : IntKind.i64.wrap (0 - ((n * q + k + 1 : Nat) : Int)) = -((n * q + k + 1 : Nat) : Int) := by rw [wrap64_id _ (by omega) (by omega)]; omega
        have hqs : (pigH n p k).take (q + 1) = (pigH n p k).take q ++ [pigQ n p k q] := by rw [take_getD [] (by rw [pigH_len]; exact qlt), pigH_get qlt]
        have hBs : Bk ++ (pigH n p k).take (q + 1) = Bk ++ (pigH n p k).take q ++ [pigQ n p k q] := by rw [hqs, List.append_assoc]
        have hBl : (Bk ++ (pigH n p k).take q).length ≤ 60 := by rw [List.length_append, List.length_take]; omega
        generalize Bk ++ (pigH n p k).take q = Bq at hBs hBl
        simp only [go_sem, qd, qw, w1, w2, w3, w4, w5, w6, w7, w8, Try.results25]
        refine ⟨⟨by rw [clzA_len]; omega, by simp only [maxLen]; omega, by omega⟩, Wk.via ((Weak.mask [0, 4, 5, 6, 7, 8]).trans (Weak.freezeIn 2 4 1 0 ((pigQ n p k q).map iD) rfl (lies_ints (pigQ n p k q)) rfl (by decide))) (Wk.keep [0, 4, 5, 6, 7, 8] [4, 1] (by decide) (Nat.le_refl _) hbd ⟨p - (q + 1), by omega, q + 1, qlt, rfl, ?_, ?_⟩)⟩
        · have e : Bk.length + ((pigH n p k).take (q + 1)).length = Bq.length + 1 := by rw [← List.length_append, hBs, List.length_append]; rfl
          rw [e]
          simp only [go_sem, maskN, false_and, if_false]
        · have e : frzL (σ.length + 2) 1 0 ((pigQ n p k q).map iD) (clzA Bq ++ [A.rs (σ.length + 2) 1 0 2 (some 3)]) = clzA (Bq ++ [pigQ n p k q]) := frz_snoc (σ.length + 2) (some 3) Bq (pigQ n p k q)
          rw [hBs]
          simp only [go_sem, ren_cls, ren_ints, e]
      · have qd : decide ((q : Int) < (p : Int)) = false := decide_eq_false (by omega)
        have htk : (pigH n p k).take q = pigH n p k := List.take_of_length_le (by rw [pigH_len]; exact qge)
        rw [htk, ← hbn]
        simp only [go_sem, qd, kw, Try.results25]
        exact Wk.mask [0, 4, 5, 6, 7] ⟨n - (k + 1), by omega, k + 1, klt, rfl, rfl, rfl⟩
    · have kd : decide ((k : Int) < (n : Int)) = false := decide_eq_false (by omega)
      have hkn : k = n := by omega
      subst hkn
      have hsn' : pigs k (p + 1) = B0 ++ pigP k p k ++ [pigC k p k] := by rw [hsn, List.append_assoc]
      have hcl := pigC_len k p k
      generalize B0 ++ pigP k p k = Bk at hbl hsn'
      simp only [go_sem, kd, pw, Try.results25]
      refine ⟨⟨by rw [clzA_len]; omega, by simp only [maxLen]; omega, by omega⟩, Wk.via ((Weak.mask [0, 4, 5]).trans (Weak.freezeIn 1 3 1 0 ((pigC k p k).map iD) rfl (lies_ints (pigC k p k)) rfl (by decide))) (Wk.keep [0, 4, 5] [3] (by decide) (Nat.le_refl _) hbd ⟨k + 1 - (p + 1), by omega, p + 1, plt, rfl, ?_, ?_⟩)⟩
      · rw [hsn', List.length_append, List.length_singleton]
        simp only [go_sem, maskN, false_and, if_false]
      · have e := frz_snoc (σ.length + 1) (some 3) Bk (pigC k p k)
        rw [hcl] at e
        rw [hsn']
        simp only [go_sem, ren_cls, ren_ints, e]
  · have pd : decide ((p : Int) ≤ (n : Int)) = false := decide_eq_false (by omega)
    have hpn : p = n + 1 := by omega
    subst hpn
    have hn2 : n * (n + 1) ≤ 12 := Nat.le_trans (Nat.mul_le_mul hn (by omega : n + 1 ≤ 4)) (by decide)
    have v1 := wrapS n (by omega)
    have v2 : IntKind.i64.wrap ((n : Int) * ((n + 1 : Nat) : Int)) = ((n * (n + 1) : Nat) : Int) := by rw [← Int.natCast_mul]; exact wrap64_id _ (by omega) (by omega)
    simp only [go_sem, pd, v1, v2, Try.results25]
    refine ret_frz 0 1 0 ((pig n).map isD) rfl (lies_cs _) ?_
    unfold pig csD at *
    simp only [go_sem, List.length_map, if_true]
    exact ret_bd hbd rfl h
end Go.Proofs.Ytnanofipjiclfaa
end PartX13

section PartX14
/- SolverPigeons. -/
set_option linter.unusedSimpArgs false
set_option linter.unusedVariables false
set_option maxRecDepth 100000
namespace Go.Proofs.Ytnanofipjiclfaa
open Go Go.Ab
variable {I : Sl → Nat} {S : Sv} {σ : St}

set_option maxHeartbeats 8000000 in
theorem law6_ac (drop : Nat) (hdrop : drop ≤ 255) (σ : St) (G : Glob) (R : A → St → Prop) (h : ∀ s, R (db true) s) : AC Try.prog G 6 [.d (.int .u8 drop)] σ R := by
  refine ac_enterC' [3, 7, 8, 9, 11, 13, 15, 16, 17, 19] mixed Try.func6 rfl Try.ntmps6 (by simp only [go_sem]) fun hbd => ?_
  simp only [List.length_cons, List.length_nil, Nat.reduceAdd, Nat.reduceSub, List.replicate_succ, List.replicate_zero, List.cons_append, List.nil_append]
  simp only [go_sem, Try.results6]
  refine aw_cut (fun fr st => fr = [.d (.int .u8 drop), .any, .any, .any, .any, .any, .any, .any, .any, .any, .any, .any, .any, .any, .any, .any, .any, .any, .any, .any, .any, .any, .any, .any, .any, .any, .any, .any, .any, .any, .any, .any, .any, .any, .any, .any, .any, .any, .any, .any, .any, .any, .any, .any, .any, .any, .any, .any, .any, .any, .any, .any, .any, .any, .any, .any, .any, .any, .any, .any, .any, .any, .any, .any, .any, .any, .any, .any, .any, .any, .any, .any, .any, .any, .any, .any, .any, .any, .any, .any, .any, .any, .any, .any, .any, .any, .any, .any, .any, .any, .any, .any, .any, .any]) ?_ ?_
  · simp only [go_sem, Try.results6]
    refine ac' (head_ac _ _ _ ?_)
    simp only [go_sem, Try.results6]
    exact Wk.mask [0] rfl
  rintro fr st rfl
  have hout : ∀ s : St, ∃ r σ', Weak G σ.length [db true] s [r] σ' ∧ R r σ' := fun s => ⟨_, _, Weak.refl _ _ _ _, h _⟩
  simp only [go_sem, Try.results6]
  refine aw_loop (fun q fr s => ∃ i : Nat, 1 ≤ i ∧ i ≤ 4 ∧ q = 4 - i ∧ fr = [.d (.int .u8 drop), .any, .any, dn i, .any, .any, .any, .any, .any, .any, .any, .any, .any, .any, .any, .any, .any, .any, .any, .any, .any, .any, .any, .any, .any, .any, .any, .any, .any, .any, .any, .any, .any, .any, .any, .any, .any, .any, .any, .any, .any, .any, .any, .any, .any, .any, .any, .any, .any, .any, .any, .any, .any, .any, .any, .any, .any, .any, .any, .any, .any, .any, .any, .any, .any, .any, .any, .any, .any, .any, .any, .any, .any, .any, .any, .any, .any, .any, .any, .any, .any, .any, .any, .any, .any, .any, .any, .any, .any, .any, .any, .any, .any, .any]) 3 _
    (Wk.mask [0, 3] ⟨1, by omega, by omega, rfl, rfl⟩) ?_
  rintro q fr s0 ⟨i, hi1, hi4, rfl, rfl⟩
  rcases Nat.lt_or_ge i 4 with hlt | hge
  · have hd : decide ((i : Int) ≤ 3) = true := decide_eq_true (by omega)
    have w2 := wrapS i (by omega)
    have hP := pig_all hi1 (by omega)
    simp only [go_sem, hd, Try.results6]
    refine aw_cut (fun fr s => fr = [.d (.int .u8 drop), .any, .any, dn i, dn (i * (i + 1)), .d (csD (pig i)), .any, .any, .any, .any, .any, .any, .any, .any, .any, .any, .any, .any, .any, .any, .any, .any, .any, .any, .any, .any, .any, .any, .any, .any, .any, .any, .any, .any, .any, .any, .any, .any, .any, .any, .any, .any, .any, .any, .any, .any, .any, .any, .any, .any, .any, .any, .any, .any, .any, .any, .any, .any, .any, .any, .any, .any, .any, .any, .any, .any, .any, .any, .any, .any, .any, .any, .any, .any, .any, .any, .any, .any, .any, .any, .any, .any, .any, .any, .any, .any, .any, .any, .any, .any, .any, .any, .any, .any] ∧ s = s0) ?_ ?_
    · simp only [go_sem, hd, Try.results6]
      refine ac' (pigeons_ac i (by omega) _ _ _ ?_)
      simp only [go_sem, Try.results6]
      exact Wk.mask [0, 3, 4, 5] ⟨rfl, rfl⟩
    rintro fr s ⟨rfl, rfl⟩
    have hV := hP.v12
    have hCl := hP.lits
    have hCp := hP.pos
    have hCn := hP.l22
    have hyes := hP.yes
    have hno := hP.no
    generalize hVe : i * (i + 1) = V at hV hCl
    generalize pig i = C at hCl hCp hCn hyes hno
    clear hP
    obtain ⟨hp1, hp2⟩ := pow12 hV
    have hCl' : ∀ c ∈ C, (∀ l ∈ c, LitV V l) ∧ c.length ≤ 1000000 := fun c hc => ⟨(hCl c hc).1, by have := (hCl c hc).2; omega⟩
    simp only [go_sem, Try.results6]
    refine aw_cut (fun fr t => ∃ I S, fr = [.d (.int .u8 drop), .any, .any, dn i, dn V, .d (csD C), .ref (I .st) 0, .any, .any, .any, .any, .any, .any, .any, .any, .any, .any, .any, .any, .any, .any, .any, .any, .any, .any, .any, .any, .any, .any, .any, .any, .any, .any, .any, .any, .any, .any, .any, .any, .any, .any, .any, .any, .any, .any, .any, .any, .any, .any, .any, .any, .any, .any, .any, .any, .any, .any, .any, .any, .any, .any, .any, .any, .any, .any, .any, .any, .any, .any, .any, .any, .any, .any, .any, .any, .any, .any, .any, .any, .any, .any, .any, .any, .any, .any, .any, .any, .any, .any, .any, .any, .any, .any, .any] ∧ Hed s V C.length C 0 0 I S t) ?_ ?_
    · simp only [go_sem, Try.results6]
      refine ac' (with_ac V (by omega) C (by omega) hCl' _ _ _ fun I s2 k1 k2 => ?_)
      obtain ⟨a1, a2, a3⟩ := addAll_cls V (by omega) C (by omega) hCl'
      simp only [go_sem, Try.results6]
      exact Wk.mask [0, 3, 4, 5, 6] ⟨I, _, rfl, k1, k2, a1, by rw [a2]; exact Nat.le_refl _, by rw [a3]; exact Nat.le_refl _⟩
    rintro fr t ⟨I, S, rfl, hH⟩
    simp only [go_sem, Try.results6]
    refine aw_cut (fun fr t => ∃ I S v, fr = [.d (.int .u8 drop), .any, .any, dn i, dn V, .d (csD C), .ref (I .st) 0, di v, .any, .any, .any, .any, .any, .any, .any, .any, .any, .any, .any, .any, .any, .any, .any, .any, .any, .any, .any, .any, .any, .any, .any, .any, .any, .any, .any, .any, .any, .any, .any, .any, .any, .any, .any, .any, .any, .any, .any, .any, .any, .any, .any, .any, .any, .any, .any, .any, .any, .any, .any, .any, .any, .any, .any, .any, .any, .any, .any, .any, .any, .any, .any, .any, .any, .any, .any, .any, .any, .any, .any, .any, .any, .any, .any, .any, .any, .any, .any, .any, .any, .any, .any, .any, .any, .any] ∧ Hed s V (C.length + 1) C 1000000 5000 I S t ∧ ((v = 0 ∧ pmax ≤ S.steps.length) ∨ (v = 2 ∧ coreM S = [] ∧ (S.refuted = true → S.core.length ≤ 1000000)))) ?_ ?_
    · simp only [go_sem, Try.results6]
      refine ac' (ac_weak (Weak.nils nilA_asm) ?_)
      refine hed_solve hH (by omega) (by decide) hV [] (by decide) (fun l hl => by cases hl) 1000000 (by decide) _ _ fun m r hr k1 I' st' k2 k3 => ?_
      have hx := k1.vx (by rw [hH.cls.vars]; omega)
      rw [hH.cls.cls] at hx
      rw [← k3.st]
      simp only [go_sem, Try.results6]
      refine Wk.mask [0, 3, 4, 5, 6, 7] ⟨I', _, r.2, rfl, k2.mono (Nat.le_refl _) (by omega) (by omega), ?_⟩
      rcases hx.v3 with e | e | e
      · exact .inl ⟨e, hx.z e⟩
      · exact absurd (hx.y e) hno
      · obtain ⟨h1, -, h2, h3, -⟩ := k1.no e
        have hc : (r.1.finish 1000000).core = [] := List.eq_nil_iff_forall_not_mem.2 fun x hx' => by cases h2 x hx'
        exact .inr ⟨e, by unfold coreM; rw [hc]; simp, fun _ => by omega⟩
    clear hH I S
    rintro fr t ⟨I, S, v, rfl, hH, hv⟩
    have hz := hH.cls.rest.szs
    simp only [go_sem, Try.results6]
    refine aw_cut (fun fr t' => v = 2 ∧ coreM S = [] ∧ (S.refuted = true → S.core.length ≤ 1000000) ∧ fr = [.d (.int .u8 drop), .any, .any, dn i, dn V, .d (csD C), .ref (I .st) 0, di 2, .any, .any, .any, .any, .any, .any, .any, .any, .any, .any, .any, .any, .any, .any, .any, .any, .any, .any, .any, .any, .any, .any, .any, .any, .any, .any, .any, .any, .any, .any, .any, .any, .any, .any, .any, .any, .any, .any, .any, .any, .any, .any, .any, .any, .any, .any, .any, .any, .any, .any, .any, .any, .any, .any, .any, .any, .any, .any, .any, .any, .any, .any, .any, .any, .any, .any, .any, .any, .any, .any, .any, .any, .any, .any, .any, .any, .any, .any, .any, .any, .any, .any, .any, .any, .any, .any] ∧ t' = t) ?_ ?_
    · rcases hv with ⟨rfl, hv⟩ | ⟨rfl, hv1, hv2⟩
      · have z0 : ((0 : Int) == 0) = true := rfl
        simp only [go_sem, z0, Try.results6]
        refine ex' (.bool true) ⟨fun _ => ?_, ?_⟩
        · simp only [go_sem]
          refine ac' (full_ac hH.hs.sol hz _ _ ?_)
          rw [decide_eq_true (by simp only [pmax] at hv; omega)]
          exact And.intro rfl rfl
        simp only [go_sem, Try.results6]
        exact hout _
      · have z0 : ((2 : Int) == 0) = false := rfl
        simp only [go_sem, z0, Try.results6]
        refine ex' (.bool true) ⟨fun q => Bool.noConfusion q, ?_⟩
        simp only [go_sem, Try.results6]
        exact Wk.mask [0, 3, 4, 5, 6, 7] ⟨hv1, hv2, rfl, rfl⟩
    clear hv
    rintro fr t' ⟨rfl, hv1, hv2, rfl, rfl⟩
    simp only [go_sem, Try.results6]
    refine aw_cut (fun fr t => fr = [.d (.int .u8 drop), .any, .any, dn i, dn V, .d (csD C), .any, .any, .any, .any, .any, .any, .any, .any, .any, .any, .any, .any, .any, .any, .any, .any, .any, .any, .any, .any, .any, .any, .any, .any, .any, .any, .any, .any, .any, .any, .any, .any, .any, .any, .any, .any, .any, .any, .any, .any, .any, .any, .any, .any, .any, .any, .any, .any, .any, .any, .any, .any, .any, .any, .any, .any, .any, .any, .any, .any, .any, .any, .any, .any, .any, .any, .any, .any, .any, .any, .any, .any, .any, .any, .any, .any, .any, .any, .any, .any, .any, .any, .any, .any, .any, .any, .any, .any]) ?_ ?_
    · have z0 : ((2 : Int) != 2) = false := rfl
      simp only [go_sem, z0, Try.results6]
      refine ex' (isD []) ⟨fun _ => ?_, ?_⟩
      · simp only [go_sem]
        refine ac' (core_ac hH.hs.sol hv2 _ _ ?_)
        rw [hv1]
        exact And.intro rfl rfl
      have q3 : (((0 : Nat) : Int) != 0) = false := rfl
      simp only [isD, List.map_nil, go_sem, z0, q3, Try.results6]
      refine ex' (prfD (proofM S)) ⟨fun _ => ?_, ?_⟩
      · simp only [go_sem]
        exact ac' (proof_ac hH.hs.sol hz.1 hz.2.1 hz.2.2 _ _ (And.intro rfl rfl))
      simp only [go_sem, z0, q3, Try.results6]
      refine ex' (.bool true) ⟨fun _ => ?_, ?_⟩
      · simp only [go_sem]
        exact ac' (all_ac V (by omega) C (proofM S) (prf_of hH.cls) _ _ _ (And.intro rfl rfl))
      simp only [go_sem, z0, q3, Try.results6]
      exact Wk.mask [0, 3, 4, 5] rfl
    clear hH hz hv1 hv2 I S t'
    rintro fr t rfl
    unfold csD
    simp only [go_sem, List.length_map, Try.results6]
    have hrm : Int.tmod (drop : Int) (C.length : Int) = ((drop % C.length : Nat) : Int) := rfl
    refine ⟨by omega, ?_⟩
    have hat : drop % C.length < C.length := Nat.mod_lt _ hCp
    obtain ⟨at', hat'⟩ : ∃ x, drop % C.length = x := ⟨_, rfl⟩
    rw [hat'] at hat hrm
    have wat := wrapS at' (by omega)
    obtain ⟨D, hD⟩ : ∃ D, C.take at' ++ C.drop (at' + 1) = D := ⟨_, rfl⟩
    have hDs : SatA D [] := by rw [← hD]; exact hyes at' hat
    have hDC : ∀ c ∈ D, c ∈ C := fun c hc => by
      rw [← hD] at hc
      rcases List.mem_append.1 hc with hc | hc
      · exact List.mem_of_mem_take hc
      · exact List.mem_of_mem_drop hc
    have hDl : D.length ≤ 22 := by rw [← hD, List.length_append, List.length_take, List.length_drop]; omega
    have hDv : ∀ c ∈ D, (∀ l ∈ c, LitV V l) ∧ c.length ≤ 1000000 := fun c hc => hCl' c (hDC c hc)
    refine aw_cut (fun fr s => fr = [.d (.int .u8 drop), .any, .any, dn i, dn V, .any, .any, .any, .any, .any, .d (csD D), .any, .any, .any, .any, .any, .any, .any, .any, .any, .any, .any, .any, .any, .any, .any, .any, .any, .any, .any, .any, .any, .any, .any, .any, .any, .any, .any, .any, .any, .any, .any, .any, .any, .any, .any, .any, .any, .any, .any, .any, .any, .any, .any, .any, .any, .any, .any, .any, .any, .any, .any, .any, .any, .any, .any, .any, .any, .any, .any, .any, .any, .any, .any, .any, .any, .any, .any, .any, .any, .any, .any, .any, .any, .any, .any, .any, .any, .any, .any, .any, .any, .any, .any]) ?_ ?_
    · refine aw_plan (.tk 3 1 <| .tk 3 5 <| .alt 0 (.alt 4 (.tk 3 8 <| .done) <| .alt 8 (.take 4 <| .tk 2 9 <| .done) <| .stop) <| .alt 8 (.take 0 <| .take 4 <| .tk 2 9 <| .done) <| .stop) (by kernel_rfl) ?_
      have w1 : (at' : Int).toNat = at' := Int.toNat_natCast _
      have w1' : ((at' + 1 : Nat) : Int).toNat = at' + 1 := Int.toNat_natCast _
      have wd : IntKind.i64.wrap (drop : Int) = (drop : Int) := wrap64_id _ (by omega) (by omega)
      have htl : List.take C.length (C.map isD) = C.map isD := List.take_of_length_le (by simp)
      have l1 : (C.take at').length = at' := by rw [List.length_take]; omega
      have l2 : (C.drop (at' + 1)).length = C.length - (at' + 1) := List.length_drop
      simp only [go_sem, List.length_map, wd, hrm, wat, w1, w1', htl, ← List.map_take, ← List.map_drop, flat_cls, clzA_len, l1, l2, Try.results6]
      have hcs : clzA (C.take at') ++ clzA (C.drop (at' + 1)) = clzA D := by rw [← hD]; unfold clzA; rw [List.map_append]
      have hDn : at' + (C.length - (at' + 1)) = D.length := by rw [← hD, List.length_append, l1, l2]
      have hget : (t ++ [none, none, some (Ob.cells (clzA (C.take at') ++ clzA (C.drop (at' + 1))))])[t.length + 2]? = some (some (.cells (clzA D))) := by
        rw [List.getElem?_append_right (by omega), Nat.add_sub_cancel_left, ← hcs]; rfl
      have m1 : at' ≤ maxLen := by simp only [maxLen]; omega
      have m2 : at' + (C.length - (at' + 1)) ≤ maxLen := by simp only [maxLen]; omega
      have m3 : D.length ≤ maxLen := by simp only [maxLen]; omega
      have lie : Lies (clzA D) 1 0 (D.map isD) := lies_cs D
      simp only [hDn]
      refine ⟨by omega, ⟨⟨⟨m1, by omega⟩, by omega, ⟨by omega, m3, by omega⟩, ?_⟩, by omega, ⟨m1, by omega⟩, ⟨by omega, m3, by omega⟩, ?_⟩, by omega, ⟨m1, by omega⟩, ⟨by omega, m3, by omega⟩, ?_⟩
      all_goals
        refine Wk.via ((Weak.mask [0, 3, 4, 10]).trans (Weak.freeze (t.length + 2) 1 0 (D.map isD) hget lie)) (Wk.mask [0, 3, 4, 10] ?_)
        simp [maskN, frzL, A.frz, csD]
    clear hyes hno hCl hCl' hD hDC hCn hCp
    rintro fr s1 rfl
    simp only [go_sem, Try.results6]
    refine aw_cut (fun fr t => ∃ I S, fr = [.d (.int .u8 drop), .any, .any, dn i, dn V, .any, .any, .any, .any, .any, .d (csD D), .ref (I .st) 0, .any, .any, .any, .any, .any, .any, .any, .any, .any, .any, .any, .any, .any, .any, .any, .any, .any, .any, .any, .any, .any, .any, .any, .any, .any, .any, .any, .any, .any, .any, .any, .any, .any, .any, .any, .any, .any, .any, .any, .any, .any, .any, .any, .any, .any, .any, .any, .any, .any, .any, .any, .any, .any, .any, .any, .any, .any, .any, .any, .any, .any, .any, .any, .any, .any, .any, .any, .any, .any, .any, .any, .any, .any, .any, .any, .any, .any, .any, .any, .any, .any, .any] ∧ Hed s1 V D.length D 0 0 I S t) ?_ ?_
    · simp only [go_sem, Try.results6]
      refine ac' (with_ac V (by omega) D (by omega) hDv _ _ _ fun I s2 k1 k2 => ?_)
      obtain ⟨a1, a2, a3⟩ := addAll_cls V (by omega) D (by omega) hDv
      simp only [go_sem, Try.results6]
      exact Wk.mask [0, 3, 4, 10, 11] ⟨I, _, rfl, k1, k2, a1, by rw [a2]; exact Nat.le_refl _, by rw [a3]; exact Nat.le_refl _⟩
    rintro fr t ⟨I, S, rfl, hH⟩
    simp only [go_sem, Try.results6]
    refine aw_cut (fun fr t => ∃ I S v, fr = [.d (.int .u8 drop), .any, .any, dn i, .any, .any, .any, .any, .any, .any, .d (csD D), .ref (I .st) 0, di v, .any, .any, .any, .any, .any, .any, .any, .any, .any, .any, .any, .any, .any, .any, .any, .any, .any, .any, .any, .any, .any, .any, .any, .any, .any, .any, .any, .any, .any, .any, .any, .any, .any, .any, .any, .any, .any, .any, .any, .any, .any, .any, .any, .any, .any, .any, .any, .any, .any, .any, .any, .any, .any, .any, .any, .any, .any, .any, .any, .any, .any, .any, .any, .any, .any, .any, .any, .any, .any, .any, .any, .any, .any, .any, .any, .any, .any, .any, .any, .any, .any] ∧ Hed s1 V (D.length + 1) D 1000000 5000 I S t ∧ ((v = 0 ∧ pmax ≤ S.steps.length) ∨ (v = 1 ∧ S.satisfied = true ∧ S.values.length = V ∧ SatC (βV S.values) D))) ?_ ?_
    · simp only [go_sem, Try.results6]
      refine ac' (ac_weak (Weak.nils nilA_asm) ?_)
      refine hed_solve hH (by omega) (by decide) hV [] (by decide) (fun l hl => by cases hl) 1000000 (by decide) _ _ fun m r hr k1 I' st' k2 k3 => ?_
      have hx := k1.vx (by rw [hH.cls.vars]; omega)
      rw [hH.cls.cls] at hx
      rw [← k3.st]
      simp only [go_sem, Try.results6]
      refine Wk.mask [0, 3, 10, 11, 12] ⟨I', _, r.2, rfl, k2.mono (Nat.le_refl _) (by omega) (by omega), ?_⟩
      rcases hx.v3 with e | e | e
      · exact .inl ⟨e, hx.z e⟩
      · obtain ⟨-, h1, h2, h3, -⟩ := k1.yes e
        rw [hH.cls.vars] at h2
        rw [hH.cls.cls] at h3
        exact .inr ⟨e, h1, h2, h3⟩
      · exact absurd hDs (hx.n e)
    clear hH I S
    rintro fr t ⟨I, S, v, rfl, hH, hv⟩
    have hz := hH.cls.rest.szs
    simp only [go_sem, Try.results6]
    refine aw_cut (fun fr t' => v = 1 ∧ S.satisfied = true ∧ S.values.length = V ∧ SatC (βV S.values) D ∧ fr = [.d (.int .u8 drop), .any, .any, dn i, .any, .any, .any, .any, .any, .any, .d (csD D), .ref (I .st) 0, di 1, .any, .any, .any, .any, .any, .any, .any, .any, .any, .any, .any, .any, .any, .any, .any, .any, .any, .any, .any, .any, .any, .any, .any, .any, .any, .any, .any, .any, .any, .any, .any, .any, .any, .any, .any, .any, .any, .any, .any, .any, .any, .any, .any, .any, .any, .any, .any, .any, .any, .any, .any, .any, .any, .any, .any, .any, .any, .any, .any, .any, .any, .any, .any, .any, .any, .any, .any, .any, .any, .any, .any, .any, .any, .any, .any, .any, .any, .any, .any, .any, .any] ∧ t' = t) ?_ ?_
    · rcases hv with ⟨rfl, hv⟩ | ⟨rfl, hv1, hv2, hv3⟩
      · have z0 : ((0 : Int) == 0) = true := rfl
        simp only [go_sem, z0, Try.results6]
        refine ex' (.bool true) ⟨fun _ => ?_, ?_⟩
        · simp only [go_sem]
          refine ac' (full_ac hH.hs.sol hz _ _ ?_)
          rw [decide_eq_true (by simp only [pmax] at hv; omega)]
          exact And.intro rfl rfl
        simp only [go_sem, Try.results6]
        exact hout _
      · have z0 : ((1 : Int) == 0) = false := rfl
        simp only [go_sem, z0, Try.results6]
        refine ex' (.bool true) ⟨fun q => Bool.noConfusion q, ?_⟩
        simp only [go_sem, Try.results6]
        exact Wk.mask [0, 3, 10, 11, 12] ⟨hv1, hv2, hv3, rfl, rfl⟩
    clear hv
    rintro fr t' ⟨rfl, hv1, hv2, hv3, rfl, rfl⟩
    have hvm : valsM S = S.values := by unfold valsM; rw [hv1]; rfl
    have hbl : bitsN S.values ≤ 1000000000000 := by
      have h1 := bitsN_lt S.values
      have h2 : 2 ^ S.values.length ≤ 2 ^ 12 := Nat.pow_le_pow_right (by decide) (by omega)
      omega
    have hsb : satB (bitsN S.values) D = true := (satB_c (fun c hc l hl => ((hDv c hc).1 l hl).1) fun v hv => by rw [bitsN_bit]; rfl).2 hv3
    have z0 : ((1 : Int) != 1) = false := rfl
    simp only [go_sem, z0, Try.results6]
    refine ex' (bsD S.values) ⟨fun _ => ?_, ?_⟩
    · simp only [go_sem]
      refine ac' (values_ac hH.hs.sol (fun _ => by omega) _ _ ?_)
      rw [hvm]
      exact And.intro rfl rfl
    simp only [go_sem, z0, Try.results6]
    refine ex' (iD (bitsN S.values : Nat)) ⟨fun _ => ?_, ?_⟩
    · simp only [go_sem]
      exact ac' (bits_ac S.values (by omega) _ _ _ (And.intro rfl rfl))
    simp only [go_sem, z0, Try.results6]
    refine ex' (.bool true) ⟨fun _ => ?_, ?_⟩
    · simp only [go_sem]
      refine ac' (ac_weak (Weak.nils (NilAL.cons (.refl _) (NilAL.cons (.refl _) (NilAL.cons (.d (.nil 1)) .nil)))) (sat_ac (bitsN S.values) hbl D (by omega) (fun c hc => ⟨(hDv c hc).2, fun l hl => by have := (hDv c hc).1 l hl; unfold LitV at this ⊢; omega⟩) _ _ _ ?_))
      rw [hsb]
      exact And.intro rfl rfl
    simp only [go_sem, z0, w2, Try.results6]
    exact Wk.mask [0, 3] ⟨4 - (i + 1), by omega, i + 1, by omega, by omega, rfl, rfl⟩
  · have hd : decide ((i : Int) ≤ 3) = false := decide_eq_false (by omega)
    simp only [go_sem, hd, Try.results6]
    exact hout _
end Go.Proofs.Ytnanofipjiclfaa
end PartX14
