import Derived.Test.YtmjlhbkgljcnoaaGreatDoorZ34

section PartT19
/- Relations: rows, pairs, the relation of rows. -/
set_option linter.unusedSimpArgs false
set_option linter.unusedVariables false
set_option maxRecDepth 100000
namespace Go.Proofs.YtmjlhbkgljcnoaaGreatDoor
open Go Go.Ab

@[go_sem ↓] theorem headId_rangeFunc (g : Operand) (ps : Array Tmp) (a b : Code) : headId (.rangeFunc g ps a b) = none := (rfl)
/-- Rows of words. -/
def rowP (M : List Nat) (p : Nat × Nat) : List Nat := M.set p.1 (M.getD p.1 0 ||| 2 ^ p.2)
def rowsM (ps : List (Nat × Nat)) : List Nat := ps.foldl rowP zeroW
theorem rowP_words {M : List Nat} (h : Words M) {p : Nat × Nat} (hp : p.2 < 64) : Words (rowP M p) := by
  refine ⟨by unfold rowP; rw [List.length_set, h.1], fun x hx => ?_⟩
  rcases List.mem_or_eq_of_mem_set hx with hx | rfl
  · exact h.2 x hx
  · exact uOr_lt (h.at_ _) (pow_lt64 hp)
theorem rowP_bit {M : List Nat} (h : Words M) {p : Nat × Nat} (hp : p.1 < 64) (x z : Nat) : mbit (rowP M p) x z = (mbit M x z || (p.1 == x && p.2 == z)) := by
  unfold mbit rowP
  rw [getD_set]
  by_cases e : p.1 = x
  · rw [if_pos ⟨e, by rw [h.1, ← e]; exact hp⟩, Nat.testBit_or, Nat.testBit_two_pow, e]
    congr 1
    rw [Bool.eq_iff_iff]; simp
  · rw [if_neg (fun q => e q.1)]
    have : (p.1 == x) = false := by simp [e]
    rw [this]; simp
theorem rowF_words : ∀ (ps : List (Nat × Nat)) (M : List Nat), Words M → (∀ p ∈ ps, p.2 < 64) → Words (ps.foldl rowP M)
  | [], M, h, _ => h
  | p :: ps, M, h, hp => rowF_words ps _ (rowP_words h (hp p (by simp))) fun q hq => hp q (List.mem_cons_of_mem _ hq)
theorem rowF_bit : ∀ (ps : List (Nat × Nat)) (M : List Nat), Words M → (∀ p ∈ ps, p.1 < 64 ∧ p.2 < 64) → ∀ x z, mbit (ps.foldl rowP M) x z = (mbit M x z || decide ((x, z) ∈ ps))
  | [], M, h, _, x, z => by simp
  | p :: ps, M, h, hp, x, z => by
    rw [List.foldl_cons, rowF_bit ps _ (rowP_words h (hp p (by simp)).2) (fun q hq => hp q (List.mem_cons_of_mem _ hq)), rowP_bit h (hp p (by simp)).1, Bool.or_assoc]
    congr 1
    rw [Bool.eq_iff_iff]
    obtain ⟨a, b⟩ := p
    simp only [Bool.or_eq_true, Bool.and_eq_true, beq_iff_eq, decide_eq_true_eq, List.mem_cons, Prod.mk.injEq]
    constructor
    · rintro (⟨rfl, rfl⟩ | h)
      · exact .inl ⟨rfl, rfl⟩
      · exact .inr h
    · rintro (⟨rfl, rfl⟩ | h)
      · exact .inl ⟨rfl, rfl⟩
      · exact .inr h
theorem Rs.lt64 {ws : List Nat} {ps : List (Nat × Nat)} (h : Rs ws ps) : ∀ p ∈ ps, p.1 < 64 ∧ p.2 < 64 := fun p hp => by
  have := h.lt p hp
  have : 2 ^ ws.sum ≤ 64 := Nat.pow_le_pow_right (n := 2) (j := 6) (by decide) h.sum
  omega
theorem rowsM_words {ws : List Nat} {ps : List (Nat × Nat)} (h : Rs ws ps) : Words (rowsM ps) := rowF_words ps _ zeroW_words fun p hp => (h.lt64 p hp).2
theorem rowsM_bit {ws : List Nat} {ps : List (Nat × Nat)} (h : Rs ws ps) (x z : Nat) : mbit (rowsM ps) x z = decide ((x, z) ∈ ps) := by
  unfold rowsM
  rw [rowF_bit ps _ zeroW_words h.lt64]
  have : mbit zeroW x z = false := by
    unfold mbit zeroW
    rw [List.getD_eq_getElem?_getD, List.getElem?_replicate]
    split <;> simp
  rw [this, Bool.false_or]
set_option maxHeartbeats 4000000 in
theorem rows_ac (ws : List Nat) (ps : List (Nat × Nat)) (hr : Rs ws ps) (σ : St) (G : Glob) (R : A → St → Prop) (h : R (.ref σ.length 0) (σ ++ [some (.cells (wC (rowsM ps)))])) : AC Tryz.prog G 39 [.d (setX ws (prsD ps))] σ R := by
  have hl := hr.len
  have h64 := hr.lt64
  refine ac_enter' mixed Tryz.func39 rfl Tryz.ntmps39 (by simp only [go_sem]) fun hbd => ?_
  simp only [List.length_cons, List.length_nil, Nat.reduceAdd, Nat.reduceSub, List.replicate_succ, List.replicate_zero, List.cons_append, List.nil_append]
  simp only [setX, prsD, go_sem, List.length_map, Tryz.results39]
  refine aw_loop (fun m fr st => ∃ j : Nat, j ≤ ps.length ∧ m = ps.length - j ∧ fr = [.any, .any, .any, .ref (σ.length + 1) 0, .any, .any, .any, .any, .any, .d (.sl 2 (ps.map prD)), dn ps.length, dn j, .any, .any, .any, .any, .any, .any, .any, .any, .any, .any, .any, .any, .any, .any, .any, .any, .any] ∧ st = σ ++ [some (.cells [.d (isD (nL (cL ws))), .d (isD (nL ws)), .d (.sl 2 (ps.map prD))]), some (.cells (wC ((ps.take j).foldl rowP zeroW)))]) ps.length _ (Wk.mask [3, 9, 10, 11] ⟨0, by omega, rfl, rfl, rfl⟩) ?_
  rintro m fr st ⟨j, hj, hm, rfl, rfl⟩
  have hM := rowF_words (ps.take j) _ zeroW_words fun p hp => (h64 p (List.mem_of_mem_take hp)).2
  rcases Nat.lt_or_ge j ps.length with hlt | hge
  · have hd : decide ((j : Int) < (ps.length : Int)) = true := by simp only [decide_eq_true_eq]; omega
    have w2 := wrapS j (by omega)
    have q1 := pr_at hlt
    obtain ⟨b1, b2⟩ := h64 _ (getD_mem (0, 0) hlt)
    have hs : (ps.take (j + 1)).foldl rowP zeroW = rowP ((ps.take j).foldl rowP zeroW) (ps.getD j (0, 0)) := by rw [take_snoc (0, 0) hlt, List.foldl_append]; rfl
    generalize (ps.take j).foldl rowP zeroW = M at *
    generalize ps.getD j (0, 0) = p at *
    have cl := wC_len M
    have ml := hM.1
    have q2 := wC_at (W := M) (j := p.1) (by omega)
    have q3 : uShl 1 (p.2 : Int) = ((2 ^ p.2 : Nat) : Int) := uShl_one b2
    have q4 := uOr_nat (hM.at_ p.1) (pow_lt64 b2)
    have q5 := wC_set (W := M) (j := p.1) (x := M.getD p.1 0 ||| 2 ^ p.2) (by omega)
    simp only [go_sem, hd, q1, List.length_map, Int.toNat_natCast, Int.toNat_zero, Int.toNat_one, Nat.zero_mul, Nat.one_mul, Tryz.results39]
    refine ⟨⟨by omega, by omega⟩, ?_⟩
    refine aw_plan (.tk 13 0 <| .done) (by kernel_rfl) ?_
    simp only [go_sem, q2, q3, q4, cl, ml, List.length_map, Int.toNat_natCast, Int.toNat_zero, Int.toNat_one, Nat.zero_mul, Nat.one_mul, Nat.mul_one, Nat.zero_add, Tryz.results39]
    rw [show A.d (D.int IntKind.u64 ((M.getD p.1 0 ||| 2 ^ p.2 : Nat) : Int)) = du (M.getD p.1 0 ||| 2 ^ p.2) from rfl, q5]
    simp only [w2]
    refine ⟨⟨by omega, by omega⟩, ⟨by omega, by omega⟩, b1, ⟨by omega, by omega⟩, by omega, ⟨by omega, by omega⟩, by omega, Wk.keep [3, 9, 10, 11] [0, 1] (by decide) (Nat.le_refl _) hbd ⟨ps.length - (j + 1), by omega, j + 1, by omega, rfl, by simp only [go_sem], ?_⟩⟩
    rw [hs]
    unfold rowP
    simp only [isD, go_sem, renL_wC]
  · have hd : decide ((j : Int) < (ps.length : Int)) = false := by simp only [decide_eq_false_iff_not]; omega
    rw [List.take_of_length_le hge]
    simp only [go_sem, hd, Tryz.results39]
    refine ret_keep [1] (by decide) hbd ?_
    simp only [go_sem, keepL, renL_wC]
    exact h
/-- The pairs of rows of words, in order. -/
def pairsM (M : List Nat) (j : Nat) : List (Nat × Nat) := (List.range j).flatMap fun x => (bitsW (M.getD x 0)).map fun y => (x, y)
theorem pairsM_succ (M : List Nat) (j : Nat) : pairsM M (j + 1) = pairsM M j ++ (bitsW (M.getD j 0)).map fun y => (j, y) := by
  unfold pairsM
  rw [List.range_succ, List.flatMap_append]; simp
theorem pairs_ac (im : Nat) (σ : St) (G : Glob) (R : A → St → Prop) (h : R (.fn (.func 89) [] [.ref σ.length 0]) (σ ++ [some (.cells [.ref im 0])])) {cs : List A} (hm : σ[im]? = some (some (.cells cs))) : AC Tryz.prog G 68 [.ref im 0] σ R := by
  refine ac_enter mixed Tryz.func68 rfl Tryz.ntmps68 (by simp only [go_sem]) fun hbd => ?_
  simp only [List.length_cons, List.length_nil, Nat.reduceAdd, Nat.reduceSub, List.replicate_succ, List.replicate_zero, List.cons_append, List.nil_append]
  simp only [go_sem, Tryz.results68]
  exact ⟨live_of hm, _, _, Weak.refl _ _ _ _, h⟩
set_option maxHeartbeats 4000000 in
theorem pairs1_ac (M : List Nat) (hM : Words M) {ib im l : Nat} (I : List (Nat × Nat) → St → Prop) (σ : St) (hb : σ[ib]? = some (some (.cells [.ref im 0]))) (h0 : I [] σ) (G : Glob) (hI : ∀ acc st, I acc st → st[im]? = some (some (.cells (wC M))))
    (hY : ∀ acc x y st, acc.length < 4096 → I acc st → YC Tryz.prog G l [dn x, dn y] st fun r st' => r = db true ∧ I (acc ++ [(x, y)]) st') (R : A → St → Prop) (h : ∀ r st, I (pairsM M 64) st → R r st) : AC Tryz.prog G 89 [.fn (.yield l) [] [], .ref ib 0] σ R := by
  have hm0 := hI _ _ h0
  refine ac_enter' mixed Tryz.func89 rfl Tryz.ntmps89 (by simp only [go_sem]) fun hbd => ?_
  simp only [List.length_cons, List.length_nil, Nat.reduceAdd, Nat.reduceSub, List.replicate_succ, List.replicate_zero, List.cons_append, List.nil_append]
  have hml := hM.1
  have cl := wC_len M
  have hpl : ∀ x, x ≤ 64 → (pairsM M x).length ≤ 64 * x := by
    intro x
    induction x with
    | zero => intro _; simp [pairsM]
    | succ x ih =>
      intro hx
      have := ih (by omega)
      have := bitsW_len (M.getD x 0)
      rw [pairsM_succ, List.length_append, List.length_map]; omega
  simp only [go_sem, live_of hb, objK_of hb, Tryz.results89]
  refine aw_loop (fun m fr st => ∃ x : Nat, x ≤ 64 ∧ m = 64 - x ∧ I (pairsM M x) st ∧ fr = [.fn (.yield l) [] [], .any, .any, .any, .any, .any, .ref im 0, dn x, .any, .any, .any, .any, .any, .any, .any, .any, .any, .any, .any, .any, .any, .any, .any, .any, .any, .any, .any, .any, .any, .any]) 64 _ (Wk.mask [0, 6, 7] ⟨0, by omega, rfl, h0, rfl⟩) ?_
  rintro m fr st ⟨x, hx, hm, hIx, rfl⟩
  have hmx := hI _ _ hIx
  rcases Nat.lt_or_ge x 64 with hlt | hge
  · have hd : decide ((x : Int) < 64) = true := by simp only [decide_eq_true_eq]; omega
    have w2 := wrapS x (by omega)
    have q1 := wC_at (W := M) (j := x) (by omega)
    have hU := hM.at_ x
    have hsx := pairsM_succ M x
    have hpx := hpl x hx
    generalize M.getD x 0 = w at *
    simp only [go_sem, hd, Tryz.results89]
    refine aw_plan (.tk 6 0 <| .done) (by kernel_rfl) ?_
    simp only [go_sem, live_of hmx, objK_of hmx, q1, cl, hml, Int.toNat_natCast, Nat.mul_one, Nat.zero_add, Tryz.results89]
    refine ⟨⟨by omega, by omega⟩, by omega, ?_⟩
    refine aw_loop (fun m fr st => ∃ y : Nat, y ≤ 64 ∧ m = 64 - y ∧ I (pairsM M x ++ ((List.range y).filter w.testBit).map fun y => (x, y)) st ∧ fr = [.fn (.yield l) [] [], .any, .any, dn x, du w, .any, .ref im 0, dn x, .any, .any, .any, .any, .any, dn y, .any, .any, .any, .any, .any, .any, .any, .any, .any, .any, .any, .any, .any, .any, .any, .any]) 64 _ (Wk.mask [0, 3, 4, 6, 7, 13] ⟨0, by omega, rfl, by simpa using hIx, rfl⟩) ?_
    clear hIx hmx
    rintro m fr st ⟨y, hy, hm, hIy, rfl⟩
    rcases Nat.lt_or_ge y 64 with hlty | hgey
    · have hdy : decide ((y : Int) < 64) = true := by simp only [decide_eq_true_eq]; omega
      have w3 := wrapS y (by omega)
      have hbit := ubit hU hlty
      have hfs := filter_snoc w.testBit y
      have hfl : ((List.range y).filter w.testBit).length ≤ y := Nat.le_trans (List.length_filter_le _ _) (by simp)
      simp only [go_sem, hdy, hbit, Tryz.results89]
      cases hq : w.testBit y
      · rw [hq, if_neg Bool.false_ne_true, List.append_nil] at hfs
        refine ⟨by omega, ?_⟩
        refine ex' (.bool true) ⟨fun h => Bool.noConfusion h, ?_⟩
        simp only [go_sem, w3, Tryz.results89]
        exact Wk.mask [0, 3, 4, 6, 7, 13] ⟨64 - (y + 1), by omega, y + 1, by omega, rfl, by rw [hfs]; exact hIy, rfl⟩
      · rw [hq, if_pos rfl] at hfs
        refine ⟨by omega, ?_⟩
        refine exs ⟨fun _ => ?_, fun h => Bool.noConfusion h⟩
        refine yc' ((hY _ x y _ (by rw [List.length_append, List.length_map]; omega) hIy).mono fun r st' hr => ?_)
        obtain ⟨rfl, hI'⟩ := hr
        simp only [go_sem, w3, Tryz.results89]
        exact Wk.mask [0, 3, 4, 6, 7, 13] ⟨64 - (y + 1), by omega, y + 1, by omega, rfl, by rw [hfs, List.map_append, ← List.append_assoc]; exact hI', rfl⟩
    · have hdy : decide ((y : Int) < 64) = false := by simp only [decide_eq_false_iff_not]; omega
      obtain rfl : y = 64 := by omega
      simp only [go_sem, hdy, w2, Tryz.results89]
      exact Wk.mask [0, 6, 7] ⟨64 - (x + 1), by omega, x + 1, by omega, rfl, by rw [hsx]; exact hIy, rfl⟩
  · have hd : decide ((x : Int) < 64) = false := by simp only [decide_eq_false_iff_not]; omega
    obtain rfl : x = 64 := by omega
    simp only [go_sem, hd, Tryz.results89]
    exact ⟨_, _, Weak.refl _ _ _ _, h _ _ hIx⟩
/-- An end: what was there when the function began is as it was. -/
theorem ret_pre {G : Glob} {σ τ : St} {x : A} {R : A → St → Prop} (hbd : Bd σ.length σ) (hx : x.bd σ.length = true) (hl : σ.length ≤ τ.length) (hg : ∀ id, id < σ.length → τ[id]? = σ[id]?) (h : R x σ) : ∃ r σ', Weak G σ.length [x] τ [r] σ' ∧ R r σ' := by
  have e : τ = σ ++ τ.drop σ.length := by
    apply List.ext_getElem?
    intro i
    rcases Nat.lt_or_ge i σ.length with hi | hi
    · rw [List.getElem?_append_left hi, hg i hi]
    · rw [List.getElem?_append_right hi, List.getElem?_drop]; congr 1; omega
  rw [e]
  exact ret_bd hbd hx h
theorem ret_via {G : Glob} {n0 : Nat} {fr fr' : Fr} {τ τ' : St} {R : A → St → Prop} (hw : Weak G n0 fr τ fr' τ') (h : ∃ r σ', Weak G n0 fr' τ' [r] σ' ∧ R r σ') : ∃ r σ', Weak G n0 fr τ [r] σ' ∧ R r σ' := by
  obtain ⟨r, s, h1, h2⟩ := h
  exact ⟨r, s, hw.trans h1, h2⟩
def prC (ps : List (Nat × Nat)) : List A := ps.flatMap fun p => [di (p.1 : Nat), di (p.2 : Nat)]
theorem prC_len (ps : List (Nat × Nat)) : (prC ps).length = ps.length * 2 := by
  induction ps with
  | nil => rfl
  | cons p ps ih =>
    have : prC (p :: ps) = di (p.1 : Nat) :: di (p.2 : Nat) :: prC ps := rfl
    rw [this]; simp only [List.length_cons, ih]; omega
theorem prC_lies (ps : List (Nat × Nat)) : Lies (prC ps) 2 0 (ps.map prD) := by
  have e : prC ps = flat (ps.map prD) := by
    induction ps with
    | nil => rfl
    | cons p ps ih => rw [List.map_cons, flat_cons, ← ih]; rfl
  rw [e]
  refine lies_of fun x hx => ?_
  obtain ⟨p, -, rfl⟩ := List.mem_map.1 hx
  exact ⟨rfl, fun y hy => by simp [prD, D.cells] at hy; rcases hy with rfl | rfl <;> rfl⟩
/-- A relation under way: its struct, its pairs. -/
structure Rel (σ : St) (im : Nat) (M : List Nat) (cs ws : List Int) (lp : Ob) (ps : List (Nat × Nat)) (st : St) : Prop where
  m : st[im]? = some (some (.cells (wC M)))
  lp_ : st[σ.length + 4]? = some (some lp)
  old : ∀ k, k < σ.length → st[k]? = σ[k]?
  res : st[σ.length]? = some (some (.cells [.d .nils, .d .nils, .d .nils]))
  lst : ∃ il, il ≠ σ.length + 1 ∧ il ≠ σ.length + 4 ∧ σ.length < il ∧ st[σ.length + 1]? = some (some (.cells [.d (isD cs), .d (isD ws), .rs il 2 0 ps.length (some 111)])) ∧ st[il]? = some (some (.cells (prC ps)))
set_option maxHeartbeats 4000000 in
theorem relation_ac (cs ws : List Int) (h1 : cs.length ≤ 1000000) (h2 : ws.length ≤ 1000000) (M : List Nat) (hM : Words M) {im : Nat} (σ : St) (hm : σ[im]? = some (some (.cells (wC M)))) (G : Glob) (hp : ∀ a s, ¬ G.pan a s) (R : A → St → Prop) (h : R (.d (.agg [isD cs, isD ws, prsD (pairsM M 64)])) σ) : AC Tryz.prog G 35 [.d (isD cs), .d (isD ws), .ref im 0] σ R := by
  have him := lt_of_some hm
  refine ac_enterC' [6] mixed Tryz.func35 rfl Tryz.ntmps35 (by simp only [go_sem]) fun hbd => ?_
  simp only [List.length_cons, List.length_nil, Nat.reduceAdd, Nat.reduceSub, List.replicate_succ, List.replicate_zero, List.cons_append, List.nil_append]
  simp only [go_sem, Tryz.results35]
  refine ac' (clone_ints cs h1 _ _ _ ?_)
  simp only [go_sem, Tryz.results35]
  refine ac' (clone_ints ws h2 _ _ _ ?_)
  simp only [isD, go_sem, Tryz.results35]
  refine aw_cut (fun fr st => ∃ il, fr = [.any, .any, .any, .any, .any, .any, .ref σ.length 0, .ref (σ.length + 1) 0, .any, .any, .any, .any, .any, .any, .any, .any, .any, .any, .any, .any, .any, .any, .any, .any, .any, .any, .any, .any] ∧ (∀ k, k < σ.length → st[k]? = σ[k]?) ∧ st[σ.length + 1]? = some (some (.cells [.d (isD cs), .d (isD ws), .rs il 2 0 (pairsM M 64).length (some 111)])) ∧ st[il]? = some (some (.cells (prC (pairsM M 64)))) ∧ σ.length < il ∧ il ≠ σ.length + 1 ∧ st[σ.length]? = some (some (.cells [.d .nils, .d .nils, .d .nils]))) ?_ ?_
  · simp only [go_sem, Tryz.results35]
    refine ac' (pairs_ac im _ _ _ ?_ (by rw [List.getElem?_append_left him]; exact hm))
    simp only [go_sem, Tryz.results35]
    obtain ⟨fr0, hfr0⟩ : ∃ fr0 : Fr, fr0 = [.any, .any, .any, .any, .any, .any, .ref σ.length 0, .ref (σ.length + 1) 0, .any, .any, .any, .any, .any, .any, .any, .any, .fn (.func 89) [] [.ref (σ.length + 2) 0], .any, .any, .any, .any, .any, .any, .any, .any, .any, .any, .any] := ⟨_, rfl⟩
    refine aw_range hp ⟨fr0, _, by rw [hfr0]; exact (Weak.mask [6, 7, 16]).trans (Weak.emptyIn 1 2 2 (some 111) rfl rfl), by rw [hfr0]; simp [bdL, A.bd], 89, [], [.ref (σ.length + 2) 0], by rw [hfr0]; rfl, fun l r hY => ?_⟩
    simp only [List.set_cons_succ, List.set_cons_zero, List.length_cons, List.length_nil, List.cons_append, List.nil_append, Nat.reduceAdd, List.append_assoc, List.length_append] at hY ⊢
    refine pairs1_ac M hM (ib := σ.length + 2) (im := im) (fun acc st => Rel σ im M cs ws (.lp l r fr0) acc st) _ (by simp) ?_ G (fun acc st hI => hI.m) (fun acc x y st hacc hI => ?_) _ (fun r' st hI => ?_)
    · refine ⟨by rw [List.getElem?_append_left him]; exact hm, by simp, fun k hk => List.getElem?_append_left hk, by simp, σ.length + 3, by omega, by omega, by omega, ?_, ?_⟩
      · simp [isD]
      · simp [prC]
    · obtain ⟨im', ilp, iold, ires, il, n1, n2, n3, hst, hil⟩ := hI
      refine hY _ _ _ ⟨ilp, rfl, ?_⟩
      have hset : setPs fr0 [17, 18] [dn x, dn y] = [.any, .any, .any, .any, .any, .any, .ref σ.length 0, .ref (σ.length + 1) 0, .any, .any, .any, .any, .any, .any, .any, .any, .fn (.func 89) [] [.ref (σ.length + 2) 0], dn x, dn y, .any, .any, .any, .any, .any, .any, .any, .any, .any] := by rw [hfr0]; rfl
      rw [hset]
      simp only [go_sem]
      refine ⟨ilp, ?_⟩
      obtain ⟨s2, hs2⟩ : ∃ s2, st.set (σ.length + 4) (some (.lp l { r with state := .busy } fr0)) = s2 := ⟨_, rfl⟩
      rw [hs2]
      have hst2 : s2[σ.length + 1]? = some (some (.cells [.d (isD cs), .d (isD ws), .rs il 2 0 acc.length (some 111)])) := by rw [← hs2, set_other (by omega)]; exact hst
      have hil2 : s2[il]? = some (some (.cells (prC acc))) := by rw [← hs2, set_other (Ne.symm n2)]; exact hil
      have hpl := prC_len acc
      simp only [go_sem, live_of hst2, objK_of hst2, live_of hil2, objK_of hil2, objK_old hil2, Tryz.results35]
      have l2 : s2.length = st.length := by rw [← hs2, List.length_set]
      have hill := lt_of_some hil2
      have hisl := lt_of_some hst2
      have hlpl : σ.length + 4 < s2.length := by rw [l2]; exact lt_of_some ilp
      have himl := lt_of_some im'
      obtain ⟨s3, hs3⟩ : ∃ s3, (List.set (s2 ++ [some (Ob.cells [A.d (D.int IntKind.i64 (x : Int)), A.d (D.int IntKind.i64 (y : Int))])]) il none ++ [some (Ob.cells (prC acc ++ [A.d (D.int IntKind.i64 (x : Int)), A.d (D.int IntKind.i64 (y : Int))]))]) = s3 := ⟨_, rfl⟩
      rw [hs3]
      have g3 : ∀ k, k < s2.length → k ≠ il → s3[k]? = s2[k]? := fun k hk hne => by
        rw [← hs3, List.getElem?_append_left (by simp; omega), List.getElem?_set_ne (Ne.symm hne), List.getElem?_append_left hk]
      have h3 : s3[σ.length + 1]? = some (some (.cells [.d (isD cs), .d (isD ws), .rs il 2 0 acc.length (some 111)])) := by rw [g3 _ hisl (Ne.symm n1)]; exact hst2
      have h4 : s3[s2.length + 1]? = some (some (.cells (prC (acc ++ [(x, y)])))) := by
        rw [← hs3, List.getElem?_append_right (by simp)]
        simp [prC]
      simp only [live_of h3, objK_of h3, live_of h4]
      refine ⟨⟨by omega, by simp only [maxLen]; omega, by omega⟩, trivial, ⟨trivial, by simp⟩, ?_⟩
      refine ⟨_, Weak.refl _ _ _ _, ?_, rfl, ?_⟩
      · rw [List.getElem?_set_ne (by omega), g3 _ hlpl (Ne.symm n2), ← hs2]
        exact set_same ilp
      · have g5 : ∀ k, k < s2.length → k ≠ il → k ≠ σ.length + 1 → k ≠ σ.length + 4 → (List.set (List.set s3 (σ.length + 1) (some (.cells ((List.take 2 [A.d (isD cs), A.d (isD ws), A.rs il 2 0 acc.length (some 111)]) ++ A.rs (s2.length + 1) 2 0 (acc.length + 1) (some 111) :: List.drop 3 [A.d (isD cs), A.d (isD ws), A.rs il 2 0 acc.length (some 111)])))) (σ.length + 4) (some (.lp l r fr0)))[k]? = st[k]? := fun k hk k1 k2 k3 => by
          rw [List.getElem?_set_ne (Ne.symm k3), List.getElem?_set_ne (Ne.symm k2), g3 k hk k1, ← hs2, List.getElem?_set_ne (Ne.symm k3)]
        have l3 : s3.length = s2.length + 2 := by rw [← hs3]; simp
        have hml : M.length = 64 := hM.1
        refine ⟨?_, ?_, ?_, ?_, s2.length + 1, by omega, by omega, by omega, ?_, ?_⟩
        · rw [g5 im (by omega) (by omega) (by omega) (by omega)]; exact im'
        · exact List.getElem?_set_self (by rw [List.length_set]; omega)
        · intro k hk
          rw [g5 k (by omega) (by omega) (by omega) (by omega)]; exact iold k hk
        · rw [g5 _ (by omega) (by omega) (by omega) (by omega)]; exact ires
        · rw [List.getElem?_set_ne (by omega), List.getElem?_set_self (by omega), List.length_append]; rfl
        · rw [List.getElem?_set_ne (by omega), List.getElem?_set_ne (by omega)]; exact h4
    · obtain ⟨im', ilp, iold, ires, il, n1, n2, n3, hst, hil⟩ := hI
      refine .inl ⟨ilp, _, _, Weak.refl _ _ _ _, ?_⟩
      simp only [go_sem]
      refine Wk.mask [6, 7] ⟨il, by rw [hfr0]; rfl, fun k hk => ?_, ?_, ?_, n3, n1, ?_⟩
      · rw [List.getElem?_set_ne (by omega)]; exact iold k hk
      · rw [List.getElem?_set_ne (by omega)]; exact hst
      · rw [List.getElem?_set_ne (by omega)]; exact hil
      · rw [List.getElem?_set_ne (by omega)]; exact ires
  · rintro fr st ⟨il, rfl, hold, hst, hil, hle, hne, hx⟩
    have hn := lt_of_some hx
    simp only [go_sem, live_of hst, objK_of hst, live_of hx, objK_of hx, Srt.objK_set hn, live_of hil, toDs, Tryz.results35]
    have hill := lt_of_some hil
    refine ⟨by simpa using hill, ?_⟩
    have hfz := Weak.freeze (G := G) (n0 := σ.length) (fr := [A.agg [A.d (isD cs), A.d (isD ws), A.rs il 2 0 (pairsM M 64).length (some 111)]]) il 2 0 ((pairsM M 64).map prD) (σ := st.set σ.length (some (.cells [A.d (isD cs), A.d (isD ws), A.rs il 2 0 (pairsM M 64).length (some 111)]))) (by rw [List.getElem?_set_ne (by omega)]; exact hil) (prC_lies _)
    refine ret_via hfz ?_
    simp only [go_sem, List.length_map]
    refine ret_pre hbd rfl (by simp; omega) (fun k hk => ?_) h
    rw [List.getElem?_set_ne (by omega), List.getElem?_set_ne (by omega)]
    exact hold k hk
end Go.Proofs.YtmjlhbkgljcnoaaGreatDoor
end PartT19

section PartT20
/- The closure of a relation. -/
set_option linter.unusedSimpArgs false
set_option linter.unusedVariables false
set_option maxRecDepth 100000
namespace Go.Proofs.YtmjlhbkgljcnoaaGreatDoor
open Go Go.Ab

def idM (M : List Nat) (j : Nat) : List Nat := (List.range j).foldl (fun M x => rowP M (x, x)) M
theorem idM_succ (M : List Nat) (j : Nat) : idM M (j + 1) = rowP (idM M j) (j, j) := by
  unfold idM
  rw [List.range_succ, List.foldl_append]; rfl
theorem idM_words {M : List Nat} (h : Words M) : ∀ j, j ≤ 64 → Words (idM M j)
  | 0, _ => h
  | j + 1, hj => by rw [idM_succ]; exact rowP_words (idM_words h j (by omega)) (by show j < 64; omega)
theorem idM_bit {M : List Nat} (h : Words M) : ∀ j, j ≤ 64 → ∀ x z, mbit (idM M j) x z = (mbit M x z || (decide (x < j) && x == z))
  | 0, _, x, z => by show mbit M x z = _; simp
  | j + 1, hj, x, z => by
    rw [idM_succ, rowP_bit (idM_words h j (by omega)) (by show j < 64; omega), idM_bit h j (by omega) x z, Bool.or_assoc]
    congr 1
    rw [Bool.eq_iff_iff]
    simp only [Bool.or_eq_true, Bool.and_eq_true, decide_eq_true_eq, beq_iff_eq]
    omega
theorem stepX_words {M : List Nat} (h : Words M) (y x : Nat) : Words (stepX y M x) := by
  unfold stepX
  split
  · refine ⟨by rw [List.length_set, h.1], fun w hw => ?_⟩
    rcases List.mem_or_eq_of_mem_set hw with hw | rfl
    · exact h.2 w hw
    · exact uOr_lt (h.at_ _) (h.at_ _)
  · exact h
theorem foldX_words (y : Nat) : ∀ (l : List Nat) {M : List Nat}, Words M → Words (l.foldl (stepX y) M)
  | [], _, h => h
  | x :: l, _, h => foldX_words y l (stepX_words h y x)
theorem closeM_words {N : Nat} : ∀ (k : Nat) {M : List Nat}, Words M → Words (closeM N M k)
  | 0, _, h => h
  | k + 1, M, h => by
    unfold closeM
    rw [List.range_succ, List.foldl_append]
    exact foldX_words k _ (closeM_words k h)
theorem closeM_succ (N : Nat) (M : List Nat) (k : Nat) : closeM N M (k + 1) = (List.range N).foldl (stepX k) (closeM N M k) := by
  unfold closeM
  rw [List.range_succ, List.foldl_append]; rfl
def closeR (ws : List Nat) (ps : List (Nat × Nat)) : List (Nat × Nat) := pairsM (closeM (2 ^ ws.sum) (idM (rowsM ps) (2 ^ ws.sum)) (2 ^ ws.sum)) 64
set_option maxHeartbeats 8000000 in
theorem closure1_ac (ws : List Nat) (ps : List (Nat × Nat)) (hr : Rs ws ps) {ic : Nat} (σ : St) (hc : σ[ic]? = some (some (.cells [.d (isD (nL (cL ws))), .d (isD (nL ws)), .d (prsD ps)]))) (G : Glob) (hp : ∀ a s, ¬ G.pan a s) (R : A → St → Prop) (h : R (.d (setX ws (prsD (closeR ws ps)))) σ) : AC Tryz.prog G 38 [.ref ic 0] σ R := by
  have hw := hr.w.len
  have hs6 := hr.sum
  have hic := lt_of_some hc
  obtain ⟨N, hN⟩ : ∃ N, 2 ^ ws.sum = N := ⟨_, rfl⟩
  have hN64 : N ≤ 64 := by rw [← hN]; exact Nat.pow_le_pow_right (n := 2) (j := 6) (by decide) hs6
  have v1 : bShl 1 (ws.sum : Int) = (N : Int) := by rw [← hN]; exact bShl_one (by omega)
  have hM0 := rowsM_words hr
  have hcl : closeR ws ps = pairsM (closeM N (idM (rowsM ps) N) N) 64 := by unfold closeR; rw [hN]
  rw [hcl] at h
  refine ac_enterC' [8, 18] mixed Tryz.func38 rfl Tryz.ntmps38 (by simp only [go_sem]) fun hbd => ?_
  simp only [List.length_cons, List.length_nil, Nat.reduceAdd, Nat.reduceSub, List.replicate_succ, List.replicate_zero, List.cons_append, List.nil_append]
  simp only [go_sem, live_old hc, objK_old hc, isD, Tryz.results38]
  refine ac' (rows_ac ws ps hr _ _ _ ?_)
  generalize rowsM ps = M at *
  simp only [go_sem, live_old hc, objK_old hc, isD, Tryz.results38]
  refine ac' (rsum_ac ws (by omega) (fun w hw => (hr.w.ok w hw).2) _ _ _ ?_)
  simp only [go_sem, v1, Tryz.results38]
  refine ⟨by omega, ?_⟩
  refine aw_cut (fun fr st => fr = [.ref ic 0, .ref σ.length 0, .ref (σ.length + 1) 0, dn N, .any, .any, .any, .any, .any, .any, .any, .any, .any, .any, .any, .any, .any, .any, .any, .any, .any, .any, .any, .any, .any, .any, .any, .any, .any, .any, .any, .any, .any, .any, .any, .any, .any, .any, .any, .any, .any, .any, .any, .any, .any, .any, .any, .any, .any, .any, .any, .any, .any, .any, .any, .any, .any, .any, .any, .any, .any, .any, .any, .any, .any, .any] ∧ st = σ ++ [some (.cells [.d .nils, .d .nils, .d .nils]), some (.cells (wC (idM M N)))]) ?_ ?_
  · simp only [go_sem, Tryz.results38]
    refine aw_loop (fun m fr st => ∃ j : Nat, j ≤ N ∧ m = N - j ∧ fr = [.ref ic 0, .ref σ.length 0, .ref (σ.length + 1) 0, dn N, .any, .any, .any, .any, .any, .any, .any, .any, .any, dn N, dn j, .any, .any, .any, .any, .any, .any, .any, .any, .any, .any, .any, .any, .any, .any, .any, .any, .any, .any, .any, .any, .any, .any, .any, .any, .any, .any, .any, .any, .any, .any, .any, .any, .any, .any, .any, .any, .any, .any, .any, .any, .any, .any, .any, .any, .any, .any, .any, .any, .any, .any, .any] ∧ st = σ ++ [some (.cells [.d .nils, .d .nils, .d .nils]), some (.cells (wC (idM M j)))]) N _ (Wk.mask [0, 1, 2, 3, 13, 14] ⟨0, by omega, rfl, rfl, rfl⟩) ?_
    rintro m fr st ⟨j, hj, hm, rfl, rfl⟩
    have hMj := idM_words hM0 j (by omega)
    rcases Nat.lt_or_ge j N with hlt | hge
    · have hd : decide ((j : Int) < (N : Int)) = true := by simp only [decide_eq_true_eq]; omega
      have w2 := wrapS j (by omega)
      have hs := idM_succ M j
      generalize idM M j = K at *
      have cl := wC_len K
      have ml := hMj.1
      have q2 := wC_at (W := K) (j := j) (by omega)
      have q3 : uShl 1 (j : Int) = ((2 ^ j : Nat) : Int) := uShl_one (by omega)
      have q4 := uOr_nat (hMj.at_ j) (pow_lt64 (k := j) (by omega))
      have q5 := wC_set (W := K) (j := j) (x := K.getD j 0 ||| 2 ^ j) (by omega)
      simp only [go_sem, hd, Tryz.results38]
      refine aw_plan (.tk 11 0 <| .done) (by kernel_rfl) ?_
      simp only [go_sem, q2, q3, q4, cl, ml, Int.toNat_natCast, Nat.mul_one, Nat.zero_add, Tryz.results38]
      rw [show A.d (D.int IntKind.u64 ((K.getD j 0 ||| 2 ^ j : Nat) : Int)) = du (K.getD j 0 ||| 2 ^ j) from rfl, q5]
      simp only [w2]
      refine ⟨⟨by omega, by omega⟩, by omega, by omega, ⟨by omega, by omega⟩, by omega, Wk.mask [0, 1, 2, 3, 13, 14] ⟨N - (j + 1), by omega, j + 1, by omega, rfl, rfl, ?_⟩⟩
      rw [hs]; rfl
    · have hd : decide ((j : Int) < (N : Int)) = false := by simp only [decide_eq_false_iff_not]; omega
      obtain rfl : j = N := by omega
      simp only [go_sem, hd, Tryz.results38]
      exact Wk.mask [0, 1, 2, 3] ⟨rfl, rfl⟩
  rintro fr st ⟨rfl, rfl⟩
  have hM1 := idM_words hM0 N hN64
  generalize idM M N = M1 at *
  simp only [go_sem, Tryz.results38]
  refine aw_cut (fun fr st => fr = [.ref ic 0, .ref σ.length 0, .ref (σ.length + 1) 0, .any, .any, .any, .any, .any, .any, .any, .any, .any, .any, .any, .any, .any, .any, .any, .any, .any, .any, .any, .any, .any, .any, .any, .any, .any, .any, .any, .any, .any, .any, .any, .any, .any, .any, .any, .any, .any, .any, .any, .any, .any, .any, .any, .any, .any, .any, .any, .any, .any, .any, .any, .any, .any, .any, .any, .any, .any, .any, .any, .any, .any, .any, .any] ∧ st = σ ++ [some (.cells [.d .nils, .d .nils, .d .nils]), some (.cells (wC (closeM N M1 N)))]) ?_ ?_
  · simp only [go_sem, Tryz.results38]
    refine aw_loop (fun m fr st => ∃ y : Nat, y ≤ N ∧ m = N - y ∧ fr = [.ref ic 0, .ref σ.length 0, .ref (σ.length + 1) 0, dn N, .any, .any, .any, .any, .any, .any, .any, .any, .any, .any, .any, .any, .any, .any, .any, .any, .any, .any, .any, .any, .any, .any, .any, .any, dn N, dn y, .any, .any, .any, .any, .any, .any, .any, .any, .any, .any, .any, .any, .any, .any, .any, .any, .any, .any, .any, .any, .any, .any, .any, .any, .any, .any, .any, .any, .any, .any, .any, .any, .any, .any, .any, .any] ∧ st = σ ++ [some (.cells [.d .nils, .d .nils, .d .nils]), some (.cells (wC (closeM N M1 y)))]) N _ (Wk.mask [0, 1, 2, 3, 28, 29] ⟨0, by omega, rfl, rfl, rfl⟩) ?_
    rintro m fr st ⟨y, hy, hm, rfl, rfl⟩
    have hMy := closeM_words (N := N) y hM1
    rcases Nat.lt_or_ge y N with hlt | hge
    · have hd : decide ((y : Int) < (N : Int)) = true := by simp only [decide_eq_true_eq]; omega
      have w2 := wrapS y (by omega)
      have hs := closeM_succ N M1 y
      generalize closeM N M1 y = K at *
      simp only [go_sem, hd, Tryz.results38]
      refine aw_loop (fun m fr st => ∃ x : Nat, x ≤ N ∧ m = N - x ∧ fr = [.ref ic 0, .ref σ.length 0, .ref (σ.length + 1) 0, dn N, .any, dn y, .any, .any, .any, .any, .any, .any, .any, .any, .any, .any, .any, .any, .any, .any, .any, .any, .any, .any, .any, .any, .any, .any, dn N, dn y, .any, .any, dn N, dn x, .any, .any, .any, .any, .any, .any, .any, .any, .any, .any, .any, .any, .any, .any, .any, .any, .any, .any, .any, .any, .any, .any, .any, .any, .any, .any, .any, .any, .any, .any, .any, .any] ∧ st = σ ++ [some (.cells [.d .nils, .d .nils, .d .nils]), some (.cells (wC ((List.range x).foldl (stepX y) K)))]) N _ (Wk.mask [0, 1, 2, 3, 5, 28, 29, 32, 33] ⟨0, by omega, rfl, rfl, rfl⟩) ?_
      rintro m fr st ⟨x, hx, hm, rfl, rfl⟩
      have hMx := foldX_words y (List.range x) hMy
      rcases Nat.lt_or_ge x N with hltx | hgex
      · have hdx : decide ((x : Int) < (N : Int)) = true := by simp only [decide_eq_true_eq]; omega
        have w3 := wrapS x (by omega)
        have hsx : (List.range (x + 1)).foldl (stepX y) K = stepX y ((List.range x).foldl (stepX y) K) x := by rw [List.range_succ, List.foldl_append]; rfl
        generalize (List.range x).foldl (stepX y) K = L at *
        have cl := wC_len L
        have ml := hMx.1
        have q2 := wC_at (W := L) (j := x) (by omega)
        have q6 := wC_at (W := L) (j := y) (by omega)
        have hbit : (uAnd (uShr ((L.getD x 0 : Nat) : Int) (y : Int)) 1 == 1) = mbit L x y := ubit (hMx.at_ x) (by omega)
        simp only [go_sem, hdx, q2, cl, ml, hbit, Int.toNat_natCast, Nat.mul_one, Nat.zero_add, Tryz.results38]
        cases hq : mbit L x y
        · have hsx' : stepX y L x = L := by unfold stepX; rw [hq]; rfl
          rw [hsx'] at hsx
          simp only [go_sem, w3, Tryz.results38]
          refine ⟨⟨by omega, by omega⟩, by omega, by omega, Wk.mask [0, 1, 2, 3, 5, 28, 29, 32, 33] ⟨N - (x + 1), by omega, x + 1, by omega, rfl, rfl, by rw [hsx]⟩⟩
        · have hsx' : stepX y L x = L.set x (L.getD x 0 ||| L.getD y 0) := by unfold stepX; rw [hq]; rfl
          rw [hsx'] at hsx
          have q4 := uOr_nat (hMx.at_ x) (hMx.at_ y)
          have q5 := wC_set (W := L) (j := x) (x := L.getD x 0 ||| L.getD y 0) (by omega)
          simp only [go_sem, Tryz.results38]
          refine ⟨⟨by omega, by omega⟩, by omega, by omega, ?_⟩
          refine aw_plan (.tk 14 0 <| .done) (by kernel_rfl) ?_
          simp only [go_sem, q2, q6, q4, cl, ml, w3, Int.toNat_natCast, Nat.mul_one, Nat.zero_add, Tryz.results38]
          rw [show A.d (D.int IntKind.u64 ((L.getD x 0 ||| L.getD y 0 : Nat) : Int)) = du (L.getD x 0 ||| L.getD y 0) from rfl, q5]
          refine ⟨⟨by omega, by omega⟩, by omega, ⟨by omega, by omega⟩, by omega, ⟨by omega, by omega⟩, by omega, Wk.mask [0, 1, 2, 3, 5, 28, 29, 32, 33] ⟨N - (x + 1), by omega, x + 1, by omega, rfl, rfl, by rw [hsx]⟩⟩
      · have hdx : decide ((x : Int) < (N : Int)) = false := by simp only [decide_eq_false_iff_not]; omega
        obtain rfl : x = N := by omega
        simp only [go_sem, hdx, w2, Tryz.results38]
        exact Wk.mask [0, 1, 2, 3, 28, 29] ⟨x - (y + 1), by omega, y + 1, by omega, rfl, rfl, by rw [hs]⟩
    · have hd : decide ((y : Int) < (N : Int)) = false := by simp only [decide_eq_false_iff_not]; omega
      obtain rfl : y = N := by omega
      simp only [go_sem, hd, Tryz.results38]
      exact Wk.mask [0, 1, 2] ⟨rfl, rfl⟩
  rintro fr st ⟨rfl, rfl⟩
  have hM2 := closeM_words (N := N) N hM1
  generalize closeM N M1 N = M2 at *
  simp only [go_sem, live_old hc, objK_old hc, Tryz.results38]
  refine ac' (relation_ac _ _ (by rw [nL_len, cL_len]; omega) (by rw [nL_len]; omega) M2 hM2 _ (by simp) _ hp _ ?_)
  simp only [isD, prsD, go_sem, Tryz.results38]
  exact ret_d hbd h
theorem checkedR_ac (g : FuncId) {ic : Nat} (x : D) (σ : St) (G : Glob) (hx : ∃ a b c, x = .agg [isD a, isD b, prsD c]) (hg : ∀ (σ' : St) (R : A → St → Prop), (∀ k, k < σ.length → σ'[k]? = σ[k]?) → σ.length ≤ σ'.length → R (.d x) σ' → AC Tryz.prog G g [.ref ic 0] σ' R) (R : A → St → Prop) (h : R (.tup [.d x, di 0]) σ) : AC Tryz.prog G 36 [db true, .fn (.func g) [] [.ref ic 0]] σ R := by
  refine ac_enter' mixed Tryz.func36 rfl Tryz.ntmps36 (by simp only [go_sem]) fun hbd => ?_
  simp only [List.length_cons, List.length_nil, Nat.reduceAdd, Nat.reduceSub, List.replicate_succ, List.replicate_zero, List.cons_append, List.nil_append]
  simp only [go_sem, Tryz.results36]
  refine ac' (hg _ _ (fun k hk => List.getElem?_append_left hk) (by simp) ?_)
  obtain ⟨a, b, c, rfl⟩ := hx
  simp only [isD, prsD, go_sem, Tryz.results36]
  exact ret_bd hbd rfl h
theorem Closure_ac (ws : List Nat) (ps : List (Nat × Nat)) (hr : Rs ws ps) (σ : St) (G : Glob) (hT : G.g 1 = some tabD) (hp : ∀ a s, ¬ G.pan a s) (R : A → St → Prop) (h : R (.tup [.d (setX ws (prsD (closeR ws ps))), di 0]) σ) : AC Tryz.prog G 8 [.d (setX ws (prsD ps))] σ R := by
  refine ac_enter' mixed Tryz.func8 rfl Tryz.ntmps8 (by simp only [go_sem]) fun hbd => ?_
  simp only [List.length_cons, List.length_nil, Nat.reduceAdd, Nat.reduceSub, List.replicate_succ, List.replicate_zero, List.cons_append, List.nil_append]
  simp only [setX, go_sem, Tryz.results8]
  refine ac' (rvalid_ac ws ps hr _ _ hT _ ?_)
  simp only [go_sem, Tryz.results8]
  refine ac' (checkedR_ac 38 (setX ws (prsD (closeR ws ps))) _ G ⟨_, _, _, rfl⟩ (fun σ' R hold hle hR => closure1_ac ws ps hr σ' (by rw [hold _ (by simp)]; simp) G hp R hR) _ ?_)
  simp only [setX, isD, prsD, go_sem, Tryz.results8]
  exact ret_bd hbd rfl h
end Go.Proofs.YtmjlhbkgljcnoaaGreatDoor
end PartT20

section PartT21
/- The part of a set from which a relation does not lead out. -/
set_option linter.unusedSimpArgs false
set_option linter.unusedVariables false
set_option maxRecDepth 100000
namespace Go.Proofs.YtmjlhbkgljcnoaaGreatDoor
open Go Go.Ab

def orW (w n : Nat) : Nat := w ||| 2 ^ n
def wordM (l : List Nat) : Nat := l.foldl orW 0
theorem orF_lt : ∀ (l : List Nat) (w : Nat), U64 w → (∀ n ∈ l, n < 64) → U64 (l.foldl orW w)
  | [], w, h, _ => h
  | n :: l, w, h, hl => orF_lt l _ (uOr_lt h (pow_lt64 (hl n (by simp)))) fun m hm => hl m (List.mem_cons_of_mem _ hm)
theorem orF_bit : ∀ (l : List Nat) (w k : Nat), (l.foldl orW w).testBit k = (w.testBit k || l.contains k)
  | [], w, k => by simp
  | n :: l, w, k => by
    rw [List.foldl_cons, orF_bit l, orW, Nat.testBit_or, Nat.testBit_two_pow, List.contains_cons, Bool.or_assoc]
    congr 2
    rw [Bool.eq_iff_iff, decide_eq_true_eq, beq_iff_eq]; exact eq_comm
def insW (M : List Nat) (all : Nat) (l : List Nat) : Nat := l.foldl (fun w x => if nand (M.getD x 0) all = 0 then orW w x else w) 0
theorem insF_eq (M : List Nat) (all : Nat) : ∀ (l : List Nat) (w : Nat), l.foldl (fun w x => if nand (M.getD x 0) all = 0 then orW w x else w) w = (l.filter fun x => decide (nand (M.getD x 0) all = 0)).foldl orW w
  | [], w => rfl
  | x :: l, w => by
    rw [List.foldl_cons, insF_eq M all l, List.filter_cons]
    by_cases h : nand (M.getD x 0) all = 0
    · rw [if_pos h, if_pos (by simpa using h), List.foldl_cons]
    · rw [if_neg h, if_neg (by simpa using h)]
theorem Ss.lt64 {ws l : List Nat} (h : Ss ws l) (h6 : ws.sum ≤ 6) : ∀ n ∈ l, n < 64 := fun n hn => by
  have := h.lt n hn
  have : 2 ^ ws.sum ≤ 64 := Nat.pow_le_pow_right (n := 2) (j := 6) (by decide) h6
  omega
def insL (ps : List (Nat × Nat)) (l : List Nat) : List Nat := bitsW (insW (rowsM ps) (wordM l) l)
theorem rapplies_ac (ws : List Nat) (ps : List (Nat × Nat)) (l : List Nat) (hr : Rs ws ps) (hl : Ss ws l) (σ : St) (G : Glob) (hT : G.g 1 = some tabD) (R : A → St → Prop) (h : R (db true) σ) : AC Tryz.prog G 41 [.d (setX ws (prsD ps)), .d (setX ws (isD (nL l)))] σ R := by
  have hw := hr.w.len
  have b0 : ((0 : Int) != 0) = false := by decide
  refine ac_enter' mixed Tryz.func41 rfl Tryz.ntmps41 (by simp only [go_sem]) fun hbd => ?_
  simp only [List.length_cons, List.length_nil, Nat.reduceAdd, Nat.reduceSub, List.replicate_succ, List.replicate_zero, List.cons_append, List.nil_append]
  simp only [setX, go_sem, Tryz.results41]
  refine ac' (meet_ac ws l l hl hl _ _ hT _ ?_)
  simp only [setX, isD, prsD, go_sem, b0, Bool.not_false, Tryz.results41]
  refine ex' (.bool true) ⟨fun _ => ?_, ?_⟩
  · simp only [go_sem, b0, Bool.not_false]
    exact ac' (rvalid_ac ws ps hr _ _ hT _ ⟨rfl, rfl⟩)
  simp only [go_sem, b0, Tryz.results41]
  refine ac' (equal_ints _ _ (by rw [nL_len, cL_len]; omega) _ _ _ ?_)
  rw [beq_self_eq_true]
  simp only [go_sem, Tryz.results41]
  refine ex' (.bool true) ⟨fun _ => ?_, ?_⟩
  · simp only [go_sem]
    exact ac' (equal_ints _ _ (by rw [nL_len]; omega) _ _ _ (by rw [beq_self_eq_true]; exact ⟨rfl, rfl⟩))
  simp only [go_sem, Tryz.results41]
  exact ret_d hbd h
theorem wordOf_ac (ws l : List Nat) (hl : Ss ws l) (h6 : ws.sum ≤ 6) (σ : St) (G : Glob) (R : A → St → Prop) (h : R (du (wordM l)) σ) : AC Tryz.prog G 43 [.d (setX ws (isD (nL l)))] σ R := by
  have h64 := hl.lt64 h6
  have hll := hl.len
  refine ac_enter mixed Tryz.func43 rfl Tryz.ntmps43 (by simp only [go_sem]) fun hbd => ?_
  simp only [List.length_cons, List.length_nil, Nat.reduceAdd, Nat.reduceSub, List.replicate_succ, List.replicate_zero, List.cons_append, List.nil_append]
  simp only [setX, isD, go_sem, List.length_map, nL_len, Tryz.results43]
  refine aw_loop (fun m fr st => ∃ j : Nat, j ≤ l.length ∧ m = l.length - j ∧ fr = [.any, .any, .any, du ((l.take j).foldl orW 0), .any, .any, .any, .d (.sl 1 ((nL l).map iD)), dn l.length, dn j, .any, .any, .any, .any, .any, .any, .any, .any, .any] ∧ st = σ ++ [some (.cells [.d (isD (nL (cL ws))), .d (isD (nL ws)), .d (isD (nL l))])]) l.length _ (Wk.mask [3, 7, 8, 9] ⟨0, by omega, rfl, rfl, rfl⟩) ?_
  rintro m fr st ⟨j, hj, hm, rfl, rfl⟩
  have hU := orF_lt (l.take j) 0 (by decide) fun n hn => h64 n (List.mem_of_mem_take hn)
  rcases Nat.lt_or_ge j l.length with hlt | hge
  · have hd : decide ((j : Int) < (l.length : Int)) = true := by simp only [decide_eq_true_eq]; omega
    have w2 := wrapS j (by omega)
    have hs : (l.take (j + 1)).foldl orW 0 = orW ((l.take j).foldl orW 0) (l.getD j 0) := by rw [take_snoc 0 hlt, List.foldl_append]; rfl
    have hb := h64 _ (getD_mem 0 hlt)
    generalize (l.take j).foldl orW 0 = w at *
    have q1 := nL_getD hlt
    generalize l.getD j 0 = n at *
    have q3 : uShl 1 (n : Int) = ((2 ^ n : Nat) : Int) := uShl_one hb
    have q4 : uOr (w : Int) ((2 ^ n : Nat) : Int) = ((orW w n : Nat) : Int) := uOr_nat hU (pow_lt64 hb)
    simp only [isD, go_sem, hd, List.length_map, nL_len, q1, q3, q4, w2, Int.toNat_natCast, Tryz.results43]
    refine ⟨⟨by omega, by omega⟩, by omega, Wk.mask [3, 7, 8, 9] ⟨l.length - (j + 1), by omega, j + 1, by omega, rfl, by rw [hs]; rfl, rfl⟩⟩
  · have hd : decide ((j : Int) < (l.length : Int)) = false := by simp only [decide_eq_false_iff_not]; omega
    rw [List.take_of_length_le hge]
    simp only [isD, go_sem, hd, Tryz.results43]
    exact ret_d hbd h
set_option maxHeartbeats 4000000 in
theorem rset_ac (ws l : List Nat) (hW : Ws ws) (w : Nat) (hw : U64 w) (σ : St) (G : Glob) (R : A → St → Prop) (h : R (.d (setX ws (isD (nL (bitsW w))))) σ) : AC Tryz.prog G 44 [.d (setX ws (isD (nL l))), du w] σ R := by
  have hwl := hW.len
  refine ac_enterC' [2] mixed Tryz.func44 rfl Tryz.ntmps44 (by simp only [go_sem]) fun hbd => ?_
  simp only [List.length_cons, List.length_nil, Nat.reduceAdd, Nat.reduceSub, List.replicate_succ, List.replicate_zero, List.cons_append, List.nil_append]
  have c1 : (nL (cL ws)).length ≤ 1000000 := by rw [nL_len, cL_len]; omega
  have c2 : (nL ws).length ≤ 1000000 := by rw [nL_len]; omega
  simp only [setX, go_sem, Tryz.results44]
  refine aw_cut (fun fr st => fr = [.any, du w, .any, .any, .ref (σ.length + 1) 0, .ref (σ.length + 2) 0, .any, .any, .any, .any, .any, .any, .any, .any, .any, .any, .any, .any, .any, .any, .any, .any, .any, .any, .any, .any, .any, .any, .any, .any] ∧ st = σ ++ [some (.cells [.d (isD (nL (cL ws))), .d (isD (nL ws)), .d (isD (nL l))]), some (.cells [.d .nils, .d .nils, .d .nils]), some (.cells [.d (isD (nL (cL ws))), .d (isD (nL ws)), .rs (σ.length + 3) 1 0 0 (some 3)]), intsO []]) ?_ ?_
  · refine aw_plan (.tk 2 0 <| .pure 2 <| .tk 2 3 <| .pure 5 <| .tk 3 6 <| .done) (by kernel_rfl) ?_
    simp only [go_sem, Tryz.results44]
    refine Go.Ab.exP (.d (isD (nL (cL ws)))) ⟨fun σ' => ac' (clone_ints _ c1 _ _ _ ⟨rfl, rfl⟩), ?_⟩
    simp only [go_sem, Tryz.results44]
    refine Go.Ab.exP (.d (isD (nL ws))) ⟨fun σ' => ac' (clone_ints _ c2 _ _ _ ⟨rfl, rfl⟩), ?_⟩
    simp only [isD, go_sem, Tryz.results44]
    exact ⟨_, _, (Weak.mask [1, 4, 5]).trans (Weak.emptyIn 2 2 1 (some 3) rfl rfl), rfl, rfl⟩
  rintro fr st ⟨rfl, rfl⟩
  simp only [go_sem, Tryz.results44]
  refine aw_loop (fun m fr st => ∃ y : Nat, y ≤ 64 ∧ m = 64 - y ∧ fr = [.any, du w, .any, .any, .ref (σ.length + 1) 0, .ref (σ.length + 2) 0, .any, .any, .any, .any, .any, .any, .any, .any, dn y, .any, .any, .any, .any, .any, .any, .any, .any, .any, .any, .any, .any, .any, .any, .any] ∧ st = σ ++ [some (.cells [.d (isD (nL (cL ws))), .d (isD (nL ws)), .d (isD (nL l))]), some (.cells [.d .nils, .d .nils, .d .nils]), some (.cells [.d (isD (nL (cL ws))), .d (isD (nL ws)), .rs (σ.length + 3) 1 0 ((List.range y).filter w.testBit).length (some 3)]), intsO (nL ((List.range y).filter w.testBit))]) 64 _ (Wk.mask [1, 4, 5, 14] ⟨0, by omega, rfl, rfl, rfl⟩) ?_
  rintro m fr st ⟨y, hy, hm, rfl, rfl⟩
  rcases Nat.lt_or_ge y 64 with hlt | hge
  · have hd : decide ((y : Int) < 64) = true := by simp only [decide_eq_true_eq]; omega
    have w2 := wrapS y (by omega)
    have hbit := ubit hw hlt
    have hfs := filter_snoc w.testBit y
    have hfl : ((List.range y).filter w.testBit).length ≤ y := Nat.le_trans (List.length_filter_le _ _) (by simp)
    simp only [intsO, go_sem, hd, hbit, Tryz.results44]
    cases hq : w.testBit y
    · rw [hq, if_neg Bool.false_ne_true, List.append_nil] at hfs
      simp only [go_sem, w2, Tryz.results44]
      refine ⟨by omega, Wk.mask [1, 4, 5, 14] ⟨64 - (y + 1), by omega, y + 1, by omega, rfl, rfl, by rw [hfs]⟩⟩
    · rw [hq, if_pos rfl] at hfs
      simp only [go_sem, w2, List.length_map, nL_len, Tryz.results44]
      refine ⟨by omega, ⟨by omega, by simp only [maxLen]; omega, by omega⟩, Wk.keep [1, 4, 5, 14] [0, 1, 2, 5] (by decide) (Nat.le_refl _) hbd ⟨64 - (y + 1), by omega, y + 1, by omega, rfl, ?_, ?_⟩⟩
      · simp only [go_sem]
      · have hn : nL ((List.range y).filter w.testBit ++ [y]) = nL ((List.range y).filter w.testBit) ++ [(y : Int)] := by unfold nL; rw [List.map_append]; rfl
        rw [hfs, hn, List.map_append, List.length_append]
        simp only [isD, go_sem, renL_ints, List.map_cons, List.map_nil, List.length_cons, List.length_nil]
  · have hd : decide ((y : Int) < 64) = false := by simp only [decide_eq_false_iff_not]; omega
    obtain rfl : y = 64 := by omega
    rw [show (List.range 64).filter w.testBit = bitsW w from rfl]
    simp only [intsO, go_sem, hd, Tryz.results44]
    refine ret_frz 3 1 0 ((nL (bitsW w)).map iD) rfl (lies_ints _) ?_
    simp only [go_sem, List.length_map, nL_len]
    exact ret_d hbd h
theorem checkedS_ac (g : FuncId) {ic is : Nat} (x : D) (σ : St) (G : Glob) (hx : ∃ a b c, x = .agg [isD a, isD b, isD c]) (hg : ∀ (σ' : St) (R : A → St → Prop), (∀ k, k < σ.length → σ'[k]? = σ[k]?) → σ.length ≤ σ'.length → R (.d x) σ' → AC Tryz.prog G g [.ref ic 0, .ref is 0] σ' R) (R : A → St → Prop) (h : R (.tup [.d x, di 0]) σ) : AC Tryz.prog G 40 [db true, .fn (.func g) [] [.ref ic 0, .ref is 0]] σ R := by
  refine ac_enter' mixed Tryz.func40 rfl Tryz.ntmps40 (by simp only [go_sem]) fun hbd => ?_
  simp only [List.length_cons, List.length_nil, Nat.reduceAdd, Nat.reduceSub, List.replicate_succ, List.replicate_zero, List.cons_append, List.nil_append]
  simp only [go_sem, Tryz.results40]
  refine ac' (hg _ _ (fun k hk => List.getElem?_append_left hk) (by simp) ?_)
  obtain ⟨a, b, c, rfl⟩ := hx
  simp only [isD, go_sem, Tryz.results40]
  exact ret_bd hbd rfl h
set_option maxHeartbeats 8000000 in
theorem inside1_ac (ws : List Nat) (ps : List (Nat × Nat)) (l : List Nat) (hr : Rs ws ps) (hl : Ss ws l) {ic is : Nat} (σ : St) (hc : σ[ic]? = some (some (.cells [.d (isD (nL (cL ws))), .d (isD (nL ws)), .d (prsD ps)]))) (hs : σ[is]? = some (some (.cells [.d (isD (nL (cL ws))), .d (isD (nL ws)), .d (isD (nL l))]))) (G : Glob) (R : A → St → Prop) (h : R (.d (setX ws (isD (nL (insL ps l))))) σ) : AC Tryz.prog G 42 [.ref ic 0, .ref is 0] σ R := by
  have hic := lt_of_some hc
  have his := lt_of_some hs
  have h64 := hl.lt64 hr.sum
  have hll := hl.len
  have hM := rowsM_words hr
  have hA : U64 (wordM l) := orF_lt l 0 (by decide) h64
  have hin : insL ps l = bitsW (insW (rowsM ps) (wordM l) l) := rfl
  rw [hin] at h
  refine ac_enterC' [2, 9] mixed Tryz.func42 rfl Tryz.ntmps42 (by simp only [go_sem]) fun hbd => ?_
  simp only [List.length_cons, List.length_nil, Nat.reduceAdd, Nat.reduceSub, List.replicate_succ, List.replicate_zero, List.cons_append, List.nil_append]
  simp only [go_sem]
  refine aw_cut (fun fr st => fr = [.ref ic 0, .ref is 0, .ref σ.length 0, .ref (σ.length + 1) 0, du (wordM l), .any, .any, .any, .any, .any, .any, .any, .any, .any, .any, .any, .any, .any, .any, .any, .any, .any, .any, .any, .any, .any, .any, .any, .any, .any, .any, .any, .any, .any, .any] ∧ st = σ ++ [some (.cells [.d .nils, .d .nils, .d .nils]), some (.cells (wC (rowsM ps)))]) ?_ ?_
  · refine aw_plan (.take 0 <| .alt 1 (.take 2 <| .pure 3 <| .tk 2 4 <| .done) <| .alt 2 (.take 1 <| .pure 3 <| .tk 2 4 <| .done) <| .stop) (by kernel_rfl) ?_
    simp only [go_sem, live_old hc, objK_old hc, live_old hs, objK_old hs, isD, Tryz.results42]
    repeat' with_reducible apply And.intro
    all_goals
      refine ac' (rows_ac ws ps hr _ _ _ ?_)
      simp only [go_sem, live_old hc, objK_old hc, live_old hs, objK_old hs, isD, Tryz.results42]
      refine Go.Ab.exP (du (wordM l)) ⟨fun σ' => ac' (wordOf_ac ws l hl hr.sum _ _ _ ⟨rfl, rfl⟩), ?_⟩
      simp only [go_sem, live_old hc, objK_old hc, live_old hs, objK_old hs, isD, Tryz.results42]
      exact Wk.mask [0, 1, 2, 3, 4] ⟨rfl, rfl⟩
  rintro fr st ⟨rfl, rfl⟩
  generalize rowsM ps = M at *
  generalize wordM l = all at *
  have cl := wC_len M
  have ml := hM.1
  simp only [go_sem, live_old hs, objK_old hs, isD, List.length_map, nL_len, Tryz.results42]
  refine aw_cut (fun fr st => fr = [.any, .ref is 0, .ref σ.length 0, .any, .any, du (insW M all l), .any, .any, .any, .any, .any, .any, .any, .any, .any, .any, .any, .any, .any, .any, .any, .any, .any, .any, .any, .any, .any, .any, .any, .any, .any, .any, .any, .any, .any] ∧ st = σ ++ [some (.cells [.d .nils, .d .nils, .d .nils]), some (.cells (wC M))]) ?_ ?_
  · simp only [go_sem, live_old hs, objK_old hs, isD, List.length_map, nL_len, Tryz.results42]
    refine aw_loop (fun m fr st => ∃ j : Nat, j ≤ l.length ∧ m = l.length - j ∧ fr = [.any, .ref is 0, .ref σ.length 0, .ref (σ.length + 1) 0, du all, du (insW M all (l.take j)), .any, .any, .any, .any, .any, .any, .any, .d (.sl 1 ((nL l).map iD)), dn l.length, dn j, .any, .any, .any, .any, .any, .any, .any, .any, .any, .any, .any, .any, .any, .any, .any, .any, .any, .any, .any] ∧ st = σ ++ [some (.cells [.d .nils, .d .nils, .d .nils]), some (.cells (wC M))]) l.length _ (Wk.mask [1, 2, 3, 4, 5, 13, 14, 15] ⟨0, by omega, rfl, rfl, rfl⟩) ?_
    rintro m fr st ⟨j, hj, hm, rfl, rfl⟩
    have hU : U64 (insW M all (l.take j)) := by
      unfold insW
      rw [insF_eq]
      exact orF_lt _ 0 (by decide) fun n hn => h64 n (List.mem_of_mem_take (List.mem_filter.1 hn).1)
    rcases Nat.lt_or_ge j l.length with hlt | hge
    · have hd : decide ((j : Int) < (l.length : Int)) = true := by simp only [decide_eq_true_eq]; omega
      have w2 := wrapS j (by omega)
      have hsx : insW M all (l.take (j + 1)) = if nand (M.getD (l.getD j 0) 0) all = 0 then orW (insW M all (l.take j)) (l.getD j 0) else insW M all (l.take j) := by
        unfold insW
        rw [take_snoc 0 hlt, List.foldl_append]; rfl
      have hb := h64 _ (getD_mem 0 hlt)
      generalize insW M all (l.take j) = w at *
      have q1 := nL_getD hlt
      generalize l.getD j 0 = n at *
      have q2 := wC_at (W := M) (j := n) (by omega)
      have q3 : uShl 1 (n : Int) = ((2 ^ n : Nat) : Int) := uShl_one hb
      have q4 : uOr (w : Int) ((2 ^ n : Nat) : Int) = ((orW w n : Nat) : Int) := uOr_nat hU (pow_lt64 hb)
      have q5 := uNand_nat (hM.at_ n) hA
      simp only [isD, go_sem, hd, List.length_map, nL_len, q1, q2, q5, cl, ml, Int.toNat_natCast, Nat.mul_one, Nat.zero_add, Tryz.results42]
      by_cases hz : nand (M.getD n 0) all = 0
      · rw [if_pos hz] at hsx
        have hz' : (((nand (M.getD n 0) all : Nat) : Int) == 0) = true := by rw [hz]; rfl
        simp only [go_sem, hz', q3, q4, w2, Tryz.results42]
        refine ⟨⟨by omega, by omega⟩, ⟨by omega, by omega⟩, by omega, by omega, Wk.mask [1, 2, 3, 4, 5, 13, 14, 15] ⟨l.length - (j + 1), by omega, j + 1, by omega, rfl, by rw [hsx]; rfl, rfl⟩⟩
      · rw [if_neg hz] at hsx
        have hz' : (((nand (M.getD n 0) all : Nat) : Int) == 0) = false := by rw [beq_eq_false_iff_ne]; exact fun h => hz (Int.ofNat_eq_zero.1 h)
        simp only [go_sem, hz', w2, Tryz.results42]
        refine ⟨⟨by omega, by omega⟩, ⟨by omega, by omega⟩, by omega, Wk.mask [1, 2, 3, 4, 5, 13, 14, 15] ⟨l.length - (j + 1), by omega, j + 1, by omega, rfl, by rw [hsx]; rfl, rfl⟩⟩
    · have hd : decide ((j : Int) < (l.length : Int)) = false := by simp only [decide_eq_false_iff_not]; omega
      rw [List.take_of_length_le hge]
      simp only [isD, go_sem, hd, Tryz.results42]
      exact Wk.mask [1, 2, 5] ⟨rfl, rfl⟩
  rintro fr st ⟨rfl, rfl⟩
  have hU : U64 (insW M all l) := by
    unfold insW
    rw [insF_eq]
    exact orF_lt _ 0 (by decide) fun n hn => h64 n (List.mem_filter.1 hn).1
  simp only [go_sem, live_old hs, objK_old hs, Tryz.results42]
  refine ac' (rset_ac ws l hr.w _ hU _ _ _ ?_)
  simp only [setX, isD, go_sem, Tryz.results42]
  exact ret_d hbd h
theorem Inside_ac (ws : List Nat) (ps : List (Nat × Nat)) (l : List Nat) (hr : Rs ws ps) (hl : Ss ws l) (σ : St) (G : Glob) (hT : G.g 1 = some tabD) (R : A → St → Prop) (h : R (.tup [.d (setX ws (isD (nL (insL ps l)))), di 0]) σ) : AC Tryz.prog G 9 [.d (setX ws (prsD ps)), .d (setX ws (isD (nL l)))] σ R := by
  refine ac_enter' mixed Tryz.func9 rfl Tryz.ntmps9 (by simp only [go_sem]) fun hbd => ?_
  simp only [List.length_cons, List.length_nil, Nat.reduceAdd, Nat.reduceSub, List.replicate_succ, List.replicate_zero, List.cons_append, List.nil_append]
  simp only [setX, go_sem, Tryz.results9]
  refine ac' (rapplies_ac ws ps l hr hl _ _ hT _ ?_)
  simp only [go_sem, Tryz.results9]
  refine ac' (checkedS_ac 42 (setX ws (isD (nL (insL ps l)))) _ G ⟨_, _, _, rfl⟩ (fun σ' R hold hle hR => inside1_ac ws ps l hr hl σ' (by rw [hold _ (by simp)]; simp) (by rw [hold _ (by simp)]; simp) G R hR) _ ?_)
  simp only [setX, isD, go_sem, Tryz.results9]
  exact ret_bd hbd rfl h
end Go.Proofs.YtmjlhbkgljcnoaaGreatDoor
end PartT21

section PartT22
/- The relation between the states in which an expression is 1. -/
set_option linter.unusedSimpArgs false
set_option linter.unusedVariables false
set_option maxRecDepth 100000
namespace Go.Proofs.YtmjlhbkgljcnoaaGreatDoor
open Go Go.Ab

def c0 : Ex := .mk 1 1 0 []
theorem c0_ok : c0.Ok := .mk (by show 0 ≤ _; exact Nat.zero_le _) (fun k hk => by cases hk)
theorem c0_deep : c0.deep 40 = true := by simp [c0, Ex.deep, Ex.fits, Ex.arity, Ex.op, Ex.w, Ex.n, Ex.kids]
theorem c0_over (cells : List Cel) : c0.over cells false = true := by simp [c0, Ex.over, overL, Ex.overN, Ex.op]
theorem rshape_ac (cells : List Cel) (hk : cells.length ≤ 6) (σ : St) (G : Glob) (hG : G.g 0 = some masksD) (hT : G.g 1 = some tabD) (R : A → St → Prop)
    (h1 : ∀ code : Int, code ≠ 0 → (∀ ws : List Nat, cw cells = nL ws → Ws ws → ws.sum ≤ 6 → False) → R (.tup [.d zeroS, di code]) σ)
    (h2 : ∀ ws : List Nat, cw cells = nL ws → Ws ws → ws.sum ≤ 6 → ws.length = cells.length → ∀ l, R (.tup [.d (setX ws (isD l)), di 0]) σ) :
    AC Tryz.prog G 32 [.d (celsD cells), .d (isD (nL (List.range cells.length)))] σ R := by
  refine ac_enterC' [2] mixed Tryz.func32 rfl Tryz.ntmps32 (by simp only [go_sem]) fun hbd => ?_
  simp only [List.length_cons, List.length_nil, Nat.reduceAdd, Nat.reduceSub, List.replicate_succ, List.replicate_zero, List.cons_append, List.nil_append]
  simp only [celsD, go_sem, Tryz.results32]
  refine aw_cut (fun fr st => ∃ (x : D) (code : Int), fr = [.any, .any, .any, .any, .ref σ.length 0, .any, .ref (σ.length + 1) 0, di code, .any, .any, .any, .any, .any, .any, .any, .any, .any, .any, .any, .any, .any, .any, .any, .any, .any, .any] ∧ st = σ ++ [some (.cells [.d .nils, .d .nils, .d .nils]), some (.cells (x.cells.map .d))] ∧ ((x = zeroS ∧ code ≠ 0 ∧ ∀ ws : List Nat, cw cells = nL ws → Ws ws → False) ∨ ∃ ws l, x = setX ws (isD l) ∧ code = 0 ∧ cw cells = nL ws ∧ Ws ws ∧ ws.length = cells.length)) ?_ ?_
  · simp only [celsD, go_sem, Tryz.results32]
    refine ac' (ac_weak (Weak.nils (fr' := [.d (celsD cells), .d (isD (nL (List.range cells.length))), .d c0.d]) ?_) ?_)
    · exact .cons (.refl _) (.cons (.refl _) (.cons (.d (.agg (.cons (.refl _) (.cons (.refl _) (.cons (.refl _) (.cons (.nil 4) .nil)))))) .nil))
    refine Of_ac cells hk c0 c0_ok (by decide) _ G hG hT _ (fun code hc hb => ?_) (fun ws e1 e2 e3 _ _ _ => ?_)
    · simp only [zeroS, go_sem, Tryz.results32]
      exact Wk.mask [4, 6, 7] ⟨zeroS, code, rfl, rfl, .inl ⟨rfl, hc, fun ws e1 hW => hb ws e1 hW c0_deep (c0_over cells) rfl⟩⟩
    · simp only [setX, isD, go_sem, Tryz.results32]
      exact Wk.mask [4, 6, 7] ⟨setX ws (isD _), 0, rfl, rfl, .inr ⟨ws, _, rfl, rfl, e1, e2, e3⟩⟩
  rintro fr st ⟨x, code, rfl, rfl, ⟨rfl, hc, hb⟩ | ⟨ws, l, rfl, rfl, e1, e2, e3⟩⟩
  · have b1 : (code == 0) = false := by simp [hc]
    simp only [zeroS, D.cells, List.map_cons, List.map_nil, go_sem, b1, Tryz.results32]
    refine exs ⟨fun h => Bool.noConfusion h, fun _ => ?_⟩
    simp only [go_sem, b1, Tryz.results32]
    exact ret_bd hbd rfl (h1 code hc fun ws e1 hW _ => hb ws e1 hW)
  · have b1 : ((0 : Int) == 0) = true := by decide
    simp only [setX, D.cells, List.map_cons, List.map_nil, go_sem, b1, Tryz.results32]
    refine ex' (iD (ws.sum : Nat)) ⟨fun _ => ?_, ?_⟩
    · simp only [go_sem]
      exact ac' (rsum_ac ws (by have := e2.len; omega) (fun w hw => (e2.ok w hw).2) _ _ _ ⟨rfl, rfl⟩)
    simp only [go_sem, b1, Tryz.results32]
    refine ⟨fun q => ret_bd hbd rfl (h1 2 (by decide) fun ws' f1 hW' f6 => by
      have h3 := congrArg (List.map Int.toNat) (e1.symm.trans f1)
      have h4 : ws = ws' := by simpa [nL, List.map_map, Function.comp_def] using h3
      subst h4
      have : (6 : Int) < (ws.sum : Int) := by simpa using q
      omega), fun q => ret_bd hbd rfl (h2 ws e1 e2 ?_ e3 l)⟩
    have : ¬ 6 < (ws.sum : Int) := by simpa using q
    omega
def relB (ws : List Nat) (e : Ex) (x y : Nat) : Bool := evN (stI ws x) (stI ws y) e == 1
/-- The rows of an expression's relation. -/
structure RM (ws : List Nat) (e : Ex) (M : List Nat) : Prop where
  w : Words M
  bit : ∀ x z, mbit M x z = (decide (x < 2 ^ ws.sum) && decide (z < 2 ^ ws.sum) && relB ws e x z)
def stsA (ws : List Nat) (j : Nat) : List A := (List.range j).map fun n => .d (isD (stI ws n))
theorem stsA_len (ws : List Nat) (j : Nat) : (stsA ws j).length = j := by simp [stsA]
theorem stsA_snoc (ws : List Nat) (j : Nat) : stsA ws j ++ [.d (isD (stI ws j))] = stsA ws (j + 1) := by simp [stsA, List.range_succ]
theorem renL_stsA (n : Nat) (p : List Nat) (ws : List Nat) : ∀ j, renL n p (stsA ws j) = stsA ws j := by
  have : ∀ l : List Nat, renL n p (l.map fun n => A.d (isD (stI ws n))) = l.map fun n => A.d (isD (stI ws n)) := by
    intro l
    induction l with
    | nil => rfl
    | cons x l ih => simp only [List.map_cons, go_sem, ih]
  exact fun j => this _
theorem stsA_at {ws : List Nat} {N j : Nat} (h : j < N) : (stsA ws N).getD j .any = .d (isD (stI ws j)) := by
  unfold stsA
  rw [List.getD_eq_getElem?_getD, List.getElem?_map, List.getElem?_range h]; rfl
set_option maxHeartbeats 32000000 in
theorem relOf_ac (cells : List Cel) (hk : cells.length ≤ 6) (e : Ex) (hok : e.Ok) (hn : e.nodes ≤ 600) (σ : St) (G : Glob) (hG : G.g 0 = some masksD) (hT : G.g 1 = some tabD) (hp : ∀ a s, ¬ G.pan a s) (R : A → St → Prop)
    (h1 : ∀ code : Int, code ≠ 0 → (∀ ws : List Nat, cw cells = nL ws → Ws ws → ws.sum ≤ 6 → e.deep 40 = true → e.over cells true = true → e.w = 1 → False) → R (.tup [.d zeroS, di code]) σ)
    (h2 : ∀ ws : List Nat, cw cells = nL ws → Ws ws → ws.sum ≤ 6 → ws.length = cells.length → e.deep 40 = true → e.over cells true = true → e.w = 1 → ∀ M, RM ws e M → R (.tup [.d (setX ws (prsD (pairsM M 64))), di 0]) σ) :
    AC Tryz.prog G 7 [.d (celsD cells), .d (isD (nL (List.range cells.length))), .d e.d] σ R := by
  have hz : ∀ code : Int, code ≠ 0 → (∀ ws : List Nat, cw cells = nL ws → Ws ws → ws.sum ≤ 6 → e.deep 40 = true → e.over cells true = true → e.w = 1 → False) → Bd σ.length σ → ∀ l : St, ∃ r σ', Weak G σ.length [.tup [.d (.agg [.nils, .nils, .nils]), di code]] (σ ++ l) [r] σ' ∧ R r σ' := fun code hc hb hbd l => ret_bd hbd rfl (h1 code hc hb)
  rw [Ex.d_eq]
  refine ac_enterC' [7, 13, 15, 20, 31] mixed Tryz.func7 rfl Tryz.ntmps7 (by simp only [go_sem]) fun hbd => ?_
  simp only [List.length_cons, List.length_nil, Nat.reduceAdd, Nat.reduceSub, List.replicate_succ, List.replicate_zero, List.cons_append, List.nil_append]
  simp only [go_sem, Tryz.results7]
  refine ac' (rshape_ac cells hk _ G hG hT _ (fun code hc hb => ?_) (fun ws hws hW h6 hwl l => ?_))
  · have b1 : (code != 0) = true := by simp [hc]
    simp only [zeroS, go_sem, b1, Tryz.results7]
    exact hz code hc (fun ws e1 hW h6 _ _ _ => hb ws e1 hW h6) hbd _
  have b1 : ((0 : Int) != 0) = false := by decide
  have hwlen := hW.len
  simp only [setX, isD, go_sem, b1, Tryz.results7]
  rw [← Ex.d_eq e]
  refine ac' (valid_ac e hok hn cells true _ _ hG _ ?_)
  rw [Ex.d_eq e]
  simp only [go_sem, Tryz.results7]
  refine ⟨fun q => by simpa using q, fun q4 => hz 60 (by decide) (fun ws' _ _ _ hd hv hw => by rw [hd, hv, hw] at q4; simp at q4) hbd _, fun q3 => ?_⟩
  simp only [Bool.or_eq_false_iff, Bool.not_eq_false', Bool.and_eq_true, bne_eq_false_iff_eq] at q3
  obtain ⟨⟨hd, hv⟩, hw1⟩ := q3
  have hR := h2 ws hws hW h6 hwl hd hv hw1
  clear h2 h1 hz
  have hsup : ∀ x ∈ idxL (supB 3 e) 32 ++ idxL (supB 2 e) 32, x ∈ nL (List.range cells.length) := fun x hx => by
    have : 0 ≤ x ∧ x < cells.length := by
      rcases List.mem_append.1 hx with hx | hx
      · exact supp_lt (.inr rfl) hd hv hx
      · exact supp_lt (.inl rfl) hd hv hx
    exact List.mem_map.2 ⟨x.toNat, List.mem_range.2 (by omega), by show ((x.toNat : Nat) : Int) = x; omega⟩
  have hsl2 := idxL_len (supB 2 e) 32
  have hsl3 := idxL_len (supB 3 e) 32
  have hrl : (nL (List.range cells.length)).length ≤ 1000000 := by rw [nL_len, List.length_range]; omega
  obtain ⟨tl, htl⟩ : ∃ tl : St, tl = [some (.cells (exC e)), some (.cells [.d .nils, .d .nils, .d .nils]), some (.cells [.d (isD (nL (cL ws))), .d (isD (nL ws)), .d (isD l)])] := ⟨_, rfl⟩
  refine aw_cut (fun fr st => fr = [.any, .d (isD (nL (List.range cells.length))), .any, .any, .any, .ref σ.length 0, .ref (σ.length + 1) 0, .any, .ref (σ.length + 2) 0, .any, .d (isD (idxL (supB 3 e) 32)), .d (isD (idxL (supB 2 e) 32)), .any, .any, .any, .any, .any, .any, .any, .any, .any, .any, .any, .any, .any, .any, .any, .any, .any, .any, .any, .any, .any, .any, .any, .any, .any, .any, .any, .any, .any, .any, .any, .any, .any, .any, .any, .any, .any, .any, .any, .any, .any, .any, .any, .any, .any, .any, .any, .any, .any, .any, .any, .any, .any, .any, .any, .any, .any, .any, .any, .any, .any, .any, .any, .any, .any, .any, .any, .any, .any, .any, .any, .any, .any, .any, .any, .any, .any, .any, .any, .any, .any, .any, .any, .any, .any, .any, .any, .any, .any, .any, .any, .any, .any, .any, .any, .any, .any, .any, .any, .any, .any, .any, .any, .any, .any] ∧ st = σ ++ tl) ?_ ?_
  · simp only [go_sem, Tryz.results7]
    rw [← Ex.d_eq e]
    refine ac' (support_ac e hok hn hd _ _ hG _ ?_)
    rw [Ex.d_eq e]
    simp only [go_sem, Tryz.results7]
    exact Wk.mask [1, 5, 6, 8, 10, 11] ⟨rfl, by rw [htl]; rfl⟩
  rintro fr st ⟨rfl, rfl⟩
  generalize idxL (supB 2 e) 32 = now at *
  generalize idxL (supB 3 e) 32 = old at *
  simp only [go_sem, Tryz.results7]
  refine aw_cut (fun fr st => fr = [.any, .any, .any, .any, .any, .ref σ.length 0, .ref (σ.length + 1) 0, .any, .ref (σ.length + 2) 0, .any, .any, .any, .any, .any, .any, .any, .any, .any, .any, .any, .any, .any, .any, .any, .any, .any, .any, .any, .any, .any, .any, .any, .any, .any, .any, .any, .any, .any, .any, .any, .any, .any, .any, .any, .any, .any, .any, .any, .any, .any, .any, .any, .any, .any, .any, .any, .any, .any, .any, .any, .any, .any, .any, .any, .any, .any, .any, .any, .any, .any, .any, .any, .any, .any, .any, .any, .any, .any, .any, .any, .any, .any, .any, .any, .any, .any, .any, .any, .any, .any, .any, .any, .any, .any, .any, .any, .any, .any, .any, .any, .any, .any, .any, .any, .any, .any, .any, .any, .any, .any, .any, .any, .any, .any, .any, .any, .any] ∧ st = σ ++ tl) ?_ ?_
  · subst htl
    simp only [exC, isD, go_sem, Tryz.results7]
    refine ac' (ac_weak (Weak.deep [3] 4) ?_)
    simp only [go_sem]
    refine concat_ac old now (by omega) (by omega) _ _ _ ?_
    have hcl : (old ++ now).length = old.length + now.length := List.length_append
    simp only [intsO, go_sem, Tryz.results7]
    rw [← hcl]
    generalize hL : old ++ now = L at *
    refine aw_loop (fun m fr st => ∃ j : Nat, j ≤ L.length ∧ m = L.length - j ∧ fr = [.any, .d (isD (nL (List.range cells.length))), .any, .any, .any, .ref σ.length 0, .ref (σ.length + 1) 0, .any, .ref (σ.length + 2) 0, .any, .any, .any, .any, .any, .any, .any, .any, .any, .any, .any, .any, .any, .any, .any, .any, .any, .any, .any, .any, .any, .any, .any, .any, .any, .any, .any, .any, .any, .any, .any, .any, .any, .any, .any, .any, .any, .any, .any, .rs (σ.length + 3) 1 0 L.length (some 3), dn L.length, dn j, .any, .any, .any, .any, .any, .any, .any, .any, .any, .any, .any, .any, .any, .any, .any, .any, .any, .any, .any, .any, .any, .any, .any, .any, .any, .any, .any, .any, .any, .any, .any, .any, .any, .any, .any, .any, .any, .any, .any, .any, .any, .any, .any, .any, .any, .any, .any, .any, .any, .any, .any, .any, .any, .any, .any, .any, .any, .any, .any, .any, .any, .any, .any, .any, .any, .any] ∧ st = σ ++ [some (.cells (exC e)), some (.cells [.d .nils, .d .nils, .d .nils]), some (.cells [.d (isD (nL (cL ws))), .d (isD (nL ws)), .d (isD l)]), intsO L]) L.length _ ?_ ?_
    · refine Wk.keep [1, 5, 6, 8, 48, 49, 50] [0, 1, 2, 4] (by decide) (Nat.le_refl _) hbd ⟨0, by omega, rfl, ?_, ?_⟩
      · simp only [go_sem, isD]; rfl
      · simp only [go_sem, exC, isD, intsO, renL_ints]
    rintro m fr st ⟨j, hj, hm, rfl, rfl⟩
    rcases Nat.lt_or_ge j L.length with hlt | hge
    · have hdd : decide ((j : Int) < (L.length : Int)) = true := by simp only [decide_eq_true_eq]; omega
      have w2 := wrapS j (by omega)
      have q1 := getD_intsA hlt
      have hmem := hsup _ (getD_mem 0 hlt)
      simp only [exC, intsO, go_sem, hdd, List.length_map, q1, Int.toNat_natCast, Nat.mul_one, Nat.zero_add, Tryz.results7]
      refine ⟨⟨by omega, by omega⟩, by omega, ac' (contains_ac _ hrl _ _ _ _ ?_)⟩
      rw [decide_eq_true hmem]
      simp only [go_sem, w2, Tryz.results7]
      exact Wk.mask [1, 5, 6, 8, 48, 49, 50] ⟨L.length - (j + 1), by omega, j + 1, by omega, rfl, rfl, rfl⟩
    · have hdd : decide ((j : Int) < (L.length : Int)) = false := by simp only [decide_eq_false_iff_not]; omega
      simp only [exC, intsO, go_sem, hdd, Tryz.results7]
      refine Wk.keep [5, 6, 8] [0, 1, 2] (by decide) (Nat.le_refl _) hbd ⟨?_, ?_⟩
      · simp only [go_sem]
      · simp only [go_sem, exC, isD]
  clear hsup hsl2 hsl3
  rintro fr st ⟨rfl, rfl⟩
  subst htl
  simp only [exC, go_sem, Tryz.results7]
  refine ⟨⟨by omega, by omega, by omega, by omega⟩, ?_⟩
  obtain ⟨N, hN⟩ : ∃ N, 2 ^ ws.sum = N := ⟨_, rfl⟩
  have hN64 : N ≤ 64 := by rw [← hN]; exact Nat.pow_le_pow_right (n := 2) (j := 6) (by decide) h6
  have v1 : bShl 1 (ws.sum : Int) = (N : Int) := by rw [← hN]; exact bShl_one (by omega)
  refine aw_cut (fun fr st => fr = [.any, .any, .any, .any, .any, .ref σ.length 0, .ref (σ.length + 1) 0, .any, .ref (σ.length + 2) 0, .any, .any, .any, .any, .any, .d (isD (List.replicate 32 0)), .rs (σ.length + 3) 1 0 0 (some 28), .any, .any, .any, .any, .any, .any, .any, .any, .any, .any, .any, .any, .any, .any, .any, .any, .any, .any, .any, .any, .any, .any, .any, .any, .any, .any, .any, .any, .any, .any, .any, .any, .any, .any, .any, .any, .any, .any, .any, .any, .any, .any, .any, .any, .any, .any, .any, .any, .any, .any, .any, .any, .any, .any, .any, .any, .any, .any, .any, .any, .any, .any, .any, .any, .any, .any, .any, .any, .any, .any, .any, .any, .any, .any, .any, .any, .any, .any, .any, .any, .any, .any, .any, .any, .any, .any, .any, .any, .any, .any, .any, .any, .any, .any, .any, .any, .any, .any, .any, .any, .any] ∧ st = σ ++ [some (.cells (exC e)), some (.cells [.d .nils, .d .nils, .d .nils]), some (.cells [.d (isD (nL (cL ws))), .d (isD (nL ws)), .d (isD l)]), some (.cells (stsA ws 0))]) ?_ ?_
  · simp only [go_sem, Tryz.results7]
    refine Wk.frz 3 1 0 ((List.replicate 32 (0 : Int)).map iD) rfl (lies_ints _) ?_
    have t32 : Int.toNat 32 = 32 := rfl
    simp only [go_sem, List.length_map, List.length_replicate, t32]
    refine Wk.via (Weak.empty 15 1 (some 28) rfl) ?_
    simp only [List.append_assoc, List.length_append, List.length_cons, List.length_nil, List.cons_append, List.nil_append, Nat.reduceAdd, List.set_cons_succ, List.set_cons_zero]
    refine Wk.keep [5, 6, 8, 14, 15] [0, 1, 2, 4] (by decide) (Nat.le_refl _) hbd ⟨?_, ?_⟩
    · simp only [go_sem, isD]
    · simp only [go_sem, isD, exC]
      rfl
  rintro fr st ⟨rfl, rfl⟩
  simp only [exC, go_sem, Tryz.results7]
  refine aw_cut (fun fr st => fr = [.any, .any, .any, .any, .any, .ref σ.length 0, .ref (σ.length + 1) 0, .any, .ref (σ.length + 2) 0, .any, .any, .any, .any, .any, .any, .rs (σ.length + 3) 1 0 N (some 28), .any, .any, .any, .any, .any, .any, .any, .any, .any, .any, .any, .any, .any, .any, .any, .any, .any, .any, .any, .any, .any, .any, .any, .any, .any, .any, .any, .any, .any, .any, .any, .any, .any, .any, .any, .any, .any, .any, .any, .any, .any, .any, .any, .any, .any, .any, .any, .any, .any, .any, .any, .any, .any, .any, .any, .any, .any, .any, .any, .any, .any, .any, .any, .any, .any, .any, .any, .any, .any, .any, .any, .any, .any, .any, .any, .any, .any, .any, .any, .any, .any, .any, .any, .any, .any, .any, .any, .any, .any, .any, .any, .any, .any, .any, .any, .any, .any, .any, .any, .any, .any] ∧ st = σ ++ [some (.cells (exC e)), some (.cells [.d .nils, .d .nils, .d .nils]), some (.cells [.d (isD (nL (cL ws))), .d (isD (nL ws)), .d (isD l)]), some (.cells (stsA ws N))]) ?_ ?_
  · simp only [go_sem, Tryz.results7]
    refine ac' (rsum_ac ws (by omega) (fun w hw => (hW.ok w hw).2) _ _ _ ?_)
    simp only [go_sem, v1, Tryz.results7]
    refine ⟨by omega, aw_loop (fun m fr st => ∃ j : Nat, j ≤ N ∧ m = N - j ∧ fr = [.any, .any, .any, .any, .any, .ref σ.length 0, .ref (σ.length + 1) 0, .any, .ref (σ.length + 2) 0, .any, .any, .any, .any, .any, .d (isD (List.replicate 32 0)), .rs (σ.length + 3) 1 0 j (some 28), .any, .any, .any, .any, .any, .any, .any, .any, .any, .any, .any, .any, .any, .any, .any, .any, .any, .any, .any, .any, .any, .any, .any, .any, .any, .any, .any, .any, .any, .any, .any, .any, .any, .any, .any, .any, .any, .any, .any, .any, .any, .any, .any, .any, .any, .any, .any, .any, dn N, dn j, .any, .any, .any, .any, .any, .any, .any, .any, .any, .any, .any, .any, .any, .any, .any, .any, .any, .any, .any, .any, .any, .any, .any, .any, .any, .any, .any, .any, .any, .any, .any, .any, .any, .any, .any, .any, .any, .any, .any, .any, .any, .any, .any, .any, .any, .any, .any, .any, .any, .any, .any] ∧ st = σ ++ [some (.cells (exC e)), some (.cells [.d .nils, .d .nils, .d .nils]), some (.cells [.d (isD (nL (cL ws))), .d (isD (nL ws)), .d (isD l)]), some (.cells (stsA ws j))]) N _ (Wk.mask [5, 6, 8, 14, 15, 64, 65] ⟨0, by omega, rfl, rfl, rfl⟩) ?_⟩
    rintro m fr st ⟨j, hj, hm, rfl, rfl⟩
    have sl := stsA_len ws j
    rcases Nat.lt_or_ge j N with hlt | hge
    · have hdd : decide ((j : Int) < (N : Int)) = true := by simp only [decide_eq_true_eq]; omega
      have w2 := wrapS j (by omega)
      simp only [exC, go_sem, hdd, Tryz.results7]
      refine ac' (State_ac ws hW (isD l) rfl j (by omega) _ _ _ ?_)
      simp only [isD, go_sem, sl, w2, Tryz.results7]
      refine ⟨⟨by omega, by simp only [maxLen]; omega, by omega⟩, Wk.keep [5, 6, 8, 14, 15, 64, 65] [0, 1, 2, 5] (by decide) (Nat.le_refl _) hbd ⟨N - (j + 1), by omega, j + 1, by omega, rfl, ?_, ?_⟩⟩
      · simp only [go_sem, isD]
      · simp only [go_sem, isD, exC, renL_stsA, ← stsA_snoc]
    · have hdd : decide ((j : Int) < (N : Int)) = false := by simp only [decide_eq_false_iff_not]; omega
      obtain rfl : j = N := by omega
      simp only [exC, go_sem, hdd, Tryz.results7]
      exact Wk.mask [5, 6, 8, 15] ⟨rfl, rfl⟩
  rintro fr st ⟨rfl, rfl⟩
  have sl := stsA_len ws N
  have hU0 := zeroW_words
  simp only [exC, go_sem, Tryz.results7]
  refine aw_cut (fun fr st => ∃ M, RM ws e M ∧ fr = [.any, .any, .any, .any, .any, .any, .ref (σ.length + 1) 0, .any, .ref (σ.length + 2) 0, .any, .any, .any, .any, .any, .any, .any, .any, .ref (σ.length + 4) 0, .any, .any, .any, .any, .any, .any, .any, .any, .any, .any, .any, .any, .any, .any, .any, .any, .any, .any, .any, .any, .any, .any, .any, .any, .any, .any, .any, .any, .any, .any, .any, .any, .any, .any, .any, .any, .any, .any, .any, .any, .any, .any, .any, .any, .any, .any, .any, .any, .any, .any, .any, .any, .any, .any, .any, .any, .any, .any, .any, .any, .any, .any, .any, .any, .any, .any, .any, .any, .any, .any, .any, .any, .any, .any, .any, .any, .any, .any, .any, .any, .any, .any, .any, .any, .any, .any, .any, .any, .any, .any, .any, .any, .any, .any, .any, .any, .any, .any, .any] ∧ st = σ ++ [some (.cells (exC e)), some (.cells [.d .nils, .d .nils, .d .nils]), some (.cells [.d (isD (nL (cL ws))), .d (isD (nL ws)), .d (isD l)]), some (.cells (stsA ws N)), some (.cells (wC M))]) ?_ ?_
  · simp only [go_sem, Tryz.results7]
    refine aw_loop (fun m fr st => ∃ (x : Nat) (M : List Nat), x ≤ N ∧ m = N - x ∧ Words M ∧ (∀ a b, mbit M a b = (decide (a < x) && decide (b < N) && relB ws e a b)) ∧ fr = [.any, .any, .any, .any, .any, .ref σ.length 0, .ref (σ.length + 1) 0, .any, .ref (σ.length + 2) 0, .any, .any, .any, .any, .any, .any, .rs (σ.length + 3) 1 0 N (some 28), .any, .ref (σ.length + 4) 0, .any, .any, .any, .any, .any, .any, .any, .any, .any, .any, .any, .any, .any, .any, .any, .any, .any, .any, .any, .any, .any, .any, .any, .any, .any, .any, .any, .any, .any, .any, .any, .any, .any, .any, .any, .any, .any, .any, .any, .any, .any, .any, .any, .any, .any, .any, .any, .any, .any, .any, .any, .any, .any, .any, .any, .any, .any, .any, .any, .any, .any, dn N, dn x, .any, .any, .any, .any, .any, .any, .any, .any, .any, .any, .any, .any, .any, .any, .any, .any, .any, .any, .any, .any, .any, .any, .any, .any, .any, .any, .any, .any, .any, .any, .any, .any, .any, .any, .any, .any] ∧ st = σ ++ [some (.cells (exC e)), some (.cells [.d .nils, .d .nils, .d .nils]), some (.cells [.d (isD (nL (cL ws))), .d (isD (nL ws)), .d (isD l)]), some (.cells (stsA ws N)), some (.cells (wC M))]) N _ (Wk.mask [5, 6, 8, 15, 17, 79, 80] ⟨0, zeroW, by omega, rfl, zeroW_words, fun a b => by unfold mbit zeroW; rw [List.getD_eq_getElem?_getD, List.getElem?_replicate]; split <;> simp, rfl, rfl⟩) ?_
    rintro m fr st ⟨x, M, hx, hm, hM, hb, rfl, rfl⟩
    rcases Nat.lt_or_ge x N with hlt | hge
    · have hdd : decide ((x : Int) < (N : Int)) = true := by simp only [decide_eq_true_eq]; omega
      have w2 := wrapS x (by omega)
      simp only [exC, go_sem, hdd, Tryz.results7]
      refine aw_loop (fun m fr st => ∃ (y : Nat) (M : List Nat), y ≤ N ∧ m = N - y ∧ Words M ∧ (∀ a b, mbit M a b = ((decide (a < x) && decide (b < N) || decide (a = x) && decide (b < y)) && relB ws e a b)) ∧ fr = [.any, .any, .any, .any, .any, .ref σ.length 0, .ref (σ.length + 1) 0, .any, .ref (σ.length + 2) 0, .any, .any, .any, .any, .any, .any, .rs (σ.length + 3) 1 0 N (some 28), .any, .ref (σ.length + 4) 0, dn x, .any, .any, .any, .any, .any, .any, .any, .any, .any, .any, .any, .any, .any, .any, .any, .any, .any, .any, .any, .any, .any, .any, .any, .any, .any, .any, .any, .any, .any, .any, .any, .any, .any, .any, .any, .any, .any, .any, .any, .any, .any, .any, .any, .any, .any, .any, .any, .any, .any, .any, .any, .any, .any, .any, .any, .any, .any, .any, .any, .any, dn N, dn x, .any, .any, .any, dn N, dn y, .any, .any, .any, .any, .any, .any, .any, .any, .any, .any, .any, .any, .any, .any, .any, .any, .any, .any, .any, .any, .any, .any, .any, .any, .any, .any, .any, .any, .any, .any, .any] ∧ st = σ ++ [some (.cells (exC e)), some (.cells [.d .nils, .d .nils, .d .nils]), some (.cells [.d (isD (nL (cL ws))), .d (isD (nL ws)), .d (isD l)]), some (.cells (stsA ws N)), some (.cells (wC M))]) N _ (Wk.mask [5, 6, 8, 15, 17, 18, 79, 80, 84, 85] ⟨0, M, by omega, rfl, hM, fun a b => by rw [hb]; simp, rfl, rfl⟩) ?_
      clear hb hM
      rintro m fr st ⟨y, M, hy, hm, hM, hb, rfl, rfl⟩
      rcases Nat.lt_or_ge y N with hlty | hgey
      · have hdy : decide ((y : Int) < (N : Int)) = true := by simp only [decide_eq_true_eq]; omega
        have w3 := wrapS y (by omega)
        have q1 := stsA_at (ws := ws) hlt
        have q2 := stsA_at (ws := ws) hlty
        have cl := wC_len M
        have ml := hM.1
        have slen : ∀ n, (stI ws n).length = 32 := fun n => by unfold stI; rw [List.length_append, nL_len, vals_len, List.length_replicate]; omega
        have hev := eval_ac e hok hn hd (stI ws x) (stI ws y) (by rw [slen]; decide) (by rw [slen]; decide)
        have hrel : relB ws e x y = (((evN (stI ws x) (stI ws y) e : Nat) : Int) == 1) := by unfold relB; rw [Bool.eq_iff_iff, beq_iff_eq, beq_iff_eq]; omega
        simp only [exC, go_sem, hdy, Tryz.results7]
        refine aw_plan (.tk 9 0 <| .pure 9 <| .take 10 <| .done) (by kernel_rfl) ?_
        simp only [go_sem, sl, q1, q2, Int.toNat_natCast, Nat.mul_one, Nat.zero_add, Tryz.results7]
        refine ⟨⟨by omega, by omega⟩, hlt, ⟨by omega, by omega⟩, hlty, ?_⟩
        refine Go.Ab.exP (dn (evN (stI ws x) (stI ws y) e)) ⟨fun σ' => ?_, ?_⟩
        · simp only [go_sem]
          rw [← Ex.d_eq e]
          exact ac' (hev _ _ hG _ ⟨rfl, rfl⟩)
        simp only [go_sem, ← hrel, Tryz.results7]
        cases hq : relB ws e x y
        · simp only [go_sem, w3, Tryz.results7]
          refine Wk.mask [5, 6, 8, 15, 17, 18, 79, 80, 84, 85] ⟨N - (y + 1), by omega, y + 1, M, by omega, rfl, hM, fun a b => ?_, rfl, rfl⟩
          rw [hb]
          by_cases hab : a = x ∧ b = y
          · rw [hab.1, hab.2, hq, Bool.and_false, Bool.and_false]
          · congr 1
            rw [Bool.eq_iff_iff]; simp only [Bool.or_eq_true, Bool.and_eq_true, decide_eq_true_eq]; omega
        · have q3 := wC_at (W := M) (j := x) (by omega)
          have q4 : uShl 1 (y : Int) = ((2 ^ y : Nat) : Int) := uShl_one (by omega)
          have q5 := uOr_nat (hM.at_ x) (pow_lt64 (k := y) (by omega))
          have q6 := wC_set (W := M) (j := x) (x := M.getD x 0 ||| 2 ^ y) (by omega)
          simp only [go_sem, Tryz.results7]
          refine aw_plan (.tk 11 0 <| .done) (by kernel_rfl) ?_
          simp only [go_sem, q3, q4, q5, cl, ml, w3, Int.toNat_natCast, Nat.mul_one, Nat.zero_add, Tryz.results7]
          rw [show A.d (D.int IntKind.u64 ((M.getD x 0 ||| 2 ^ y : Nat) : Int)) = du (M.getD x 0 ||| 2 ^ y) from rfl, q6]
          refine ⟨⟨by omega, by omega⟩, by omega, by omega, ⟨by omega, by omega⟩, by omega, Wk.mask [5, 6, 8, 15, 17, 18, 79, 80, 84, 85] ⟨N - (y + 1), by omega, y + 1, rowP M (x, y), by omega, rfl, rowP_words hM (by show y < 64; omega), fun a b => ?_, rfl, rfl⟩⟩
          rw [rowP_bit hM (by show x < 64; omega), hb]
          by_cases hab : a = x ∧ b = y
          · obtain ⟨rfl, rfl⟩ := hab
            rw [hq]; simp
          · have hne : (x == a && y == b) = false := by
              rw [Bool.eq_false_iff]
              intro h
              rw [Bool.and_eq_true, beq_iff_eq, beq_iff_eq] at h
              exact hab ⟨h.1.symm, h.2.symm⟩
            show (_ || (x == a && y == b)) = _
            rw [hne, Bool.or_false]
            congr 1
            rw [Bool.eq_iff_iff]; simp only [Bool.or_eq_true, Bool.and_eq_true, decide_eq_true_eq]; omega
      · have hdy : decide ((y : Int) < (N : Int)) = false := by simp only [decide_eq_false_iff_not]; omega
        obtain rfl : y = N := by omega
        simp only [go_sem, hdy, w2, Tryz.results7]
        refine Wk.mask [5, 6, 8, 15, 17, 79, 80] ⟨y - (x + 1), by omega, x + 1, M, by omega, rfl, hM, fun a b => ?_, rfl, rfl⟩
        rw [hb]
        congr 1
        rw [Bool.eq_iff_iff]; simp only [Bool.or_eq_true, Bool.and_eq_true, decide_eq_true_eq]; omega
    · have hdd : decide ((x : Int) < (N : Int)) = false := by simp only [decide_eq_false_iff_not]; omega
      obtain rfl : x = N := by omega
      simp only [exC, go_sem, hdd, Tryz.results7]
      exact Wk.mask [6, 8, 17] ⟨M, ⟨hM, by rw [hN]; exact hb⟩, rfl, rfl⟩
  rintro fr st ⟨M, hM, rfl, rfl⟩
  simp only [exC, go_sem, Tryz.results7]
  refine ac' (relation_ac _ _ (by rw [nL_len, cL_len]; omega) (by rw [nL_len]; omega) M hM.w _ (by simp) _ hp _ ?_)
  simp only [isD, prsD, go_sem, Tryz.results7]
  exact ret_bd hbd rfl (hR M hM)
end Go.Proofs.YtmjlhbkgljcnoaaGreatDoor
end PartT22
