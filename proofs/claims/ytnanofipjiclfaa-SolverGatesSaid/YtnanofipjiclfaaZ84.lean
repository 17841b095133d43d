import Derived.Test.YtnanofipjiclfaaZ83

section PartT14
/- slices.Sort of at most twelve integers. -/
set_option linter.unusedSimpArgs false
set_option linter.unusedVariables false
set_option maxRecDepth 100000
namespace Go.Proofs.Ytnanofipjiclfaa.Srt
open Go Go.Ab

theorem nan_ac (x : Int) (σ : St) (G : Glob) (R : A → St → Prop) (h : R (db false) σ) : AC Try.prog G 87 [di x] σ R := by
  refine ac_enter mixed Try.func87 rfl Try.ntmps87 (by simp only [go_sem]) fun hbd => ?_
  simp only [List.length_cons, List.length_nil, Nat.reduceAdd, Nat.reduceSub, List.replicate_succ, List.replicate_zero, List.cons_append, List.nil_append]
  simp only [go_sem, Try.results87, bne_self_eq_false]
  exact ret_d0 h
theorem less_ac (x y : Int) (σ : St) (G : Glob) (R : A → St → Prop) (h : R (db (decide (x < y))) σ) : AC Try.prog G 77 [di x, di y] σ R := by
  refine ac_enter mixed Try.func77 rfl Try.ntmps77 (by simp only [go_sem]) fun hbd => ?_
  simp only [List.length_cons, List.length_nil, Nat.reduceAdd, Nat.reduceSub, List.replicate_succ, List.replicate_zero, List.cons_append, List.nil_append]
  simp only [go_sem]
  refine ac' (nan_ac _ _ _ _ ?_)
  simp only [go_sem]
  refine ex' (.bool false) ⟨fun hc => Bool.noConfusion hc, ?_⟩
  simp only [go_sem, Try.results77]
  exact ret_d0 h
abbrev ints (l : List Int) : Option Ob := some (.cells (l.map fun x => A.d (iD x)))
theorem getD_mapA {l : List Int} {j : Nat} (h : j < l.length) : List.getD (l.map fun x => A.d (iD x)) j .any = A.d (iD (l.getD j 0)) := by
  rw [List.getD_eq_getElem?_getD, List.getElem?_map, List.getD_eq_getElem?_getD, List.getElem?_eq_getElem h]; rfl

theorem objK_set {σ : St} {id : Nat} {cs : List A} {k : List A → Prop} (h : id < σ.length) : objK (σ.set id (some (.cells cs))) id k = k cs := by
  simp only [objK, List.getElem?_set, if_pos h, if_true]
theorem live_set {σ : St} {id : Nat} {o : Ob} (h : id < σ.length) : liveId (σ.set id (some o)) id = true := by
  simp only [liveId, List.getElem?_set, if_pos h, if_true]
theorem set_same {σ : St} {id : Nat} {o : Option Ob} (h : σ[id]? = some o) : σ.set id o = σ := by
  apply List.ext_getElem?
  intro k
  rw [List.getElem?_set]
  split
  · rename_i e; subst e
    rw [if_pos (List.getElem?_eq_some_iff.1 h).1, h]
  · rfl
theorem splice_ints {l : List Int} {j : Nat} (x : Int) (h : j < l.length) : (l.map fun x => A.d (iD x)).take j ++ [A.d (iD x)] ++ (l.map fun x => A.d (iD x)).drop (j + 1) = (l.set j x).map fun x => A.d (iD x) := by
  rw [← List.map_take, ← List.map_drop, List.set_eq_take_append_cons_drop, if_pos h]
  simp
theorem splice_ints' {l : List Int} {j : Nat} (x : Int) (h : j < l.length) : (l.map fun x => A.d (iD x)).take j ++ A.d (iD x) :: (l.map fun x => A.d (iD x)).drop (j + 1) = (l.set j x).map fun x => A.d (iD x) := by
  rw [← splice_ints x h]; simp
theorem set_getD {l : List Int} {j k : Nat} {x : Int} (h : j < l.length) : (l.set j x).getD k 0 = if k = j then x else l.getD k 0 := by
  rw [List.getD_eq_getElem?_getD, List.getElem?_set, List.getD_eq_getElem?_getD]
  split
  · rename_i e; subst e; simp [h]
  · rename_i e; rw [if_neg (fun e' => e e'.symm)]
/-- Neighbours change places. -/
theorem swap_perm : ∀ {l : List Int} {j : Nat}, j + 1 < l.length → ((l.set (j + 1) (l.getD j 0)).set j (l.getD (j + 1) 0)).Perm l
  | [], j, h => by simp at h
  | [x], j, h => by simp at h
  | x :: y :: l, 0, _ => by simpa [List.getD] using List.Perm.swap x y l
  | x :: y :: l, j + 1, h => by
    have := swap_perm (l := y :: l) (j := j) (by simpa using h)
    simpa [List.getD] using this.cons x
/-- Sorting the cells of an object of the caller's, in place. -/
theorem insort_ac (l : List Int) (hl : l.length ≤ 12) (σ : St) (id : Nat) (w : Option TypeId) (hσ : σ[id]? = some (ints l)) (G : Glob) (R : A → St → Prop)
    (h : ∀ (r : A) (l' : List Int), l'.Perm l → (∀ p q, p < q → q < l.length → l'.getD p 0 ≤ l'.getD q 0) → R r (σ.set id (ints l'))) : AC Try.prog G 71 [.rs id 1 0 l.length w, dn 0, dn l.length] σ R := by
  refine ac_enter mixed Try.func71 rfl Try.ntmps71 (by simp only [go_sem]) fun hbd => ?_
  simp only [List.length_cons, List.length_nil, Nat.reduceAdd, Nat.reduceSub, List.replicate_succ, List.replicate_zero, List.cons_append, List.nil_append]
  have w1 : IntKind.i64.wrap (0 + 1) = ((1 : Nat) : Int) := by rw [wrap64_id _ (by omega) (by omega)]; rfl
  have hid : id < σ.length := (List.getElem?_eq_some_iff.1 hσ).1
  simp only [go_sem, w1]
  refine aw_loop (fun m fr st => ∃ (i : Nat) (l' : List Int), 1 ≤ i ∧ m = l.length - i ∧ l'.Perm l ∧ (∀ p q, p < q → q < i → l'.getD p 0 ≤ l'.getD q 0) ∧ st = σ.set id (ints l') ∧ fr = [.rs id 1 0 l.length w, dn 0, dn l.length, .any, .any, .any, dn i, .any, .any, .any, .any, .any, .any, .any, .any, .any, .any, .any, .any, .any, .any, .any, .any, .any, .any, .any, .any, .any, .any, .any, .any, .any, .any, .any, .any, .any, .any, .any, .any, .any, .any, .any, .any, .any, .any, .any, .any, .any, .any]) (l.length - 1) _
    (Wk.mask [0, 1, 2, 6] ⟨1, l, by omega, rfl, .refl _, fun p q h1 h2 => by omega, (set_same hσ).symm, rfl⟩) ?_
  rintro m fr st ⟨i, l', hi, hm, hp, hs, rfl, rfl⟩
  rcases Nat.lt_or_ge i l.length with hlt | hge
  · have hd : decide ((i : Int) < (l.length : Int)) = true := decide_eq_true (by omega)
    have w2 := wrapS i (by omega)
    simp only [go_sem, hd, w2]
    refine aw_loop (fun m fr st => ∃ (j : Nat) (l' : List Int), j ≤ i ∧ m = j ∧ l'.Perm l ∧ (∀ p q, p < q → q ≤ i → q ≠ j → l'.getD p 0 ≤ l'.getD q 0) ∧ st = σ.set id (ints l') ∧ fr = [.rs id 1 0 l.length w, dn 0, dn l.length, .any, .any, .any, dn i, dn j, .any, .any, .any, .any, .any, .any, .any, .any, .any, .any, .any, .any, .any, .any, .any, .any, .any, .any, .any, .any, .any, .any, .any, .any, .any, .any, .any, .any, .any, .any, .any, .any, .any, .any, .any, .any, .any, .any, .any, .any, .any]) i _
      (Wk.mask [0, 1, 2, 6, 7] ⟨i, l', by omega, rfl, hp, fun p q h1 h2 h3 => hs p q h1 (by omega), rfl, rfl⟩) ?_
    clear hs hp
    rintro m' fr st ⟨j, l'', hj, rfl, hp, hs, rfl, rfl⟩
    have hlen : l''.length = l.length := hp.length_eq
    rcases Nat.eq_zero_or_pos m' with h0 | h0
    · subst h0
      have d0 : decide (((0 : Nat) : Int) < ((0 : Nat) : Int)) = false := rfl
      simp only [go_sem, objK_set hid, live_set hid, d0]
      refine ex' (.bool false) ⟨fun hc => Bool.noConfusion hc, ?_⟩
      simp only [go_sem, w2]
      exact Wk.mask [0, 1, 2, 6] ⟨l.length - (i + 1), by omega, i + 1, l'', by omega, rfl, hp, fun p q h1 h2 => hs p q h1 (by omega) (by omega), rfl, rfl⟩
    · have d0 : decide (((0 : Nat) : Int) < (m' : Int)) = true := decide_eq_true (by omega)
      have w3 : IntKind.i64.wrap ((m' : Int) - 1) = ((m' - 1 : Nat) : Int) := by rw [wrap64_id _ (by omega) (by omega)]; omega
      have e1 : List.getD (l''.map fun x => A.d (iD x)) m' .any = A.d (iD (l''.getD m' 0)) := getD_mapA (by omega)
      have e2 : List.getD (l''.map fun x => A.d (iD x)) (m' - 1) .any = A.d (iD (l''.getD (m' - 1) 0)) := getD_mapA (by omega)
      simp only [go_sem, objK_set hid, live_set hid, d0, w3, e1, e2, Nat.mul_one, Nat.zero_add, List.length_map]
      refine ⟨by omega, by omega, by omega, by omega, ex' (.bool (decide (l''.getD m' 0 < l''.getD (m' - 1) 0))) ⟨fun hc => ?_, ?_⟩⟩
      · simp only [go_sem, e1, e2]
        refine ac' (less_ac _ _ _ _ _ ?_)
        exact ⟨rfl, rfl⟩
      simp only [go_sem, objK_set hid, live_set hid, w3, e1, e2, Nat.mul_one, Nat.zero_add, List.length_map, List.set_set]
      refine ⟨fun hc => ⟨⟨by omega, by omega⟩, by omega, ⟨by omega, by omega⟩, by omega, ⟨by omega, by omega⟩, by omega, ⟨by omega, by omega⟩, by simp only [List.length_take, List.length_drop, List.length_map]; omega, ?_⟩, fun hc => ?_⟩
      · obtain ⟨j, rfl⟩ : ∃ j, m' = j + 1 := ⟨m' - 1, by omega⟩
        simp only [decide_eq_true_eq, Nat.add_sub_cancel] at hc
        refine Wk.mask [0, 1, 2, 6, 7] ⟨j, by omega, j, (l''.set (j + 1) (l''.getD j 0)).set j (l''.getD (j + 1) 0), by omega, rfl, (swap_perm (by omega)).trans hp, fun p q h1 h2 h3 => ?_, ?_, rfl⟩
        · have gk : ∀ k, ((l''.set (j + 1) (l''.getD j 0)).set j (l''.getD (j + 1) 0)).getD k 0 = if k = j then l''.getD (j + 1) 0 else if k = j + 1 then l''.getD j 0 else l''.getD k 0 := fun k => by
            rw [set_getD (by simp; omega), set_getD (by omega)]
          rw [gk p, gk q]
          by_cases q1 : q = j + 1
          · rw [if_neg (show ¬ q = j by omega), if_pos q1]
            by_cases p1 : p = j
            · rw [if_pos p1]; omega
            · rw [if_neg p1, if_neg (show ¬ p = j + 1 by omega)]; exact hs p j (by omega) (by omega) (by omega)
          · rw [if_neg (show ¬ q = j from h3), if_neg q1]
            by_cases p1 : p = j
            · rw [if_pos p1]; exact hs (j + 1) q (by omega) h2 q1
            · by_cases p2 : p = j + 1
              · rw [if_neg p1, if_pos p2]; exact hs j q (by omega) h2 q1
              · rw [if_neg p1, if_neg p2]; exact hs p q h1 h2 q1
        · simp only [Nat.add_sub_cancel]
          rw [splice_ints' _ (by omega), splice_ints' _ (by simp; omega)]
      · simp only [w2]
        simp only [decide_eq_false_iff_not] at hc
        refine Wk.mask [0, 1, 2, 6] ⟨l.length - (i + 1), by omega, i + 1, l'', by omega, rfl, hp, fun p q h1 h2 => ?_, rfl, rfl⟩
        by_cases hq : q = m'
        · subst hq
          by_cases hp1 : p = q - 1
          · subst hp1; omega
          · have := hs p (q - 1) (by omega) (by omega) (by omega); omega
        · exact hs p q h1 (by omega) hq
  · have hd : decide ((i : Int) < (l.length : Int)) = false := decide_eq_false (by omega)
    simp only [go_sem, hd, Try.results71]
    exact ⟨_, _, Weak.refl _ _ _ _, h _ l' hp fun p q h1 h2 => hs p q h1 (by omega)⟩

theorem len64_ac (x : Nat) (hx : x ≤ 12) (σ : St) (G : Glob) (R : A → St → Prop) (h : ∀ n, R (di n) σ) : AC Try.prog G 81 [.d (.int .u64 x)] σ R := by
  refine ac_enter mixed Try.func81 rfl Try.ntmps81 (by simp only [go_sem]) fun hbd => ?_
  simp only [List.length_cons, List.length_nil, Nat.reduceAdd, Nat.reduceSub, List.replicate_succ, List.replicate_zero, List.cons_append, List.nil_append]
  have d1 : decide ((4294967296 : Int) ≤ (x : Int)) = false := decide_eq_false (by omega)
  have d2 : decide ((65536 : Int) ≤ (x : Int)) = false := decide_eq_false (by omega)
  have d3 : decide ((256 : Int) ≤ (x : Int)) = false := decide_eq_false (by omega)
  have w1 : IntKind.u8.wrap (x : Int) = (x : Int) := by rw [IntKind.wrap_u8]; omega
  simp only [go_sem, d1, d2, d3, w1, Try.results81]
  exact ⟨⟨by omega, Int.ofNat_lt.2 (Nat.lt_of_le_of_lt hx (by decide))⟩, ret_d0 (h _)⟩
theorem bitlen_ac (x : Nat) (hx : x ≤ 12) (σ : St) (G : Glob) (R : A → St → Prop) (h : ∀ n, R (di n) σ) : AC Try.prog G 70 [.d (.int .u64 x)] σ R := by
  refine ac_enter mixed Try.func70 rfl Try.ntmps70 (by simp only [go_sem]) fun hbd => ?_
  simp only [List.length_cons, List.length_nil, Nat.reduceAdd, Nat.reduceSub, List.replicate_succ, List.replicate_zero, List.cons_append, List.nil_append]
  simp only [go_sem]
  refine ac' (len64_ac x hx _ _ _ fun n => ?_)
  simp only [go_sem, Try.results70]
  exact ret_d0 (h _)
theorem pdq_ac (l : List Int) (hl : l.length ≤ 12) (n : Int) (σ : St) (id : Nat) (w : Option TypeId) (hσ : σ[id]? = some (ints l)) (G : Glob) (R : A → St → Prop)
    (h : ∀ (r : A) (l' : List Int), l'.Perm l → (∀ p q, p < q → q < l.length → l'.getD p 0 ≤ l'.getD q 0) → R r (σ.set id (ints l'))) : AC Try.prog G 69 [.rs id 1 0 l.length w, dn 0, dn l.length, di n] σ R := by
  refine ac_enter mixed Try.func69 rfl Try.ntmps69 (by simp only [go_sem]) fun hbd => ?_
  simp only [List.length_cons, List.length_nil, Nat.reduceAdd, Nat.reduceSub, List.replicate_succ, List.replicate_zero, List.cons_append, List.nil_append]
  have w1 : IntKind.i64.wrap ((l.length : Int) - ((0 : Nat) : Int)) = (l.length : Int) := by rw [wrap64_id _ (by omega) (by omega)]; omega
  have d1 : decide ((l.length : Int) ≤ 12) = true := decide_eq_true (by omega)
  simp only [go_sem]
  refine aw_loop (fun m fr st => st = σ ∧ fr = [.rs id 1 0 l.length w, dn 0, dn l.length, di n, .any, .any, .any, .any, db true, db true, .any, .any, .any, .any, .any, .any, .any, .any, .any, .any, .any, .any, .any, .any, .any, .any, .any, .any, .any, .any, .any, .any, .any, .any, .any, .any, .any, .any, .any, .any, .any, .any, .any, .any, .any, .any, .any, .any, .any, .any, .any, .any, .any, .any, .any, .any, .any, .any, .any, .any, .any, .any, .any, .any, .any, .any, .any, .any, .any, .any, .any, .any, .any, .any, .any, .any, .any, .any, .any, .any, .any, .any, .any, .any, .any, .any, .any, .any, .any, .any, .any, .any, .any, .any, .any, .any, .any, .any, .any, .any, .any, .any, .any, .any, .any, .any, .any, .any, .any, .any, .any, .any, .any, .any, .any, .any, .any, .any, .any, .any, .any, .any, .any, .any, .any, .any, .any, .any, .any, .any, .any, .any, .any, .any]) 0 _ (Wk.mask [0, 1, 2, 3, 8, 9] ⟨rfl, rfl⟩) ?_
  rintro m fr st ⟨rfl, rfl⟩
  simp only [go_sem, w1, d1, Try.results69]
  refine ac' (insort_ac l hl _ _ _ hσ _ _ fun r l' hp hs => ?_)
  simp only [go_sem, Try.results69]
  exact ⟨_, _, Weak.refl _ _ _ _, h _ l' hp hs⟩
theorem sort_ac (l : List Int) (hl : l.length ≤ 12) (σ : St) (id : Nat) (w : Option TypeId) (hσ : σ[id]? = some (ints l)) (G : Glob) (R : A → St → Prop)
    (h : ∀ (r : A) (l' : List Int), l'.Perm l → (∀ p q, p < q → q < l.length → l'.getD p 0 ≤ l'.getD q 0) → R r (σ.set id (ints l'))) : AC Try.prog G 66 [.rs id 1 0 l.length w] σ R := by
  refine ac_enter mixed Try.func66 rfl Try.ntmps66 (by simp only [go_sem]) fun hbd => ?_
  simp only [List.length_cons, List.length_nil, Nat.reduceAdd, Nat.reduceSub, List.replicate_succ, List.replicate_zero, List.cons_append, List.nil_append]
  have w1 : IntKind.u64.wrap (l.length : Int) = (l.length : Int) := by rw [IntKind.wrap_u64]; omega
  have hlive := live_of hσ
  simp only [go_sem, w1, hlive]
  refine ac' (bitlen_ac l.length hl _ _ _ fun n => ?_)
  simp only [go_sem]
  refine ac' (pdq_ac l hl n _ _ _ hσ _ _ fun r l' hp hs => ?_)
  simp only [go_sem, Try.results66]
  exact ⟨_, _, Weak.refl _ _ _ _, h _ l' hp hs⟩
end Go.Proofs.Ytnanofipjiclfaa.Srt
end PartT14

section PartT15
/- same: two lists without repetitions have the same elements. -/
set_option linter.unusedSimpArgs false
set_option linter.unusedVariables false
set_option maxRecDepth 100000
namespace Go.Proofs.Ytnanofipjiclfaa
open Go Go.Ab
variable {I : Sl → Nat} {S : Sv} {σ : St}

theorem eq_app {σ σ' : St} (h : ∀ k, k < σ.length → σ'[k]? = σ[k]?) (hl : σ.length ≤ σ'.length) : σ' = σ ++ σ'.drop σ.length := by
  apply List.ext_getElem?
  intro k
  rcases Nat.lt_or_ge k σ.length with hk | hk
  · rw [h k hk, List.getElem?_append_left hk]
  · rw [List.getElem?_append_right hk, List.getElem?_drop]; congr 1; omega
theorem either_of {p : Prop} {b : Bool} {k : A → St → Prop} {σ : St} (h1 : p → k (.d (.bool (true == b))) σ) (h2 : k (.d (.bool (false == b))) σ) : eitherK p b k σ := fun r hr => by
  cases r
  · exact h2
  · exact h1 (hr rfl)
theorem flat_ints (l : List Int) : flat (l.map iD) = intsA l := by
  induction l with
  | nil => rfl
  | cons x l ih => simp only [List.map_cons, flat_cons, ih]; rfl
theorem clone_ac (xs : List Int) (hl : xs.length ≤ 1000000) (σ : St) (G : Glob) (R : A → St → Prop)
    (h : ∀ id σ', σ'[id]? = some (some (.cells (intsA xs))) → σ.length ≤ id → (∀ k, k < σ.length → σ'[k]? = σ[k]?) → σ.length ≤ σ'.length → R (.rs id 1 0 xs.length (some 3)) σ') : AC Try.prog G 65 [.d (isD xs)] σ R := by
  unfold isD
  refine ac_enter mixed Try.func65 rfl Try.ntmps65 (by simp only [go_sem]) fun hbd => ?_
  simp only [List.length_cons, List.length_nil, Nat.reduceAdd, Nat.reduceSub, List.replicate_succ, List.replicate_zero, List.cons_append, List.nil_append]
  simp only [go_sem, Try.results65]
  refine either_of (fun e => ?_) ?_
  · have hx : xs = [] := by simpa using e
    subst hx
    simp only [go_sem, Try.results65]
    refine ret_via (Weak.empty 0 1 (some 3) rfl) ⟨_, _, Weak.refl _ _ _ _, h _ _ ?_ (Nat.le_refl _) (fun k hk => by rw [List.getElem?_append_left hk]) (by simp)⟩
    rw [List.getElem?_append_right (by omega), Nat.sub_self]; rfl
  · simp only [go_sem, Try.results65]
    rw [flat_ints, List.length_map]
    refine ⟨⟨by simp only [maxLen]; omega, by omega⟩, _, _, Weak.refl _ _ _ _, h _ _ ?_ (by omega) (fun k hk => by rw [List.getElem?_append_left hk]) (by simp)⟩
    rw [List.getElem?_append_right (by omega), Nat.add_sub_cancel_left]; rfl
theorem equal_ac (i1 i2 : Nat) (xs ys : List Int) (hl : xs.length = ys.length) (hn : xs.length ≤ 1000000) (o1 o2 : Option TypeId) (h1 : σ[i1]? = some (some (.cells (intsA xs)))) (h2 : σ[i2]? = some (some (.cells (intsA ys)))) (G : Glob) (R : A → St → Prop) (h : R (db (xs == ys)) σ) :
    AC Try.prog G 67 [.rs i1 1 0 xs.length o1, .rs i2 1 0 ys.length o2] σ R := by
  refine ac_enter mixed Try.func67 rfl Try.ntmps67 (by simp only [go_sem]) fun hbd => ?_
  simp only [List.length_cons, List.length_nil, Nat.reduceAdd, Nat.reduceSub, List.replicate_succ, List.replicate_zero, List.cons_append, List.nil_append]
  have e0 : ((xs.length : Int) != (ys.length : Int)) = false := by simp [hl]
  simp only [go_sem, live_of h1, live_of h2, e0, Try.results67]
  refine aw_loop (fun m fr st => ∃ j : Nat, j ≤ xs.length ∧ m = xs.length - j ∧ xs.take j = ys.take j ∧ st = σ ∧ fr = [.rs i1 1 0 xs.length o1, .rs i2 1 0 ys.length o2, .any, .any, .any, .any, .any, .any, .any, .any, .any, .any, dn xs.length, dn j, .any, .any, .any, .any, .any, .any, .any, .any, .any, .any, .any, .any]) xs.length _ (Wk.mask [0, 1, 12, 13] ⟨0, by omega, by omega, rfl, rfl, rfl⟩) ?_
  rintro m fr st ⟨j, hj, hm, ht, rfl, rfl⟩
  rcases Nat.lt_or_ge j xs.length with hlt | hge
  · have hd : decide ((j : Int) < (xs.length : Int)) = true := by simp; omega
    have w2 := wrapS j (by omega)
    have hlt2 : j < ys.length := by omega
    simp only [go_sem, hd, live_of h1, objK_of h1, live_of h2, objK_of h2, intsA_len, intsA_get hlt, intsA_get hlt2, w2, Nat.mul_one, Try.results67]
    refine ⟨⟨by omega, by omega⟩, hlt, ⟨by omega, by omega⟩, hlt2, fun c => ?_, fun c => ?_⟩
    · have hne : xs.getD j 0 ≠ ys.getD j 0 := by simpa using c
      have e : (xs == ys) = false := by
        rw [Bool.eq_false_iff]; intro e; simp at e; subst e; exact hne rfl
      rw [e] at h
      exact ret_d0 h
    · have he : xs.getD j 0 = ys.getD j 0 := by simpa using c
      exact Wk.mask [0, 1, 12, 13] ⟨xs.length - (j + 1), by omega, j + 1, by omega, rfl, by rw [take_getD 0 hlt, take_getD 0 hlt2, ht, he], rfl, rfl⟩
  · have hd : decide ((j : Int) < (xs.length : Int)) = false := by simp; omega
    rw [List.take_of_length_le hge, List.take_of_length_le (by omega)] at ht
    subst ht
    simp only [go_sem, hd, Try.results67]
    rw [beq_self_eq_true] at h
    exact ret_d0 h
theorem sorted_eq {xs ys a b : List Int} (h1 : xs.Perm a) (h2 : ys.Perm b) (s1 : ∀ p q, p < q → q < a.length → xs.getD p 0 ≤ xs.getD q 0) (s2 : ∀ p q, p < q → q < b.length → ys.getD p 0 ≤ ys.getD q 0) : (xs == ys) = a.isPerm b := by
  have pw : ∀ {xs a : List Int}, xs.Perm a → (∀ p q, p < q → q < a.length → xs.getD p 0 ≤ xs.getD q 0) → xs.Pairwise (· ≤ ·) := fun {xs a} h s => by
    rw [List.pairwise_iff_getElem]
    intro i j hi hj hij
    have := s i j hij (by rw [← h.length_eq]; exact hj)
    rw [List.getD_eq_getElem?_getD, List.getD_eq_getElem?_getD, List.getElem?_eq_getElem hi, List.getElem?_eq_getElem hj] at this
    exact this
  rw [Bool.eq_iff_iff, List.isPerm_iff, beq_iff_eq]
  constructor
  · rintro rfl; exact h1.symm.trans h2
  · intro h
    exact List.Perm.eq_of_pairwise (fun a b _ _ q1 q2 => Int.le_antisymm q1 q2) (pw h1 s1) (pw h2 s2) (h1.trans (h.trans h2.symm))
set_option maxHeartbeats 4000000 in
theorem same_ac (a b : List Int) (ha : a.length ≤ 12 ∨ a.length ≠ b.length) (hb : b.length ≤ 1000000) (ha' : a.length ≤ 1000000) (σ : St) (G : Glob) (R : A → St → Prop)
    (h : R (db (Sv.same a b)) σ) : AC Try.prog G 62 [.d (isD a), .d (isD b)] σ R := by
  unfold Sv.same at h
  by_cases hl : a.length = b.length
  · have ha := ha.resolve_right (fun e => e hl)
    have e0 : ((a.length : Int) != (b.length : Int)) = false := by simp [hl]
    have e1 : (a.length == b.length) = true := by simp [hl]
    rw [e1, Bool.true_and] at h
    unfold isD
    refine ac_enter' mixed Try.func62 rfl Try.ntmps62 (by simp only [go_sem]) fun hbd => ?_
    simp only [List.length_cons, List.length_nil, Nat.reduceAdd, Nat.reduceSub, List.replicate_succ, List.replicate_zero, List.cons_append, List.nil_append]
    simp only [go_sem, List.length_map, e0, Try.results62]
    refine ac' (clone_ac a ha' _ _ _ fun i1 σ1 q1 q2 q3 q4 => ?_)
    simp only [go_sem, Try.results62]
    refine ac' (clone_ac b hb _ _ _ fun i2 σ2 p1 p2 p3 p4 => ?_)
    have q1' : σ2[i1]? = some (some (.cells (intsA a))) := by rw [p3 i1 (lt_of_some q1)]; exact q1
    have hne : i1 ≠ i2 := by have := lt_of_some q1; omega
    simp only [go_sem, Try.results62]
    refine ac' (Srt.sort_ac a ha _ i1 _ q1' _ _ fun r xs hp hs => ?_)
    have p1' : (σ2.set i1 (Srt.ints xs))[i2]? = some (some (.cells (intsA b))) := by rw [set_other hne]; exact p1
    simp only [go_sem, Try.results62]
    refine ac' (Srt.sort_ac b (by omega) _ i2 _ p1' _ _ fun r ys hp2 hs2 => ?_)
    have f1 : ((σ2.set i1 (Srt.ints xs)).set i2 (Srt.ints ys))[i1]? = some (some (.cells (intsA xs))) := by rw [set_other (Ne.symm hne)]; exact set_same q1'
    have f2 : ((σ2.set i1 (Srt.ints xs)).set i2 (Srt.ints ys))[i2]? = some (some (.cells (intsA ys))) := set_same p1'
    have heq := equal_ac i1 i2 xs ys (by rw [hp.length_eq, hp2.length_eq]; exact hl) (by rw [hp.length_eq]; exact ha') (some 3) (some 3) f1 f2
    rw [hp.length_eq, hp2.length_eq] at heq
    simp only [go_sem, Try.results62]
    refine ac' (heq _ _ ?_)
    rw [sorted_eq hp hp2 hs hs2]
    simp only [go_sem, Try.results62]
    have e9 := eq_app (σ := σ) (σ' := (σ2.set i1 (Srt.ints xs)).set i2 (Srt.ints ys)) (fun k hk => by rw [set_other (by omega), set_other (by omega), p3 k (by omega), q3 k hk]) (by simp; omega)
    rw [e9]
    exact ret_bd hbd rfl h
  · have e0 : ((a.length : Int) != (b.length : Int)) = true := by simp; omega
    have e1 : (a.length == b.length) = false := by simp [hl]
    rw [e1, Bool.false_and] at h
    unfold isD
    refine ac_enter' mixed Try.func62 rfl Try.ntmps62 (by simp only [go_sem]) fun hbd => ?_
    simp only [List.length_cons, List.length_nil, Nat.reduceAdd, Nat.reduceSub, List.replicate_succ, List.replicate_zero, List.cons_append, List.nil_append]
    simp only [go_sem, List.length_map, e0, Try.results62]
    exact ret_d0 h
end Go.Proofs.Ytnanofipjiclfaa
end PartT15

section PartT16
/- learn. -/
set_option linter.unusedSimpArgs false
set_option linter.unusedVariables false
set_option maxRecDepth 100000
namespace Go.Proofs.Ytnanofipjiclfaa
open Go Go.Ab
variable {I : Sl → Nat} {S : Sv} {σ : St}

theorem reps0 (n : Nat) : (List.replicate n [A.d (D.int .i64 0)]).flatten = intsA (List.replicate n 0) := by
  induction n with
  | zero => rfl
  | succ n ih => simp only [List.replicate_succ, List.flatten_cons, ih]; rfl
theorem stepsA_split {l : List (List Int × List Nat)} {j : Nat} (h : j < l.length) : stepsA l = stepsA (l.take j) ++ (stepA' (l.getD j ([], [])) ++ stepsA (l.drop (j + 1))) := by
  have : l = l.take j ++ (l.getD j ([], []) :: l.drop (j + 1)) := by
    rw [List.getD_eq_getElem?_getD, List.getElem?_eq_getElem h, Option.getD_some, ← List.drop_eq_getElem_cons h, List.take_append_drop]
  conv => lhs; rw [this]
  simp [stepsA]
theorem stepsA_get {l : List (List Int × List Nat)} {j k : Nat} (h : j < l.length) (hk : k < 2) : List.getD (stepsA l) (j * 2 + k) .any = List.getD (stepA' (l.getD j ([], []))) k .any := by
  have hl : (stepsA (l.take j)).length = j * 2 := by rw [stepsA_len, List.length_take, Nat.min_eq_left (Nat.le_of_lt h)]
  rw [stepsA_split h, List.getD_eq_getElem?_getD, List.getElem?_append_right (by omega), hl, Nat.add_sub_cancel_left, List.getElem?_append_left (by simpa [stepA'] using hk), ← List.getD_eq_getElem?_getD]
theorem stepsA_lits {l : List (List Int × List Nat)} {j : Nat} (h : j < l.length) : List.getD (stepsA l) (j * 2) .any = .d (isD (l.getD j ([], [])).1) := stepsA_get (k := 0) h (by omega)
theorem stepsA_snoc (l : List (List Int × List Nat)) (s : List Int × List Nat) : stepsA (l ++ [s]) = stepsA l ++ [.d (isD s.1), .d (nsD s.2)] := by simp [stepsA, stepA']
theorem clsA_snoc (l : List Cl) (c : Cl) : clsA (l ++ [c]) = clsA l ++ [.d (isD c.lits), .d (iD c.opn), .d (iD c.held)] := by simp [clsA, clA]
theorem enter_fold (S0 : Sv) (id : Nat) : ∀ (lits : List Int) (p : Sv × Cl), (∃ la oc, p.1 = { S0 with stamp := S0.stamp + 1, last := la, occ := oc } ∧ la.length = S0.last.length ∧ oc.length = S0.occ.length) →
    ∃ la oc, (lits.foldl (Sv.enter1 id) p).1 = { S0 with stamp := S0.stamp + 1, last := la, occ := oc } ∧ la.length = S0.last.length ∧ oc.length = S0.occ.length
  | [], _, h => h
  | l :: lits, p, h => by
    refine enter_fold S0 id lits _ ?_
    obtain ⟨la, oc, h1, h2, h3⟩ := h
    unfold Sv.enter1
    split
    · exact ⟨la, oc, h1, h2, h3⟩
    · exact ⟨_, _, by rw [h1], by simpa [h1] using h2, by simpa [h1] using h3⟩
theorem enter_shape (S : Sv) (lits : List Int) (id : Nat) : ∃ la oc, (S.enter lits id).1 = { S with stamp := S.stamp + 1, last := la, occ := oc } ∧ la.length = S.last.length ∧ oc.length = S.occ.length :=
  enter_fold S id lits _ ⟨S.last, S.occ, rfl, rfl, rfl⟩
set_option maxHeartbeats 8000000 in
theorem learn_ac (hS : Sol I S σ) (hs : Sh S) (lits : List Int) (hints : List Nat) (hl : ∀ l ∈ lits, LitV S.vars l) (hn : lits.length ≤ 12) (hsl : S.steps.length ≤ 20000) (hle : S.learned.length ≤ 20000) (hst : ∀ s ∈ S.steps, s.1.length ≤ 12)
    (hocc : ∀ d, (S.occ.getD d []).length ≤ 1000000) (hstamp : S.stamp ≤ 1000000000000)
    (G : Glob) (R : A → St → Prop) (h : ∀ I' σ', Sol I' (S.learn lits hints).1 σ' → Stp Any I S σ I' σ' → R (db (S.learn lits hints).2) σ') : AC Try.prog G 48 [.ref (I .st) 0, .d (isD lits), .d (nsD hints)] σ R := by
  unfold isD
  refine ac_enterC' [2, 7, 10, 13, 14] mixed Try.func48 rfl Try.ntmps48 (by simp only [go_sem]) fun hbd => ?_
  simp only [List.length_cons, List.length_nil, Nat.reduceAdd, Nat.reduceSub, List.replicate_succ, List.replicate_zero, List.cons_append, List.nil_append]
  simp only [go_sem, Try.results48]
  refine aw_cut (fun fr st => fr = [.ref (I .st) 0, .d (isD lits), .d (nsD hints), .any, .any, .any, .any, .rs σ.length 1 0 lits.length (some 3), .any, .any, .any, .any, .any, .any, .any, .any, .any, .any, .any, .any, .any, .any, .any, .any, .any, .any, .any, .any, .any, .any, .any, .any, .any, .any, .any, .any, .any, .any, .any, .any, .any, .any, .any, .any, .any, .any, .any, .any, .any, .any, .any, .any, .any, .any, .any, .any, .any, .any, .any, .any, .any, .any, .any, .any, .any, .any, .any, .any, .any, .any, .any, .any, .any, .any, .any, .any, .any, .any, .any, .any, .any, .any, .any, .any, .any, .any, .any, .any, .any, .any, .any] ∧ st = σ ++ [some (Ob.cells (intsA (List.replicate lits.length 0)))]) ?_ ?_
  · simp only [go_sem, List.length_map, Try.results48]
    rw [reps0]
    exact ⟨by omega, Wk.mask [0, 1, 2, 7] ⟨rfl, rfl⟩⟩
  rintro fr st ⟨rfl, rfl⟩
  obtain ⟨neg, hneg⟩ : ∃ neg, neg = lits.map fun x => -x := ⟨_, rfl⟩
  have hnl : neg.length = lits.length := by rw [hneg, List.length_map]
  have hnv : ∀ l ∈ neg, LitV S.vars l := fun l hl' => by
    rw [hneg] at hl'
    obtain ⟨x, hx, rfl⟩ := List.mem_map.1 hl'
    exact (hl x hx).neg
  refine aw_cut (fun fr st => fr = [.ref (I .st) 0, .any, .d (nsD hints), .any, .any, .any, .any, .d (isD neg), .any, .any, .any, .any, .any, .any, .any, .any, .any, .any, .any, .any, .any, .any, .any, .any, .any, .any, .any, .any, .any, .any, .any, .any, .any, .any, .any, .any, .any, .any, .any, .any, .any, .any, .any, .any, .any, .any, .any, .any, .any, .any, .any, .any, .any, .any, .any, .any, .any, .any, .any, .any, .any, .any, .any, .any, .any, .any, .any, .any, .any, .any, .any, .any, .any, .any, .any, .any, .any, .any, .any, .any, .any, .any, .any, .any, .any, .any, .any, .any, .any, .any, .any] ∧ Sol I S st ∧ Stp Any I S σ I st) ?_ ?_
  · unfold isD
    simp only [go_sem, List.length_map, Try.results48]
    refine aw_loop (fun m fr st => ∃ (j : Nat) (v : List Int), j ≤ lits.length ∧ m = lits.length - j ∧ v.length = lits.length ∧ v.take j = neg.take j ∧ fr = [.ref (I .st) 0, .any, .d (nsD hints), .any, .any, .any, .any, .rs σ.length 1 0 lits.length (some 3), .any, .any, .any, .any, .any, .any, .any, .d (isD lits), dn lits.length, dn j, .any, .any, .any, .any, .any, .any, .any, .any, .any, .any, .any, .any, .any, .any, .any, .any, .any, .any, .any, .any, .any, .any, .any, .any, .any, .any, .any, .any, .any, .any, .any, .any, .any, .any, .any, .any, .any, .any, .any, .any, .any, .any, .any, .any, .any, .any, .any, .any, .any, .any, .any, .any, .any, .any, .any, .any, .any, .any, .any, .any, .any, .any, .any, .any, .any, .any, .any, .any, .any, .any, .any, .any, .any] ∧ st = σ ++ [some (Ob.cells (intsA v))]) lits.length _
      (Wk.mask [0, 2, 7, 15, 16, 17] ⟨0, List.replicate lits.length 0, by omega, by omega, by simp, rfl, rfl, rfl⟩) ?_
    rintro m fr st ⟨j, v, hj, hm, hvl, htk, rfl, rfl⟩
    rcases Nat.lt_or_ge j lits.length with hlt | hge
    · have hd : decide ((j : Int) < (lits.length : Int)) = true := by simp; omega
      have w2 := wrapS j (by omega)
      have hlv := hl _ (getD_mem 0 hlt)
      have g0 : List.getD (lits.map iD) j default = iD (lits.getD j 0) := getD_mapD hlt
      have hjv : j < v.length := by omega
      have hjn : j < neg.length := by omega
      have gn : neg.getD j 0 = -(lits.getD j 0) := by
        rw [hneg, List.getD_eq_getElem?_getD, List.getElem?_map, List.getD_eq_getElem?_getD, List.getElem?_eq_getElem hlt]; rfl
      have hs9 : S.vars ≤ 8000 := hs.vars
      have w3 : IntKind.i64.wrap (0 - lits.getD j 0) = -(lits.getD j 0) := by unfold LitV at hlv; rw [wrap64_id _ (by omega) (by omega)]; omega
      unfold isD
      simp only [go_sem, List.length_map, hd, g0, w2, w3, intsA_len, intsA_set _ hjv, Nat.mul_one, Try.results48]
      refine ⟨⟨by omega, by omega⟩, ⟨by omega, by omega⟩, by omega, Wk.mask [0, 2, 7, 15, 16, 17] ⟨lits.length - (j + 1), by omega, j + 1, v.set j (-(lits.getD j 0)), by omega, rfl, by simpa using hvl, ?_, rfl, rfl⟩⟩
      rw [take_getD 0 (by simpa using hjv), take_getD 0 hjn, List.take_set_of_le (Nat.le_refl j), htk, gn, getD_set hjv, if_pos rfl]
    · have hd : decide ((j : Int) < (lits.length : Int)) = false := by simp; omega
      have e : v = neg := by
        rw [List.take_of_length_le (by omega), List.take_of_length_le (by omega)] at htk
        exact htk
      subst e
      simp only [go_sem, List.length_map, hd, Try.results48]
      have hat : (σ ++ [some (Ob.cells (intsA v))])[σ.length]? = some (some (.cells (intsA v))) := by rw [List.getElem?_append_right (by omega), Nat.sub_self]; rfl
      have e8 : A.frz σ.length 1 0 (v.map iD) (A.rs σ.length 1 0 lits.length (some 3)) = .d (isD v) := by simp [A.frz, isD, hvl]
      have hne : ∀ s, has S s → I s ≠ σ.length := fun s hs => by have := hS.lt s hs; omega
      refine Wk.via ((Weak.mask [0, 2, 7]).trans (Weak.freeze σ.length 1 0 (v.map iD) hat (lies_ints v))) (Wk.mask [0, 2, 7] ⟨?_, (hS.app _).set hne none, ⟨by simp, rfl, fun _ => .inl rfl, fun k hk hn => by rw [set_other (by omega), List.getElem?_append_left hk]⟩⟩)
      simp only [go_sem, List.length_map, hvl, if_true, isD]
  clear hl
  rintro fr st ⟨rfl, hS1, hT1⟩
  have hlearn : S.learn lits hints = if S.again neg then (S, true) else if pmax ≤ S.steps.length then (S, false) else
      let p := ({ S with steps := S.steps ++ [(neg, hints)] } : Sv).enter neg (cmax + S.steps.length)
      ({ p.1 with learned := p.1.learned ++ [p.2] }, true) := by unfold Sv.learn; rw [hneg]
  rw [hlearn] at h
  clear hlearn hS hneg
  refine aw_cut (fun fr st => S.again neg = false ∧ fr = [.ref (I .st) 0, .any, .d (nsD hints), .any, .any, .any, .any, .d (isD neg), .any, .any, .any, .any, .any, .any, .any, .any, .any, .any, .any, .any, .any, .any, .any, .any, .any, .any, .any, .any, .any, .any, .any, .any, .any, .any, .any, .any, .any, .any, .any, .any, .any, .any, .any, .any, .any, .any, .any, .any, .any, .any, .any, .any, .any, .any, .any, .any, .any, .any, .any, .any, .any, .any, .any, .any, .any, .any, .any, .any, .any, .any, .any, .any, .any, .any, .any, .any, .any, .any, .any, .any, .any, .any, .any, .any, .any, .any, .any, .any, .any, .any, .any] ∧ Sol I S st ∧ Stp Any I S σ I st) ?_ ?_
  · have hagain : ∀ (h0 : 0 < S.steps.length), S.again neg = Sv.same (S.steps.getD (S.steps.length - 1) ([], [])).1 neg := fun h0 => by
      unfold Sv.again
      rw [List.getLast?_eq_getElem?, List.getD_eq_getElem?_getD, List.getElem?_eq_getElem (by omega)]; rfl
    have hagain0 : S.steps.length = 0 → S.again neg = false := fun h0 => by
      unfold Sv.again
      rw [List.eq_nil_of_length_eq_zero h0]; rfl
    by_cases hz : S.steps.length = 0
    · have e0 : decide ((0 : Int) < (S.steps.length : Int)) = false := decide_eq_false (by omega)
      simp only [go_sem, hS1.live .st, hS1.ob .st, hS1.live .steps, hS1.ob .steps, ct, e0, Try.results48]
      refine ex' (.bool false) ⟨fun c => Bool.noConfusion c, ?_⟩
      simp only [go_sem, e0, Try.results48]
      exact Wk.mask [0, 2, 7] ⟨hagain0 hz, rfl, hS1, hT1⟩
    · have e0 : decide ((0 : Int) < (S.steps.length : Int)) = true := decide_eq_true (by omega)
      have hj : S.steps.length - 1 < S.steps.length := by omega
      have w1 : IntKind.i64.wrap ((S.steps.length : Int) - 1) = ((S.steps.length - 1 : Nat) : Int) := by rw [wrap64_id _ (by omega) (by omega)]; omega
      have gs := stepsA_lits hj
      have hsl2 := hst _ (getD_mem ([], []) hj)
      have hag := hagain (by omega)
      generalize S.steps.getD (S.steps.length - 1) ([], []) = last at gs hsl2 hag
      simp only [go_sem, hS1.live .st, hS1.ob .st, hS1.live .steps, hS1.ob .steps, ct, e0, w1, gs, stepsA_len, Try.results48]
      refine ⟨⟨by omega, by omega⟩, by omega, ?_⟩
      refine ex' (.bool (Sv.same last.1 neg)) ⟨fun c => ?_, ?_⟩
      · simp only [go_sem, e0, ct, gs, Try.results48]
        exact ac' (same_ac last.1 neg (.inl hsl2) (by omega) (by omega) _ _ _ ⟨rfl, rfl⟩)
      simp only [go_sem, e0, Try.results48]
      rw [← hag]
      refine ⟨fun c => ⟨_, _, Weak.refl _ _ _ _, ?_⟩, fun c => Wk.mask [0, 2, 7] ⟨c, rfl, hS1, hT1⟩⟩
      rw [if_pos c] at h
      exact h _ _ hS1 hT1
  rintro fr st ⟨hag, rfl, hS1, hT1⟩
  rw [if_neg (by rw [hag]; simp)] at h
  by_cases hmx : pmax ≤ S.steps.length
  · rw [if_pos hmx] at h
    have e0 : decide ((20000 : Int) ≤ (S.steps.length : Int)) = true := decide_eq_true (by simp only [pmax] at hmx; omega)
    simp only [go_sem, hS1.live .st, hS1.ob .st, hS1.live .steps, ct, e0, Try.results48]
    exact ⟨_, _, Weak.refl _ _ _ _, h _ _ hS1 hT1⟩
  rw [if_neg hmx] at h
  simp only [pmax] at hmx
  have e0 : decide ((20000 : Int) ≤ (S.steps.length : Int)) = false := decide_eq_false (by omega)
  have w1 : IntKind.i64.wrap (40000 + (S.steps.length : Int)) = ((cmax + S.steps.length : Nat) : Int) := by rw [wrap64_id _ (by omega) (by omega)]; rfl
  simp only [go_sem, hS1.live .st, hS1.ob .st, hS1.live .steps, ct, e0, Try.results48]
  refine aw_cut (fun fr st => fr = [.ref (I .st) 0, .any, .d (nsD hints), .any, .any, .any, .any, .d (isD neg), .any, .any, .any, dn (cmax + S.steps.length), .any, .any, .any, .any, .any, .any, .any, .any, .any, .any, .any, .any, .any, .any, .any, .any, .any, .any, .any, .any, .any, .any, .any, .any, .any, .any, .any, .any, .any, .any, .any, .any, .any, .any, .any, .any, .any, .any, .any, .any, .any, .any, .any, .any, .any, .any, .any, .any, .any, .any, .any, .any, .any, .any, .any, .any, .any, .any, .any, .any, .any, .any, .any, .any, .any, .any, .any, .any, .any, .any, .any, .any, .any, .any, .any, .any, .any, .any, .any] ∧ Sol I S st ∧ Stp Any I S σ I st) ?_ ?_
  · simp only [go_sem, hS1.live .st, hS1.ob .st, hS1.live .steps, ct, w1, Try.results48]
    exact Wk.mask [0, 2, 7, 11] ⟨rfl, hS1, hT1⟩
  clear hS1 hT1
  rintro fr st ⟨rfl, hS1, hT1⟩
  refine aw_cut (fun fr st => fr = [.ref (I .st) 0, .any, .any, .any, .any, .any, .any, .d (isD neg), .any, .any, .any, dn (cmax + S.steps.length), .any, .any, .any, .any, .any, .any, .any, .any, .any, .any, .any, .any, .any, .any, .any, .any, .any, .any, .any, .any, .any, .any, .any, .any, .any, .any, .any, .any, .any, .any, .any, .any, .any, .any, .any, .any, .any, .any, .any, .any, .any, .any, .any, .any, .any, .any, .any, .any, .any, .any, .any, .any, .any, .any, .any, .any, .any, .any, .any, .any, .any, .any, .any, .any, .any, .any, .any, .any, .any, .any, .any, .any, .any, .any, .any, .any, .any, .any, .any] ∧ ∃ I', Sol I' { S with steps := S.steps ++ [(neg, hints)] } st ∧ Stp Any I S σ I' st) ?_ ?_
  · have hS2 := hS1.app [some (.cells [.d (isD neg), .d (nsD hints)])]
    have g := hS2.st_less .steps trivial (by decide)
    have q0 : decide (I .steps < st.length) = true := decide_eq_true (hS1.lt .steps)
    unfold isD nsD at *
    simp only [go_sem, hS1.live .st, hS1.ob .st, hS2.live .steps, hS2.ob .steps, fun l => live_of (g l), fun l k => objK_of (k := k) (g l), ct, stepsA_len, Nat.mul_one, Try.results48]
    refine ⟨⟨by simp only [maxLen]; omega, by omega⟩, live_new (by simp), Wk.mask [0, 7, 11] ⟨rfl, upI I .steps (st.length + 1), hS2.grow .steps trivial (by decide) (st.length + 1) (by simp) (fun t => by cases t <;> exact Iff.rfl) (stepsA_snoc S.steps (neg, hints)).symm ?_ fun t h1 h2 => ?_,
      hT1.trans (fun s => by cases s <;> exact Iff.rfl) (Stp.pre (stp_grow hS2 Any .steps trivial (by decide) trivial (st.length + 1) (by simp)))⟩⟩
    · simp only [ct, List.length_append, List.length_cons, List.length_nil, Nat.zero_add]; rfl
    · cases t <;> first | rfl | exact absurd rfl h1 | exact absurd rfl h2 | simp [ct, innA, upI]
  clear hS1 hT1
  rintro fr st ⟨rfl, I1, hS1, hT1⟩
  have hT0 : ∀ s, has S s ↔ has ({ S with steps := S.steps ++ [(neg, hints)] } : Sv) s := fun s => by cases s <;> exact Iff.rfl
  have hs1 : Sh { S with steps := S.steps ++ [(neg, hints)] } := ⟨hs.1, hs.2, hs.3, hs.4, hs.5, hs.6, hs.7⟩
  have hlS : ({ S with steps := S.steps ++ [(neg, hints)] } : Sv).learned = S.learned := rfl
  have hvS : ({ S with steps := S.steps ++ [(neg, hints)] } : Sv).vars = S.vars := rfl
  have hoS : ({ S with steps := S.steps ++ [(neg, hints)] } : Sv).occ = S.occ := rfl
  have htS : ({ S with steps := S.steps ++ [(neg, hints)] } : Sv).stamp = S.stamp := rfl
  generalize ({ S with steps := S.steps ++ [(neg, hints)] } : Sv) = S1 at hS1 h hT0 hs1 hlS hvS hoS htS
  rw [← hT1.st]
  have hen := enter_ac hS1 hs1 neg (by rw [hvS]; exact hnv) (by omega) (cmax + S.steps.length) (by simp only [cmax]; omega) (by rw [hoS]; exact hocc) (by rw [htS]; exact hstamp)
  simp only [go_sem, Try.results48]
  refine aw_plan (.tk 2 0 <| .tk 3 5 <| .alt 2 (.alt 3 (.alt 4 (.tk 6 8 <| .done) <| .alt 8 (.take 4 <| .tk 5 9 <| .done) <| .stop) <| .alt 8 (.tk 2 3 <| .tk 5 9 <| .done) <| .stop) <| .alt 8 (.tk 3 2 <| .tk 5 9 <| .done) <| .stop) (by kernel_rfl) ?_
  simp only [go_sem, hS1.live .st, hS1.ob .st, ct, Try.results48]
  obtain ⟨la, oc, hsh, hla, hoc⟩ := enter_shape S1 neg (cmax + S.steps.length)
  have hle2 : (S1.enter neg (cmax + S.steps.length)).1.learned = S.learned := by rw [hsh]; exact hlS
  have hso : SameOcc S1 (S1.enter neg (cmax + S.steps.length)).1 := by unfold SameOcc; rw [hsh]; exact hoc
  generalize S1.enter neg (cmax + S.steps.length) = p at hen h hle2 hso
  obtain ⟨S2, c⟩ := p
  simp only at h hen hle2 hso
  refine ⟨⟨⟨?_, ?_⟩, ?_⟩, ?_⟩ <;>
  · refine ac' (hen _ _ fun I2 σ2 hS2 hT2 => ?_)
    have hI2 : I2 .learned = I1 .learned := (hT2.ids .learned).resolve_right fun e => by obtain ⟨c, hc⟩ := e.2; cases hc
    have hI3 : I2 .st = I1 .st := hT2.st
    have hS3 := hS2.app [some (.cells [.d (isD c.lits), di c.opn, di c.held])]
    have g := hS3.st_less .learned trivial (by decide)
    have q0 : decide (I1 .learned < σ2.length) = true := by rw [← hI2]; exact decide_eq_true (hS2.lt .learned)
    have v1 := hS2.live .st
    have v2 := fun k => hS2.ob .st (k := k)
    have v3 := hS3.live .learned
    have v4 := fun k => hS3.ob .learned (k := k)
    have v5 := fun l => live_of (g l)
    have v6 := fun l k => objK_of (k := k) (g l)
    rw [hI3] at v1
    rw [hI2] at v3
    simp only [hI2, hI3] at v2 v4 v5 v6
    simp only [clD, go_sem, v1, v2, v3, v4, v5, v6, hI2, hle2, hlS, ct, clsA_len, Nat.mul_one, Try.results48]
    rw [← hI2, ← hI3]
    refine ⟨⟨by simp only [maxLen]; omega, by omega⟩, live_new (by simp), _, _, Weak.refl _ _ _ _, h _ _ (hS3.grow (S' := { S2 with learned := S2.learned ++ [c] }) .learned trivial (by decide) (σ2.length + 1) (by simp) (fun t => by cases t <;> exact Iff.rfl) ?_ ?_ fun t h1 h2 => ?_)
      (hT1.trans hT0 (hT2.any.trans (SameOcc.has hso) (Stp.pre (stp_grow hS3 Any .learned trivial (by decide) trivial (σ2.length + 1) (by simp)))))⟩
    · simp only [ct]; rw [hle2, clsA_snoc]
    · simp only [ct, List.length_append, List.length_cons, List.length_nil, Nat.zero_add, hle2]; rfl
    · cases t <;> first | rfl | exact absurd rfl h1 | exact absurd rfl h2 | simp [ct, innA, upI]
end Go.Proofs.Ytnanofipjiclfaa
end PartT16

section PartQ5
/- Plain facts on the solver's model: a clause enters. -/
set_option linter.unusedSimpArgs false
set_option linter.unusedVariables false
namespace Go.Proofs.Ytnanofipjiclfaa
open Go Go.Ab

def heldL (S : Sv) (cs : List Nat) : Nat := (List.range (2 * S.vars + 2)).countP fun c => decide (c ∈ cs) && S.truth.getD c false
def opnL (S : Sv) (cs : List Nat) : Nat := (List.range (2 * S.vars + 2)).countP fun c => decide (c ∈ cs) && !S.truth.getD (flipC c) false
theorem countP_snoc (N : Nat) (cs : List Nat) (c : Nat) (hc : c < N) (f : Nat → Bool) (hn : c ∉ cs) : (List.range N).countP (fun k => decide (k ∈ cs ++ [c]) && f k) = (List.range N).countP (fun k => decide (k ∈ cs) && f k) + (f c).toNat := by
  have h := countP_change (fun k => decide (k ∈ cs) && f k) (fun k => decide (k ∈ cs ++ [c]) && f k) c (fun k hk => by
    have : (k ∈ cs ++ [c]) = (k ∈ cs) := by simp [hk]
    simp only [this]) N
  rw [if_pos hc, if_pos hc] at h
  have e1 : (decide (c ∈ cs) && f c).toNat = 0 := by rw [decide_eq_false hn]; rfl
  have e2 : (decide (c ∈ cs ++ [c]) && f c).toNat = (f c).toNat := by rw [decide_eq_true (by simp), Bool.true_and]
  rw [e1, e2] at h
  omega
/-- A clause enters, literal by literal. -/
structure EnI (S0 : Sv) (id : Nat) (lits : List Int) (pre : List Int) (p : Sv × Cl) : Prop where
  vars : p.1.vars = S0.vars
  truth : p.1.truth = S0.truth
  stamp : p.1.stamp = S0.stamp + 1
  nlast : p.1.last.length = S0.last.length
  nocc : p.1.occ.length = S0.occ.length
  occ : ∀ c, p.1.occ.getD c [] = S0.occ.getD c [] ++ if c ∈ pre.map code then [id] else []
  last : ∀ c, p.1.last.getD c 0 = if c ∈ pre.map code then S0.stamp + 1 else S0.last.getD c 0
  lits : p.2.lits = lits
  held : p.2.held = (heldL S0 (pre.map code) : Nat)
  opn : p.2.opn = (opnL S0 (pre.map code) : Nat)
theorem enter_inv {S0 : Sv} (hs : Sh S0) (hla : ∀ c, S0.last.getD c 0 ≤ S0.stamp) (id : Nat) (lits : List Int) : ∀ (suf pre : List Int) (p : Sv × Cl), EnI S0 id lits pre p → (∀ l ∈ suf, LitV S0.vars l) → EnI S0 id lits (pre ++ suf) (suf.foldl (Sv.enter1 id) p)
  | [], pre, p, h, _ => by rw [List.append_nil]; exact h
  | l :: suf, pre, p, h, hv => by
    have hl : LitV S0.vars l := hv l (List.mem_cons_self ..)
    have e : pre ++ l :: suf = (pre ++ [l]) ++ suf := by simp
    rw [e, List.foldl_cons]
    refine enter_inv hs hla id lits suf (pre ++ [l]) _ ?_ (fun l' h' => hv l' (List.mem_cons_of_mem _ h'))
    have em : (pre ++ [l]).map code = pre.map code ++ [code l] := by simp
    unfold Sv.enter1
    by_cases hm : code l ∈ pre.map code
    · have e1 : p.1.last.getD (code l) 0 = p.1.stamp := by rw [h.last, if_pos hm, h.stamp]
      rw [if_pos e1]
      have hc : ∀ c, (c ∈ pre.map code ++ [code l]) = (c ∈ pre.map code) := fun c => by
        refine propext ⟨fun h' => ?_, fun h' => List.mem_append_left _ h'⟩
        rcases List.mem_append.1 h' with h' | h'
        · exact h'
        · rw [List.mem_singleton] at h'; subst h'; exact hm
      refine ⟨h.vars, h.truth, h.stamp, h.nlast, h.nocc, fun c => ?_, fun c => ?_, h.lits, ?_, ?_⟩
      · rw [em, h.occ c]; simp only [hc]
      · rw [em, h.last c]; simp only [hc]
      · rw [em, h.held]; unfold heldL; simp only [hc]
      · rw [em, h.opn]; unfold opnL; simp only [hc]
    · have e1 : ¬ p.1.last.getD (code l) 0 = p.1.stamp := by
        rw [h.last, if_neg hm, h.stamp]
        have := hla (code l)
        omega
      rw [if_neg e1]
      have cl : code l < p.1.last.length := by rw [h.nlast, hs.last]; exact hl.codeLt
      have co : code l < p.1.occ.length := by rw [h.nocc, hs.occ]; exact hl.codeLt
      refine ⟨h.vars, h.truth, h.stamp, by simp [h.nlast], by simp [h.nocc], fun c => ?_, fun c => ?_, h.lits, ?_, ?_⟩
      · show (p.1.occ.set (code l) (p.1.occ.getD (code l) [] ++ [id])).getD c [] = _
        rw [em]
        by_cases hcl : c = code l
        · subst hcl
          rw [getD_set_eq co, h.occ, if_neg hm, if_pos (by simp), List.append_nil]
        · rw [getD_set_ne (Ne.symm hcl), h.occ]
          have : (c ∈ pre.map code ++ [code l]) = (c ∈ pre.map code) := by simp [hcl]
          simp only [this]
      · show (p.1.last.set (code l) p.1.stamp).getD c 0 = _
        rw [em]
        by_cases hcl : c = code l
        · subst hcl
          rw [getD_set_eq cl, if_pos (by simp), h.stamp]
        · rw [getD_set_ne (Ne.symm hcl), h.last]
          have : (c ∈ pre.map code ++ [code l]) = (c ∈ pre.map code) := by simp [hcl]
          simp only [this]
      · show (if p.1.tr l then p.2.held + 1 else p.2.held) = _
        rw [em]
        unfold heldL
        rw [countP_snoc _ _ _ hl.codeLt _ hm, h.held]
        unfold Sv.tr
        rw [h.truth]
        unfold heldL
        cases S0.truth.getD (code l) false <;> simp
      · show (if p.1.tr (-l) then p.2.opn else p.2.opn + 1) = _
        rw [em]
        unfold opnL
        rw [countP_snoc _ _ _ hl.codeLt _ hm, h.opn]
        unfold Sv.tr
        rw [h.truth, code_neg hl.1]
        unfold opnL
        cases S0.truth.getD (flipC (code l)) false <;> simp
/-- A clause has entered. -/
structure Ent (S S' : Sv) (lits : List Int) (id : Nat) : Prop where
  vars : S'.vars = S.vars
  truth : S'.truth = S.truth
  trail : S'.trail = S.trail
  starts : S'.starts = S.starts
  marked : S'.marked = S.marked
  solves : S'.solves = S.solves
  first : S'.first = S.first
  left : S'.left = S.left
  reasons : S'.reasons = S.reasons
  levels : S'.levels = S.levels
  queue : S'.queue = S.queue
  stamp : S'.stamp = S.stamp + 1
  nlast : S'.last.length = S.last.length
  nocc : S'.occ.length = S.occ.length
  occ : ∀ c, S'.occ.getD c [] = S.occ.getD c [] ++ if c ∈ lits.map code then [id] else []
  last : ∀ c, S'.last.getD c 0 ≤ S'.stamp
  new : ¬ okId S id
  ok : ∀ k, okId S' k ↔ okId S k ∨ k = id
  cl : ∀ k, okId S k → S'.cl k = S.cl k
  held : (S'.cl id).held = (heldL S (lits.map code) : Nat)
  opn : (S'.cl id).opn = (opnL S (lits.map code) : Nat)
  lits : (S'.cl id).lits = lits
theorem Ent.mem {S S' : Sv} {lits : List Int} {id : Nat} (e : Ent S S' lits id) (h : Gd S) (k c : Nat) : k ∈ S'.occ.getD c [] ↔ k ∈ S.occ.getD c [] ∨ (k = id ∧ c ∈ lits.map code) := by
  rw [e.occ, List.mem_append]
  by_cases hc : c ∈ lits.map code
  · rw [if_pos hc, List.mem_singleton]; exact ⟨fun h => h.imp (fun x => x) fun h => ⟨h, hc⟩, fun h => h.imp (fun x => x) fun h => h.1⟩
  · rw [if_neg hc]; exact ⟨fun h => h.elim Or.inl fun h => absurd h (by simp), fun h => h.elim Or.inl fun h => absurd h.2 hc⟩
theorem Ent.gd {S S' : Sv} {lits : List Int} {id : Nat} (e : Ent S S' lits id) (h : Gd S) (hv : ∀ l ∈ lits, LitV S.vars l) (hn : lits.length ≤ 1000000) (ha : S'.added.length ≤ 40000) (hl : S'.learned.length ≤ 20000) : Gd S' := by
  have hnew : ∀ c, id ∉ S.occ.getD c [] := fun c hm => e.new (h.ok c id hm)
  have hne : ∀ {k}, okId S k → k ≠ id := fun hk e' => e.new (e' ▸ hk)
  exact {
    sh := ⟨by rw [e.vars]; exact h.sh.vars, by rw [e.nocc, e.vars]; exact h.sh.occ, by rw [e.nlast, e.vars]; exact h.sh.last, by rw [e.truth, e.vars]; exact h.sh.truth, by rw [e.reasons, e.vars]; exact h.sh.reasons, by rw [e.levels, e.vars]; exact h.sh.levels, by rw [e.marked, e.vars]; exact h.sh.marked⟩
    v1 := by rw [e.vars]; exact h.v1
    na := ha
    nl := hl
    lits := fun k hk => by
      rw [e.vars]
      rcases (e.ok k).1 hk with hk | rfl
      · rw [e.cl k hk]; exact h.lits k hk
      · rw [e.lits]; exact hv
    ll := fun k hk => by
      rcases (e.ok k).1 hk with hk | rfl
      · rw [e.cl k hk]; exact h.ll k hk
      · rw [e.lits]; exact hn
    nd := fun c => by
      rw [e.occ, List.nodup_append]
      refine ⟨h.nd c, by split <;> simp, fun a ha b hb e' => ?_⟩
      split at hb
      · rw [List.mem_singleton] at hb
        subst hb
        subst e'
        exact hnew c ha
      · cases hb
    ok := fun c k hk => by
      rw [e.ok]
      exact ((e.mem h k c).1 hk).imp (h.ok c k) fun h => h.1
    mem := fun l hl' k hk => by
      rw [e.vars] at hl'
      rw [e.mem h k]
      rcases (e.ok k).1 hk with hk | rfl
      · rw [e.cl k hk, ← h.mem l hl' k hk]
        exact ⟨fun h' => h'.elim (fun x => x) fun h' => absurd h'.1 (hne hk), Or.inl⟩
      · rw [e.lits]
        constructor
        · rintro (h' | ⟨-, h'⟩)
          · exact absurd h' (hnew _)
          · obtain ⟨a, ha, e'⟩ := List.mem_map.1 h'
            rw [← code_inj (hv a ha).1 hl'.1 e']; exact ha
        · intro h'
          exact Or.inr ⟨rfl, List.mem_map_of_mem h'⟩
    low := by
      have hc : ∀ c, c < 2 → c ∉ lits.map code := fun c hc hm => by
        obtain ⟨a, ha, e'⟩ := List.mem_map.1 hm
        have := code_ge (hv a ha).1
        omega
      rw [e.occ, e.occ, if_neg (hc 0 (by omega)), if_neg (hc 1 (by omega)), h.low.1, h.low.2]
      exact ⟨rfl, rfl⟩
    hc := fun k hk => by
      rcases (e.ok k).1 hk with hk | rfl
      · rw [e.cl k hk, h.hc k hk]
        have : heldN S' k = heldN S k := by
          unfold heldN
          rw [e.vars]
          congr 1
          funext c
          unfold heldP
          have : (k ∈ S'.occ.getD c []) = (k ∈ S.occ.getD c []) := propext ((e.mem h k c).trans ⟨fun h' => h'.elim (fun x => x) fun h' => absurd h'.1 (hne hk), Or.inl⟩)
          simp only [this, e.truth]
        rw [this]
      · rw [e.held]
        have : heldN S' k = heldL S (lits.map code) := by
          unfold heldN heldL
          rw [e.vars]
          congr 1
          funext c
          unfold heldP
          have : (k ∈ S'.occ.getD c []) = (c ∈ lits.map code) := propext ((e.mem h k c).trans ⟨fun h' => h'.elim (fun h' => absurd h' (hnew c)) fun h' => h'.2, fun h' => Or.inr ⟨rfl, h'⟩⟩)
          simp only [this, e.truth]
        rw [this]
    oc := fun k hk => by
      rcases (e.ok k).1 hk with hk | rfl
      · rw [e.cl k hk, h.oc k hk]
        have : opnN S' k = opnN S k := by
          unfold opnN
          rw [e.vars]
          congr 1
          funext c
          unfold opnP
          have : (k ∈ S'.occ.getD c []) = (k ∈ S.occ.getD c []) := propext ((e.mem h k c).trans ⟨fun h' => h'.elim (fun x => x) fun h' => absurd h'.1 (hne hk), Or.inl⟩)
          simp only [this, e.truth]
        rw [this]
      · rw [e.opn]
        have : opnN S' k = opnL S (lits.map code) := by
          unfold opnN opnL
          rw [e.vars]
          congr 1
          funext c
          unfold opnP
          have : (k ∈ S'.occ.getD c []) = (c ∈ lits.map code) := propext ((e.mem h k c).trans ⟨fun h' => h'.elim (fun h' => absurd h' (hnew c)) fun h' => h'.2, fun h' => Or.inr ⟨rfl, h'⟩⟩)
          simp only [this, e.truth]
        rw [this]
    tv := by rw [e.trail, e.vars]; exact h.tv
    tn := by rw [e.trail]; exact h.tn
    tt := fun l hl => by
      rw [e.vars] at hl
      unfold Sv.tr
      rw [e.truth, e.trail]
      exact h.tt l hl
    la := e.last
    um := by rw [e.marked]; exact h.um
    qu := fun k hk => by
      rw [e.queue] at hk
      exact (e.ok k).2 (Or.inl (h.qu k hk)) }
theorem enter_en {S : Sv} (h : Gd S) {lits : List Int} (hv : ∀ l ∈ lits, LitV S.vars l) (id : Nat) : EnI S id lits lits (S.enter lits id) := by
  have := enter_inv h.sh h.la id lits lits [] ({ S with stamp := S.stamp + 1 }, ⟨lits, 0, 0⟩) ⟨rfl, rfl, rfl, rfl, rfl, fun c => by simp, fun c => by simp, rfl, by simp [heldL], by simp [opnL]⟩ hv
  rw [List.nil_append] at this
  exact this
theorem Gd.add {S : Sv} (h : Gd S) {lits : List Int} (hv : ∀ l ∈ lits, LitV S.vars l) (ha : S.added.length < 40000) : Ent S (S.add lits) lits S.added.length := by
  have en := enter_en h hv S.added.length
  obtain ⟨la, oc, hp, h1, h2⟩ := enter_shape S lits S.added.length
  unfold Sv.add
  generalize S.enter lits S.added.length = p at en hp ⊢
  obtain ⟨p1, p2⟩ := p
  simp only at hp
  subst hp
  have hlast := en.last
  have hla := h.la
  have hc : ¬ cmax ≤ S.added.length := by simp only [cmax]; omega
  have hcl : ∀ k, ({ S with stamp := S.stamp + 1, last := la, occ := oc, added := S.added ++ [p2] } : Sv).cl k = if cmax ≤ k then S.learned.getD (k - cmax) default else (S.added ++ [p2]).getD k default := fun k => rfl
  have hid : ({ S with stamp := S.stamp + 1, last := la, occ := oc, added := S.added ++ [p2] } : Sv).cl S.added.length = p2 := by
    rw [hcl, if_neg hc]; simp [List.getD_eq_getElem?_getD]
  refine ⟨rfl, rfl, rfl, rfl, rfl, rfl, rfl, rfl, rfl, rfl, rfl, rfl, h1, h2, en.occ, fun c => ?_, ?_, fun k => ?_, fun k hk => ?_, ?_, ?_, ?_⟩
  · have := hlast c
    simp only at this ⊢
    rw [this]
    have := hla c
    split <;> omega
  · unfold okId clI clL
    rw [if_neg hc, if_neg hc]; omega
  · unfold okId clI clL
    by_cases hk : cmax ≤ k
    · rw [if_pos hk, if_pos hk, if_pos hk]
      have : k ≠ S.added.length := fun e => hc (e ▸ hk)
      exact ⟨Or.inl, fun h => h.elim (fun x => x) fun e => absurd e this⟩
    · rw [if_neg hk, if_neg hk, if_neg hk]
      show k < (S.added ++ [p2]).length ↔ _
      rw [List.length_append, List.length_singleton]
      omega
  · rw [hcl]
    unfold okId clI clL at hk
    unfold Sv.cl
    by_cases hk' : cmax ≤ k
    · rw [if_pos hk', if_pos hk']
    · rw [if_neg hk', if_neg hk'] at hk
      rw [if_neg hk', if_neg hk', List.getD_eq_getElem?_getD, List.getElem?_append_left hk, List.getD_eq_getElem?_getD]
  · rw [hid]; exact en.held
  · rw [hid]; exact en.opn
  · rw [hid]; exact en.lits
end Go.Proofs.Ytnanofipjiclfaa
end PartQ5

section PartQ6
/- Plain facts on the solver's model: learning, examining, propagating keep the good state. -/
set_option linter.unusedSimpArgs false
set_option linter.unusedVariables false
namespace Go.Proofs.Ytnanofipjiclfaa
open Go Go.Ab

theorem Gd.step {S : Sv} (h : Gd S) (st : List (List Int × List Nat)) : Gd { S with steps := st } := ⟨⟨h.sh.vars, h.sh.occ, h.sh.last, h.sh.truth, h.sh.reasons, h.sh.levels, h.sh.marked⟩, h.v1, h.na, h.nl, h.lits, h.ll, h.nd, h.ok, h.mem, h.low, h.hc, h.oc, h.tv, h.tn, h.tt, h.la, h.um, h.qu⟩
theorem learn_enter {S0 : Sv} (h0 : Gd S0) {neg : List Int} {hints : List Nat} (hv : ∀ l ∈ neg, LitV S0.vars l) (hl : S0.learned.length < 20000) :
    Ent S0 { (({ S0 with steps := S0.steps ++ [(neg, hints)] } : Sv).enter neg (cmax + S0.learned.length)).1 with learned := (({ S0 with steps := S0.steps ++ [(neg, hints)] } : Sv).enter neg (cmax + S0.learned.length)).1.learned ++ [(({ S0 with steps := S0.steps ++ [(neg, hints)] } : Sv).enter neg (cmax + S0.learned.length)).2] } neg (cmax + S0.learned.length)
    ∧ ({ (({ S0 with steps := S0.steps ++ [(neg, hints)] } : Sv).enter neg (cmax + S0.learned.length)).1 with learned := (({ S0 with steps := S0.steps ++ [(neg, hints)] } : Sv).enter neg (cmax + S0.learned.length)).1.learned ++ [(({ S0 with steps := S0.steps ++ [(neg, hints)] } : Sv).enter neg (cmax + S0.learned.length)).2] } : Sv).steps = S0.steps ++ [(neg, hints)]
    ∧ ({ (({ S0 with steps := S0.steps ++ [(neg, hints)] } : Sv).enter neg (cmax + S0.learned.length)).1 with learned := (({ S0 with steps := S0.steps ++ [(neg, hints)] } : Sv).enter neg (cmax + S0.learned.length)).1.learned ++ [(({ S0 with steps := S0.steps ++ [(neg, hints)] } : Sv).enter neg (cmax + S0.learned.length)).2] } : Sv).learned.length = S0.learned.length + 1
    ∧ ({ (({ S0 with steps := S0.steps ++ [(neg, hints)] } : Sv).enter neg (cmax + S0.learned.length)).1 with learned := (({ S0 with steps := S0.steps ++ [(neg, hints)] } : Sv).enter neg (cmax + S0.learned.length)).1.learned ++ [(({ S0 with steps := S0.steps ++ [(neg, hints)] } : Sv).enter neg (cmax + S0.learned.length)).2] } : Sv).added = S0.added := by
  have en := enter_en (h0.step (S0.steps ++ [(neg, hints)])) hv (cmax + S0.learned.length)
  obtain ⟨la, oc, hp, h1, h2⟩ := enter_shape ({ S0 with steps := S0.steps ++ [(neg, hints)] } : Sv) neg (cmax + S0.learned.length)
  generalize ({ S0 with steps := S0.steps ++ [(neg, hints)] } : Sv).enter neg (cmax + S0.learned.length) = p at en hp ⊢
  obtain ⟨p1, p2⟩ := p
  simp only at hp
  subst hp
  have hlast := en.last
  have hla := h0.la
  have hc : cmax ≤ cmax + S0.learned.length := Nat.le_add_right _ _
  have hcl : ∀ k, ({ S0 with steps := S0.steps ++ [(neg, hints)], stamp := S0.stamp + 1, last := la, occ := oc, learned := S0.learned ++ [p2] } : Sv).cl k = if cmax ≤ k then (S0.learned ++ [p2]).getD (k - cmax) default else S0.added.getD k default := fun k => rfl
  have hid : ({ S0 with steps := S0.steps ++ [(neg, hints)], stamp := S0.stamp + 1, last := la, occ := oc, learned := S0.learned ++ [p2] } : Sv).cl (cmax + S0.learned.length) = p2 := by
    rw [hcl, if_pos hc, Nat.add_sub_cancel_left]; simp [List.getD_eq_getElem?_getD]
  refine ⟨⟨rfl, rfl, rfl, rfl, rfl, rfl, rfl, rfl, rfl, rfl, rfl, rfl, h1, h2, en.occ, fun c => ?_, ?_, fun k => ?_, fun k hk => ?_, ?_, ?_, ?_⟩, rfl, by simp, rfl⟩
  · have := hlast c
    simp only at this ⊢
    rw [this]
    have := hla c
    split <;> omega
  · unfold okId clI clL
    rw [if_pos hc, if_pos hc]; omega
  · unfold okId clI clL
    by_cases hk : cmax ≤ k
    · rw [if_pos hk, if_pos hk, if_pos hk]
      show k - cmax < (S0.learned ++ [p2]).length ↔ _
      rw [List.length_append, List.length_singleton]
      omega
    · rw [if_neg hk, if_neg hk, if_neg hk]
      have : k ≠ cmax + S0.learned.length := fun e => hk (by omega)
      exact ⟨Or.inl, fun h => h.elim (fun x => x) fun e => absurd e this⟩
  · rw [hcl]
    unfold okId clI clL at hk
    unfold Sv.cl
    by_cases hk' : cmax ≤ k
    · rw [if_pos hk', if_pos hk'] at hk
      rw [if_pos hk', if_pos hk', List.getD_eq_getElem?_getD, List.getElem?_append_left hk, List.getD_eq_getElem?_getD]
    · rw [if_neg hk', if_neg hk']
  · rw [hid]; exact en.held
  · rw [hid]; exact en.opn
  · rw [hid]; exact en.lits
/-- What learn does: nothing, or a new clause. -/
theorem learn_cases {S : Sv} (h : Gd S) {lits : List Int} {hints : List Nat} (hv : ∀ l ∈ lits, LitV S.vars l) (hsl : S.steps.length = S.learned.length) :
    (S.again (lits.map (- ·)) = true ∧ S.learn lits hints = (S, true)) ∨ (S.again (lits.map (- ·)) = false ∧ pmax ≤ S.steps.length ∧ S.learn lits hints = (S, false)) ∨
      (S.again (lits.map (- ·)) = false ∧ S.steps.length < pmax ∧ (S.learn lits hints).2 = true ∧ Ent S (S.learn lits hints).1 (lits.map (- ·)) (cmax + S.steps.length) ∧ (S.learn lits hints).1.steps = S.steps ++ [(lits.map (- ·), hints)] ∧ (S.learn lits hints).1.learned.length = S.learned.length + 1 ∧ (S.learn lits hints).1.added = S.added) := by
  unfold Sv.learn
  cases ha : S.again (lits.map (- ·)) with
  | true => exact Or.inl ⟨rfl, by simp [ha]⟩
  | false =>
    rcases Nat.lt_or_ge S.steps.length pmax with hp | hp
    · refine Or.inr (Or.inr ⟨rfl, hp, ?_⟩)
      have hnv : ∀ l ∈ lits.map (- ·), LitV S.vars l := fun l hl' => by
        obtain ⟨x, hx, rfl⟩ := List.mem_map.1 hl'
        exact (hv x hx).neg
      have := learn_enter (hints := hints) h hnv (by rw [← hsl]; exact hp)
      rw [← hsl] at this
      simp only [ha, Bool.false_eq_true, if_false, if_neg (Nat.not_le.2 hp)]
      rw [← hsl]
      exact ⟨trivial, this⟩
    · exact Or.inr (Or.inl ⟨rfl, hp, by simp [ha, hp]⟩)
theorem Gd.examine {S : Sv} (h : Gd S) {id : Nat} (ho : okId S id) : Gd (S.examine id) := by
  unfold Sv.examine
  split
  · refine h.starts S.starts (Sv.hpush S.queue id) fun k hk => ?_
    rcases mem_hpush.1 hk with hk | rfl
    · exact h.qu k hk
    · exact ho
  · exact h
/-- Only the queue has changed. -/
def Qch (S S' : Sv) : Prop := ∃ q, S' = { S with queue := q }
theorem Qch.ex (S : Sv) (id : Nat) : Qch S (S.examine id) := by
  unfold Sv.examine
  split
  · exact ⟨_, rfl⟩
  · exact ⟨S.queue, rfl⟩
theorem Qch.trans {S S' S'' : Sv} (h : Qch S S') (h' : Qch S' S'') : Qch S S'' := by
  obtain ⟨q, rfl⟩ := h
  obtain ⟨q', rfl⟩ := h'
  exact ⟨q', rfl⟩
theorem Qch.ok {S S' : Sv} (h : Qch S S') (id : Nat) : okId S' id ↔ okId S id := by obtain ⟨q, rfl⟩ := h; exact Iff.rfl
theorem Qch.cl {S S' : Sv} (h : Qch S S') (id : Nat) : S'.cl id = S.cl id := by obtain ⟨q, rfl⟩ := h; rfl
theorem exs_gd : ∀ (ids : List Nat) {S : Sv}, Gd S → (∀ i ∈ ids, okId S i) → Gd (exs S ids) ∧ Qch S (exs S ids) ∧ (∀ k, k ∈ (exs S ids).queue ↔ k ∈ S.queue ∨ (k ∈ ids ∧ (S.cl k).held = 0 ∧ (S.cl k).opn ≤ 1)) ∧ (exs S ids).queue.length ≤ S.queue.length + ids.length
  | [], S, h, _ => ⟨h, ⟨S.queue, rfl⟩, fun k => by simp [exs], by simp [exs]⟩
  | i :: ids, S, h, ho => by
    have q1 := Qch.ex S i
    obtain ⟨g, q, m, n⟩ := exs_gd ids (h.examine (ho i (List.mem_cons_self ..))) (fun j hj => (q1.ok j).2 (ho j (List.mem_cons_of_mem _ hj)))
    have e : exs S (i :: ids) = exs (S.examine i) ids := rfl
    rw [e]
    refine ⟨g, q1.trans q, fun k => ?_, ?_⟩
    · rw [m k, mem_ex, q1.cl, List.mem_cons]
      constructor
      · rintro ((h | h) | h)
        · exact Or.inl h
        · exact Or.inr ⟨Or.inl h.1, by rw [h.1]; exact h.2⟩
        · exact Or.inr ⟨Or.inr h.1, h.2⟩
      · rintro (h | ⟨h | h, h'⟩)
        · exact Or.inl (Or.inl h)
        · exact Or.inl (Or.inr ⟨h, by rw [← h]; exact h'⟩)
        · exact Or.inr ⟨h, h'⟩
    · have := ex_queue S i
      rw [List.length_cons]
      omega
theorem okId_ids (S : Sv) (ha : S.added.length ≤ 40000) (k : Nat) : k ∈ List.range S.added.length ++ (List.range S.learned.length).map (cmax + ·) ↔ okId S k := by
  unfold okId clI clL
  rw [List.mem_append, List.mem_range, List.mem_map]
  by_cases hk : cmax ≤ k
  · rw [if_pos hk, if_pos hk]
    constructor
    · rintro (h | ⟨a, h, rfl⟩)
      · simp only [cmax] at hk; omega
      · rw [List.mem_range] at h; omega
    · intro h
      exact Or.inr ⟨k - cmax, List.mem_range.2 h, by omega⟩
  · rw [if_neg hk, if_neg hk]
    constructor
    · rintro (h | ⟨a, h, rfl⟩)
      · exact h
      · omega
    · exact Or.inl
theorem Gd.begin {S : Sv} (h : Gd S) : Gd S.begin' ∧ Qch S S.begin' ∧ (∀ k, k ∈ S.begin'.queue ↔ k ∈ S.queue ∨ (okId S k ∧ (S.cl k).held = 0 ∧ (S.cl k).opn ≤ 1)) ∧ S.begin'.queue.length ≤ S.queue.length + (S.added.length + S.learned.length) := by
  rw [begin_eq]
  obtain ⟨g, q, m, n⟩ := exs_gd _ h fun i hi => (okId_ids S h.na i).1 hi
  refine ⟨g, q, fun k => (m k).trans (by rw [okId_ids S h.na]), ?_⟩
  simpa using n
theorem Gd.pop {S : Sv} (h : Gd S) (hq : S.queue ≠ []) : Gd { S with queue := (Sv.hpop S.queue).dropLast } ∧ okId S ((Sv.hpop S.queue).getLastD 0) :=
  ⟨h.starts S.starts _ fun k hk => h.qu k ((hpop_split hq k).2 (Or.inl hk)), h.qu _ ((hpop_split hq _).2 (Or.inr rfl))⟩
theorem Gd.assign {S : Sv} (h : Gd S) {l reason : Int} (hl : LitV S.vars l) (hf : Free S l) (hleft : S.left ≠ 0) : Gd (S.assign l reason).1 := by
  obtain ⟨-, a, -, e2, e3⟩ := assign_asg (reason := reason) h hl hleft
  refine a.gd h hl hf ⟨by rw [a.vars]; exact h.sh.vars, by rw [a.occ, a.vars]; exact h.sh.occ, by rw [a.last, a.vars]; exact h.sh.last, by rw [a.truth, a.vars, List.length_set]; exact h.sh.truth, by rw [e2, a.vars, List.length_set]; exact h.sh.reasons, by rw [e3, a.vars, List.length_set]; exact h.sh.levels, by rw [a.marked, a.vars]; exact h.sh.marked⟩
end Go.Proofs.Ytnanofipjiclfaa
end PartQ6

section PartT17
/- backjump; contradict. -/
set_option linter.unusedSimpArgs false
set_option linter.unusedVariables false
set_option maxRecDepth 100000
namespace Go.Proofs.Ytnanofipjiclfaa
open Go Go.Ab
variable {I : Sl → Nat} {S : Sv} {σ : St}

theorem drop1_fix {γ : Type} (f : Sv → γ) (h0 : ∀ S l, f (drop0 S l) = f S) (h1 : ∀ S id d, f (S.hold id d) = f S) (h2 : ∀ S id d, f (S.openD id d) = f S) (S : Sv) (l : Int) : f (S.drop1 l) = f S := by
  rw [drop1_eq]
  exact (foldl_fix f (fun (S : Sv) (i : Nat) => S.openD i 1) (fun _ _ => h2 _ _ _) _ _).trans ((foldl_fix f (fun (S : Sv) (i : Nat) => S.hold i (-1)) (fun _ _ => h1 _ _ _) _ _).trans (h0 _ _))
theorem retract_fix {γ : Type} (f : Sv → γ) (h0 : ∀ S l, f (drop0 S l) = f S) (h1 : ∀ S id d, f (S.hold id d) = f S) (h2 : ∀ S id d, f (S.openD id d) = f S) (S : Sv) (n : Nat) : f (S.retract n) = f S := by
  unfold Sv.retract
  exact foldl_fix f Sv.drop1 (fun S l => drop1_fix f h0 h1 h2 S l) _ _
theorem retract_starts (S : Sv) (n : Nat) : (S.retract n).starts = S.starts := retract_fix (fun S => S.starts) (fun _ _ => rfl) (fun _ _ _ => rfl) (fun _ _ _ => rfl) S n
theorem retract_occ (S : Sv) (n : Nat) : (S.retract n).occ = S.occ := retract_fix (fun S => S.occ) (fun _ _ => rfl) (fun _ _ _ => rfl) (fun _ _ _ => rfl) S n
theorem retract_learned (S : Sv) (n : Nat) : (S.retract n).learned.length = S.learned.length := retract_fix (fun S => S.learned.length) (fun _ _ => rfl) (fun S id d => by simp only [Sv.hold, Sv.put]; split <;> simp) (fun S id d => by simp only [Sv.openD, Sv.put]; split <;> simp) S n
theorem ds_get (ds : List Int) {j : Nat} (h : j < ds.length) : List.getD (ds.map iD) j default = iD (ds.getD j 0) := getD_mapD h
/-- Two slices are cut short. -/
theorem Sol.put3 {S' : Sv} (h : Sol I S σ) (s t : Sl) (hs : has S s) (ht : has S t) (hst : s ≠ .st) (htt : t ≠ .st) (hne : s ≠ t) (hh : ∀ u, has S' u ↔ has S u) {c1 c2 c3 : List A} (h1 : c1 = ct I S' .st) (h2 : c2 = ct I S' s) (h3 : c3 = ct I S' t) (ho : ∀ u, u ≠ s → u ≠ t → u ≠ .st → ct I S' u = ct I S u) :
    Sol I S' (((σ.set (I .st) (some (.cells c1))).set (I s) (some (.cells c2))).set (I t) (some (.cells c3))) := by
  refine ⟨fun u hu => ?_, fun a b ha hb => h.inj a b ((hh a).1 ha) ((hh b).1 hb)⟩
  have huu := (hh u).1 hu
  have l0 := h.lt .st
  have l1 := h.lt s hs
  have l2 := h.lt t ht
  rw [List.getElem?_set]
  split
  · rename_i e
    have e' := h.inj t u ht huu e
    subst e'
    rw [if_pos (by simp; omega), h3]
  · rename_i e
    rw [List.getElem?_set]
    split
    · rename_i e2
      have e' := h.inj s u hs huu e2
      subst e'
      rw [if_pos (by simp; omega), h2]
    · rename_i e2
      rw [List.getElem?_set]
      split
      · rename_i e3
        have e' := h.inj .st u trivial huu e3
        subst e'
        rw [h1]
      · rename_i e3
        rw [ho u (fun q => e2 (by rw [q])) (fun q => e (by rw [q])) (fun q => e3 (by rw [q]))]
        exact h.get u huu
theorem stp_put3 (X : Sl → Prop) (s t : Sl) (hs : has S s) (ht : has S t) {x y z : Option Ob} : Stp X I S σ I (((σ.set (I .st) x).set (I s) y).set (I t) z) :=
  ⟨by simp, rfl, fun _ => .inl rfl, fun id _ hne => by rw [set_other (Ne.symm (hne t ht)), set_other (Ne.symm (hne s hs)), set_other (Ne.symm (hne .st trivial))]⟩
set_option maxHeartbeats 8000000 in
theorem backjump_ac (hS : Sol I S σ) (hs : Sh S) (ds : List Int) (hds : ds.length ≤ 100000) (hdl : ∀ l ∈ ds, LitV S.vars l) (B : Nat) (hcb : Cb S B) (hB : B ≤ 1000000000000000) (hl : ∀ l ∈ S.trail, LitV S.vars l ∧ OccOk S l ∧ OccOk S (-l)) (htr : S.trail.length ≤ 1000000) (hfst : S.first ≤ 1000000000)
    (hbk : S.backLevel ds < S.starts.length) (hstv : S.starts.getD (S.backLevel ds) 0 ≤ 1000000) (hstl : S.starts.length ≤ 1000000) (hle : 0 < S.learned.length) (hle2 : S.learned.length ≤ 20000)
    (G : Glob) (R : A → St → Prop) (h : ∀ I' σ', Sol I' (S.backjump ds).1 σ' → Stp Any I S σ I' σ' → R (dn (S.backjump ds).2) σ') : AC Try.prog G 51 [.ref (I .st) 0, .d (isD ds)] σ R := by
  unfold isD
  refine ac_enterC' [4, 7] mixed Try.func51 rfl Try.ntmps51 (by simp only [go_sem]) fun hbd => ?_
  simp only [List.length_cons, List.length_nil, Nat.reduceAdd, Nat.reduceSub, List.replicate_succ, List.replicate_zero, List.cons_append, List.nil_append]
  simp only [go_sem, Try.results51]
  refine aw_cut (fun fr st => fr = [.ref (I .st) 0, .d (isD ds), .any, .any, .any, dn (S.backLevel ds), .any, .any, .any, .any, .any, .any, .any, .any, .any, .any, .any, .any, .any, .any, .any, .any, .any, .any, .any, .any, .any, .any, .any, .any, .any, .any, .any, .any, .any, .any, .any, .any, .any, .any, .any, .any, .any, .any, .any, .any, .any, .any, .any, .any, .any, .any, .any] ∧ st = σ) ?_ ?_
  · by_cases h1 : 1 < ds.length
    · have d1 : decide ((1 : Int) < (ds.length : Int)) = true := decide_eq_true (by omega)
      have w1 : IntKind.i64.wrap ((ds.length : Int) - 2) = ((ds.length - 2 : Nat) : Int) := by rw [wrap64_id _ (by omega) (by omega)]; omega
      have hj : ds.length - 2 < ds.length := by omega
      have e : S.backLevel ds = S.level (ds.getD (ds.length - 2) 0) := by unfold Sv.backLevel; rw [if_pos h1]
      simp only [go_sem, List.length_map, d1, w1, ds_get ds hj, Try.results51]
      refine ⟨⟨by omega, by omega⟩, ac' (level_ac hS hs _ (hdl _ (getD_mem 0 hj)) _ _ ?_)⟩
      simp only [go_sem, Try.results51]
      exact Wk.mask [0, 1, 5] ⟨by rw [e]; rfl, rfl⟩
    · have d1 : decide ((1 : Int) < (ds.length : Int)) = false := decide_eq_false (by omega)
      have e : S.backLevel ds = 0 := by unfold Sv.backLevel; rw [if_neg h1]
      simp only [go_sem, List.length_map, d1, Try.results51]
      exact Wk.mask [0, 1, 5] ⟨by rw [e]; rfl, rfl⟩
  rintro fr st ⟨rfl, rfl⟩
  have gst := natsA_get hbk
  unfold Sv.backjump at h
  generalize S.backLevel ds = back at hbk hstv gst h
  simp only at h
  simp only [go_sem, hS.live .st, hS.ob .st, hS.live .starts, hS.ob .starts, ct, natsA_len, gst, Nat.mul_one, Try.results51]
  refine ⟨⟨by omega, by omega⟩, hbk, ac' (retract_ac hS hs _ hstv B hcb hB hl htr hfst _ _ fun r I1 σ1 hS1 hT1 => ?_)⟩
  have r1 := retract_starts S (S.starts.getD back 0)
  have r2 := retract_occ S (S.starts.getD back 0)
  have r3 := retract_learned S (S.starts.getD back 0)
  generalize S.retract (S.starts.getD back 0) = S1 at hS1 h r1 r2 r3
  rw [← hT1.st]
  have hlb : back ≤ S1.starts.length := by rw [r1]; omega
  simp only [go_sem, hS1.live .st, hS1.ob .st, hS1.live .starts, hS1.ob .starts, ct, natsA_len, Nat.mul_one, Try.results51]
  refine ⟨⟨by omega, by omega⟩, ?_⟩
  have k1 : ∀ cs, (σ1.set (I1 .st) (some (.cells cs)))[I1 .st]? = some (some (.cells cs)) := fun cs => set_same (hS1.get .st trivial)
  have k2 : ∀ cs, (σ1.set (I1 .st) (some (.cells cs)))[I1 .queue]? = some (some (.cells (natsA S1.queue))) := fun cs => by rw [set_other (hS1.ne (by decide))]; exact hS1.get .queue trivial
  have k3 : ∀ cs, (σ1.set (I1 .st) (some (.cells cs)))[I1 .starts]? = some (some (.cells (natsA S1.starts))) := fun cs => by rw [set_other (hS1.ne (by decide))]; exact hS1.get .starts trivial
  refine aw_cut (fun fr st' => fr = [.ref (I1 .st) 0, .any, .any, .any, .any, dn back, .any, .any, .any, .any, .any, .any, .any, .any, .any, .any, .any, .any, .any, .any, .any, .any, .any, .any, .any, .any, .any, .any, .any, .any, .any, .any, .any, .any, .any, .any, .any, .any, .any, .any, .any, .any, .any, .any, .any, .any, .any, .any, .any, .any, .any, .any, .any] ∧ Sol I1 { S1 with starts := S1.starts.take back, queue := [] } st' ∧ Stp Any I S st I1 st') ?_ ?_
  · simp only [go_sem, fun cs => live_of (k1 cs), fun cs k => objK_of (k := k) (k1 cs), fun cs => live_of (k2 cs), fun cs k => objK_of (k := k) (k2 cs), natsA_len, List.set_set, Try.results51]
    refine ⟨⟨by omega, by omega⟩, Wk.via ((Weak.shortAt (I1 .starts) back (k3 _)).trans (Weak.shortAt (I1 .queue) 0 (by rw [set_other (hS1.ne (by decide))]; exact k2 _))) (Wk.mask [0, 5] ⟨rfl, ?_, hT1.trans (SameOcc.has (by unfold SameOcc; rw [r2])) (stp_put3 _ .starts .queue trivial trivial)⟩)⟩
    refine hS1.put3 .starts .queue trivial trivial (by decide) (by decide) (by decide) (fun t => by cases t <;> exact Iff.rfl) ?_ ?_ ?_ fun t h1 h2 h3 => ?_
    · simp only [ct, List.length_take, Nat.min_eq_left hlb]; rfl
    · simp only [ct, natsA_take]
    · simp only [ct, natsA_take]; rfl
    · cases t <;> first | rfl | exact absurd rfl h1 | exact absurd rfl h2 | exact absurd rfl h3
  clear hS hT1 hS1 k1 k2 k3
  rintro fr st' ⟨rfl, hS1, hT1⟩
  have hle' : 0 < S1.learned.length := by omega
  have w2 : IntKind.i64.wrap (40000 + (S1.learned.length : Int)) = ((cmax + S1.learned.length : Nat) : Int) := by rw [wrap64_id _ (by omega) (by omega)]; rfl
  have w3 : IntKind.i64.wrap (((cmax + S1.learned.length : Nat) : Int) - 1) = ((cmax + S1.learned.length - 1 : Nat) : Int) := by simp only [cmax]; rw [wrap64_id _ (by omega) (by omega)]; omega
  have hok : okId ({ S1 with starts := S1.starts.take back, queue := [] } : Sv) (cmax + S1.learned.length - 1) := by
    have h9 : cmax ≤ cmax + S1.learned.length - 1 := by omega
    unfold okId clL clI; rw [if_pos h9, if_pos h9]; show cmax + S1.learned.length - 1 - cmax < S1.learned.length; omega
  simp only [go_sem, hS1.live .st, hS1.ob .st, hS1.live .learned, ct, w2, w3, Try.results51]
  refine ac' (examine_ac hS1 _ hok (by simp only [cmax]; omega) (by simp) _ _ fun r I2 σ2 hS2 hT2 => ?_)
  simp only [go_sem, Try.results51]
  exact ⟨_, _, Weak.refl _ _ _ _, h _ _ hS2 (hT1.trans (SameOcc.has (by unfold SameOcc; rw [← r2])) hT2.any)⟩
end Go.Proofs.Ytnanofipjiclfaa
end PartT17

section PartT18
/- contradict. -/
set_option linter.unusedSimpArgs false
set_option linter.unusedVariables false
set_option maxRecDepth 100000
namespace Go.Proofs.Ytnanofipjiclfaa
open Go Go.Ab
variable {I : Sl → Nat} {S : Sv} {σ : St}

theorem learn_occ (S : Sv) (lits : List Int) (hints : List Nat) : SameOcc S (S.learn lits hints).1 := by
  unfold Sv.learn SameOcc
  simp only
  split
  · rfl
  · split
    · rfl
    · obtain ⟨la, oc, h1, _, h3⟩ := enter_shape ({ S with steps := S.steps ++ [(lits.map (- ·), hints)] } : Sv) (lits.map (- ·)) (cmax + S.steps.length)
      rw [h1]; exact h3
set_option maxHeartbeats 8000000 in
theorem contradict_ac (hS : Sol I S σ) (hs : Sh S) (l : Int) (hl : LitV S.vars l)
    (hr : ¬ S.reasons.getD (vr l) 0 < 0 → okId S (S.reasons.getD (vr l) 0).toNat ∧ S.reasons.getD (vr l) 0 < 1000000)
    (hlits : ∀ id, okId S id → (∀ l ∈ (S.cl id).lits, LitV S.vars l) ∧ (S.cl id).lits.length ≤ 1000000)
    (htr : ∀ l ∈ S.trail, LitV S.vars l ∧ (¬ S.reasons.getD (vr l) 0 < 0 → okId S (S.reasons.getD (vr l) 0).toNat ∧ S.reasons.getD (vr l) 0 < 1000000)) (htl : S.trail.length ≤ 100000)
    (hds : ¬ S.reasons.getD (vr l) 0 < 0 → (∀ x ∈ (S.explain (S.reasons.getD (vr l) 0).toNat (-l)).2.1, LitV S.vars x) ∧ (S.explain (S.reasons.getD (vr l) 0).toNat (-l)).2.1.length < 12 ∧ (S.explain (S.reasons.getD (vr l) 0).toNat (-l)).1.length = S.marked.length)
    (hsl : S.steps.length ≤ 20000) (hle : S.learned.length ≤ 20000) (hst : ∀ s ∈ S.steps, s.1.length ≤ 12)
    (hocc : ∀ d, (S.occ.getD d []).length ≤ 1000000) (hstamp : S.stamp ≤ 1000000000000)
    (G : Glob) (R : A → St → Prop) (h : ∀ I' σ', Sol I' (S.contradict l).1 σ' → Stp Any I S σ I' σ' → R (di (S.contradict l).2) σ') : AC Try.prog G 52 [.ref (I .st) 0, di l] σ R := by
  have hv := hs.vars
  have hvr : vr l < S.reasons.length := by rw [hs.reasons]; exact hl.vrLt
  have w0 : IntKind.i64.wrap (0 - l) = -l := by have := hl; unfold LitV at this; rw [wrap64_id _ (by omega) (by omega)]; omega
  unfold Sv.contradict at h
  refine ac_enterC' [4, 6] mixed Try.func52 rfl Try.ntmps52 (by simp only [go_sem]) fun hbd => ?_
  simp only [List.length_cons, List.length_nil, Nat.reduceAdd, Nat.reduceSub, List.replicate_succ, List.replicate_zero, List.cons_append, List.nil_append]
  simp only [go_sem, Try.results52]
  refine aw_plan (.take 0 <| .take 4 <| .pure 5 <| .tk 3 1 <| .tk 3 6 <| .done) (by kernel_rfl) ?_
  simp only [go_sem, Try.results52]
  refine exP (dn (vr l)) ⟨fun σ' => ?_, ?_⟩
  · simp only [go_sem, Try.results52]
    exact ac' (vr_ac l (hl.big hv) _ _ _ ⟨rfl, rfl⟩)
  simp only [go_sem, hS.live .st, hS.ob .st, hS.live .reasons, hS.ob .reasons, ct, intsA_len, intsA_get hvr, Nat.mul_one, Try.results52]
  refine ⟨⟨by omega, by omega⟩, hvr, ?_⟩
  refine aw_cut (fun fr st => ¬ S.reasons.getD (vr l) 0 < 0 ∧ fr = [.ref (I .st) 0, di l, .any, .any, .any, di (S.reasons.getD (vr l) 0), .any, .any, .any, .any, .any, .any, .any, .any, .any, .any, .any, .any, .any, .any, .any, .any, .any, .any, .any, .any, .any, .any, .any, .any, .any, .any, .any, .any, .any, .any, .any, .any, .any, .any, .any, .any, .any, .any, .any] ∧ st = σ) ?_ ?_
  · by_cases hneg : S.reasons.getD (vr l) 0 < 0
    · rw [if_pos hneg] at h
      have d0 : decide (S.reasons.getD (vr l) 0 < 0) = true := decide_eq_true hneg
      simp only [go_sem, d0, w0, Try.results52]
      have hat : (σ ++ [some (Ob.cells [A.d (D.int IntKind.i64 (-l)), A.d (D.int IntKind.i64 l)])])[σ.length]? = some (some (.cells (intsA [-l, l]))) := by rw [List.getElem?_append_right (by omega), Nat.sub_self]; rfl
      have hne : ∀ s, has S s → I s ≠ σ.length := fun s hs => by have := hS.lt s hs; omega
      have hS2 := (hS.app [some (Ob.cells [A.d (D.int IntKind.i64 (-l)), A.d (D.int IntKind.i64 l)])]).set hne none
      refine ac' (ac_weak (Weak.freeze σ.length 1 0 [iD (-l), iD l] hat (lies_ints [-l, l])) ?_)
      have e : frzL σ.length 1 0 [iD (-l), iD l] [A.ref (I .st) 0, A.rs σ.length 1 0 2 (some 3)] = [.ref (I .st) 0, .d (isD [-l, l])] := by simp [frzL, A.frz, isD]
      rw [e]
      refine refute_ac hS2 [-l, l] _ _ fun σ2 hS3 hT3 => ?_
      simp only [go_sem, Try.results52]
      refine ⟨_, _, Weak.refl _ _ _ _, h _ _ hS3 ⟨by have := hT3.len; simp at this; omega, rfl, fun _ => .inl rfl, fun k hk hn => ?_⟩⟩
      rw [hT3.keep k (by simp; omega) hn, set_other (by omega), List.getElem?_append_left hk]
    · have d0 : decide (S.reasons.getD (vr l) 0 < 0) = false := decide_eq_false hneg
      simp only [go_sem, d0, Try.results52]
      exact Wk.mask [0, 1, 5] ⟨hneg, rfl, rfl⟩
  rintro fr st ⟨hneg, rfl, rfl⟩
  rw [if_neg hneg] at h
  obtain ⟨hro, hrb⟩ := hr hneg
  obtain ⟨hd1, hd2, hd3⟩ := hds hneg
  obtain ⟨r, hrr⟩ : ∃ r : Nat, S.reasons.getD (vr l) 0 = (r : Int) := ⟨(S.reasons.getD (vr l) 0).toNat, by omega⟩
  rw [hrr] at hro hrb hd1 hd2 hd3 h ⊢
  rw [Int.toNat_natCast] at hro hd1 hd2 hd3 h
  simp only [go_sem, w0, Try.results52]
  refine ac' (explain_ac hS hs r (by omega) hro (-l) hlits htr htl _ _ fun il σ1 hS1 hT1 hat hoff hge => ?_)
  generalize S.explain r (-l) = p at hS1 hat hd1 hd2 hd3 h
  obtain ⟨mk, ds, hn⟩ := p
  simp only at hS1 hat hd1 hd2 hd3 h
  simp only [go_sem, w0, Try.results52]
  obtain ⟨ts, hts⟩ : ∃ ts, ts = ds.reverse := ⟨_, rfl⟩
  have htl2 : ts.length = ds.length := by rw [hts, List.length_reverse]
  rw [← hts] at hat h
  rw [← htl2]
  have hlt5 := lt_of_some hat
  have h5 : (σ1 ++ [some (.cells [di l])])[il]? = some (some (.cells (intsA ts))) := by rw [List.getElem?_append_left hlt5]; exact hat
  have q0 : decide (il < σ1.length) = true := decide_eq_true hlt5
  refine aw_cut (fun fr s2 => fr = [.ref (I .st) 0, .any, .any, .any, .any, .any, .any, .d (nsD hn.reverse), .d (isD (ts ++ [l])), .any, .any, .any, .any, .any, .any, .any, .any, .any, .any, .any, .any, .any, .any, .any, .any, .any, .any, .any, .any, .any, .any, .any, .any, .any, .any, .any, .any, .any, .any, .any, .any, .any, .any, .any, .any] ∧ Sol I (wm S mk) s2 ∧ Stp Any I S st I s2) ?_ ?_
  · simp only [go_sem, live_of h5, objK_of h5, intsA_len, Nat.mul_one, Try.results52]
    have hat6 : ((σ1 ++ [some (Ob.cells [A.d (D.int IntKind.i64 l)])]).set il none ++ [some (Ob.cells (intsA ts ++ [A.d (D.int IntKind.i64 l)]))])[σ1.length + 1]? = some (some (.cells (intsA (ts ++ [l])))) := by
      rw [List.getElem?_append_right (by simp), List.length_set, List.length_append, List.length_cons, List.length_nil, Nat.sub_self, intsA_snoc]; rfl
    have hlts := fun s (q : has S s) => hS1.lt s (by cases s <;> exact q)
    have hS6 : Sol I (wm S mk) (((σ1 ++ [some (Ob.cells [A.d (D.int IntKind.i64 l)])]).set il none ++ [some (Ob.cells (intsA ts ++ [A.d (D.int IntKind.i64 l)]))]).set (σ1.length + 1) none) :=
      (((hS1.app _).set (fun s hs => hoff s (by cases s <;> exact hs)) none).app _).set (fun s hs => by have := hlts s (by cases s <;> exact hs); omega) none
    have hgl := hT1.len
    refine ⟨⟨by simp only [maxLen]; omega, by omega⟩, Wk.via ((Weak.mask [0, 7, 8]).trans (Weak.freeze (σ1.length + 1) 1 0 ((ts ++ [l]).map iD) hat6 (lies_ints _))) (Wk.mask [0, 7, 8] ⟨?_, hS6, ⟨by simp; omega, rfl, fun _ => .inl rfl, fun k hk hn => ?_⟩⟩)⟩
    · simp only [go_sem, List.length_map, List.length_append, if_true, isD]
    · rw [set_other (by omega), List.getElem?_append_left (by simp; omega), set_other (by omega), List.getElem?_append_left (by omega)]
      exact hT1.keep k hk hn
  clear hS1 hT1 hat h5 q0 hlt5 hS
  rintro fr s2 ⟨rfl, hS1, hT1⟩
  have hsm : Sh (wm S mk) := ⟨hs.1, hs.2, hs.3, hs.4, hs.5, hs.6, by simpa [wm] using hd3.trans hs.7⟩
  have hT0 : ∀ s, has S s ↔ has (wm S mk) s := fun s => by cases s <;> exact Iff.rfl
  have hle1 := learn_ac hS1 hsm (ts ++ [l]) hn.reverse (fun x hx => by
    rcases List.mem_append.1 hx with hx | hx
    · exact hd1 x (by rw [hts] at hx; simpa using hx)
    · simp at hx; subst hx; exact hl) (by simp; omega) hsl hle hst hocc hstamp
  have hwm : ({ S with marked := mk } : Sv) = wm S mk := rfl
  rw [hwm] at h
  have hlo := learn_occ (wm S mk) (ts ++ [l]) hn.reverse
  generalize (wm S mk).learn (ts ++ [l]) hn.reverse = q at hle1 h hlo
  obtain ⟨S2, ok⟩ := q
  simp only at hle1 h
  simp only [go_sem, Try.results52]
  refine ac' (hle1 _ _ fun I3 σ3 hS3 hT3 => ?_)
  have hI3 : I3 .st = I .st := hT3.st
  cases ok with
  | false =>
    simp only [go_sem, Try.results52]
    exact ⟨_, _, Weak.refl _ _ _ _, h _ _ hS3 (hT1.trans hT0 hT3)⟩
  | true =>
    simp only [go_sem, Try.results52]
    rw [← hI3]
    refine ac' (refute_ac hS3 (ts ++ [l]) _ _ fun σ4 hS4 hT4 => ?_)
    simp only [go_sem, Try.results52]
    refine ⟨_, _, Weak.refl _ _ _ _, h _ _ hS4 (hT1.trans hT0 ?_)⟩
    exact hT3.trans (SameOcc.has hlo) hT4
end Go.Proofs.Ytnanofipjiclfaa
end PartT18
