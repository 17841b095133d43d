/- Insertion sort. -/
import Derived.Test.YtpmjdaiboniagaaC7
set_option linter.unusedSimpArgs false
set_option maxRecDepth 100000
namespace Go.Proofs.Ytpmjdaiboniagaa
open Go Go.Ab

theorem objK_set {σ : St} {id : Nat} {cs : List A} {k : List A → Prop} (h : id < σ.length) : objK (σ.set id (some (.cells cs))) id k = k cs := by
  simp only [objK, List.getElem?_set, if_pos h, if_true]
theorem live_set {σ : St} {id : Nat} {o : Ob} (h : id < σ.length) : liveId (σ.set id (some o)) id = true := by
  simp only [liveId, List.getElem?_set, if_pos h, if_true]
theorem set_same {σ : St} {id : Nat} {o : Option Ob} (h : σ[id]? = some o) : σ.set id o = σ := by
  apply List.ext_getElem?
  intro k
  rw [List.getElem?_set]
  split
  · rename_i e; subst e
    rw [if_pos (List.getElem?_eq_some_iff.1 h).1, h]
  · rfl
theorem splice_ints {l : List Int} {j : Nat} (x : Int) (h : j < l.length) : (l.map fun x => A.d (iD x)).take j ++ [A.d (iD x)] ++ (l.map fun x => A.d (iD x)).drop (j + 1) = (l.set j x).map fun x => A.d (iD x) := by
  rw [← List.map_take, ← List.map_drop, List.set_eq_take_append_cons_drop, if_pos h]
  simp
theorem splice_ints' {l : List Int} {j : Nat} (x : Int) (h : j < l.length) : (l.map fun x => A.d (iD x)).take j ++ A.d (iD x) :: (l.map fun x => A.d (iD x)).drop (j + 1) = (l.set j x).map fun x => A.d (iD x) := by
  rw [← splice_ints x h]; simp
theorem set_getD {l : List Int} {j k : Nat} {x : Int} (h : j < l.length) : (l.set j x).getD k 0 = if k = j then x else l.getD k 0 := by
  rw [List.getD_eq_getElem?_getD, List.getElem?_set, List.getD_eq_getElem?_getD]
  split
  · rename_i e; subst e; simp [h]
  · rename_i e; rw [if_neg (fun e' => e e'.symm)]
/-- Neighbours change places. -/
theorem swap_perm : ∀ {l : List Int} {j : Nat}, j + 1 < l.length → ((l.set (j + 1) (l.getD j 0)).set j (l.getD (j + 1) 0)).Perm l
  | [], j, h => by simp at h
  | [x], j, h => by simp at h
  | x :: y :: l, 0, _ => by simpa [List.getD] using List.Perm.swap x y l
  | x :: y :: l, j + 1, h => by
    have := swap_perm (l := y :: l) (j := j) (by simpa using h)
    simpa [List.getD] using this.cons x
/-- Sorting the cells of an object of the caller's, in place. -/
theorem insort_ac (l : List Int) (hl : l.length ≤ 12) (σ : St) (id : Nat) (w : Option TypeId) (hσ : σ[id]? = some (ints l)) (G : Glob) (R : A → St → Prop)
    (h : ∀ (r : A) (l' : List Int), l'.Perm l → (∀ p q, p < q → q < l.length → l'.getD p 0 ≤ l'.getD q 0) → R r (σ.set id (ints l'))) : AC Try.prog G 103 [.rs id 1 0 l.length w, dn 0, dn l.length] σ R := by
  refine ac_enter mixed Try.func103 rfl Try.ntmps103 (by simp only [go_sem]) fun hbd => ?_
  simp only [List.length_cons, List.length_nil, Nat.reduceAdd, Nat.reduceSub, List.replicate_succ, List.replicate_zero, List.cons_append, List.nil_append]
  have w1 : IntKind.i64.wrap (0 + 1) = ((1 : Nat) : Int) := by rw [wrap64_id _ (by omega) (by omega)]; rfl
  have hid : id < σ.length := (List.getElem?_eq_some_iff.1 hσ).1
  simp only [go_sem, w1]
  refine aw_loop (fun m fr st => ∃ (i : Nat) (l' : List Int), 1 ≤ i ∧ m = l.length - i ∧ l'.Perm l ∧ (∀ p q, p < q → q < i → l'.getD p 0 ≤ l'.getD q 0) ∧ st = σ.set id (ints l') ∧ fr = [.rs id 1 0 l.length w, dn 0, dn l.length, .any, .any, .any, dn i, .any, .any, .any, .any, .any, .any, .any, .any, .any, .any, .any, .any, .any, .any, .any, .any, .any, .any, .any, .any, .any, .any, .any, .any, .any, .any, .any, .any, .any, .any, .any, .any, .any, .any, .any, .any, .any, .any, .any, .any, .any, .any]) (l.length - 1) _
    (Wk.mask [0, 1, 2, 6] ⟨1, l, by omega, rfl, .refl _, fun p q h1 h2 => by omega, (set_same hσ).symm, rfl⟩) ?_
  rintro m fr st ⟨i, l', hi, hm, hp, hs, rfl, rfl⟩
  rcases Nat.lt_or_ge i l.length with hlt | hge
  · have hd : decide ((i : Int) < (l.length : Int)) = true := decide_eq_true (by omega)
    have w2 := wrapS i (by omega)
    simp only [go_sem, hd, w2]
    refine aw_loop (fun m fr st => ∃ (j : Nat) (l' : List Int), j ≤ i ∧ m = j ∧ l'.Perm l ∧ (∀ p q, p < q → q ≤ i → q ≠ j → l'.getD p 0 ≤ l'.getD q 0) ∧ st = σ.set id (ints l') ∧ fr = [.rs id 1 0 l.length w, dn 0, dn l.length, .any, .any, .any, dn i, dn j, .any, .any, .any, .any, .any, .any, .any, .any, .any, .any, .any, .any, .any, .any, .any, .any, .any, .any, .any, .any, .any, .any, .any, .any, .any, .any, .any, .any, .any, .any, .any, .any, .any, .any, .any, .any, .any, .any, .any, .any, .any]) i _
      (Wk.mask [0, 1, 2, 6, 7] ⟨i, l', by omega, rfl, hp, fun p q h1 h2 h3 => hs p q h1 (by omega), rfl, rfl⟩) ?_
    clear hs hp
    rintro m' fr st ⟨j, l'', hj, rfl, hp, hs, rfl, rfl⟩
    have hlen : l''.length = l.length := hp.length_eq
    rcases Nat.eq_zero_or_pos m' with h0 | h0
    · subst h0
      have d0 : decide (((0 : Nat) : Int) < ((0 : Nat) : Int)) = false := rfl
      simp only [go_sem, objK_set hid, live_set hid, d0]
      refine ex' (.bool false) ⟨fun hc => Bool.noConfusion hc, ?_⟩
      simp only [go_sem, w2]
      exact Wk.mask [0, 1, 2, 6] ⟨l.length - (i + 1), by omega, i + 1, l'', by omega, rfl, hp, fun p q h1 h2 => hs p q h1 (by omega) (by omega), rfl, rfl⟩
    · have d0 : decide (((0 : Nat) : Int) < (m' : Int)) = true := decide_eq_true (by omega)
      have w3 : IntKind.i64.wrap ((m' : Int) - 1) = ((m' - 1 : Nat) : Int) := by rw [wrap64_id _ (by omega) (by omega)]; omega
      have e1 : List.getD (l''.map fun x => A.d (iD x)) m' .any = A.d (iD (l''.getD m' 0)) := getD_mapA (by omega)
      have e2 : List.getD (l''.map fun x => A.d (iD x)) (m' - 1) .any = A.d (iD (l''.getD (m' - 1) 0)) := getD_mapA (by omega)
      simp only [go_sem, objK_set hid, live_set hid, d0, w3, e1, e2, Nat.mul_one, Nat.zero_add, List.length_map]
      refine ⟨by omega, by omega, by omega, by omega, ex' (.bool (decide (l''.getD m' 0 < l''.getD (m' - 1) 0))) ⟨fun hc => ?_, ?_⟩⟩
      · simp only [go_sem, e1, e2]
        refine ac' (less_ac _ _ _ _ _ ?_)
        exact ⟨rfl, rfl⟩
      simp only [go_sem, objK_set hid, live_set hid, w3, e1, e2, Nat.mul_one, Nat.zero_add, List.length_map, List.set_set]
      refine ⟨fun hc => ⟨⟨by omega, by omega⟩, by omega, ⟨by omega, by omega⟩, by omega, ⟨by omega, by omega⟩, by omega, ⟨by omega, by omega⟩, by simp only [List.length_take, List.length_drop, List.length_map]; omega, ?_⟩, fun hc => ?_⟩
      · obtain ⟨j, rfl⟩ : ∃ j, m' = j + 1 := ⟨m' - 1, by omega⟩
        simp only [decide_eq_true_eq, Nat.add_sub_cancel] at hc
        refine Wk.mask [0, 1, 2, 6, 7] ⟨j, by omega, j, (l''.set (j + 1) (l''.getD j 0)).set j (l''.getD (j + 1) 0), by omega, rfl, (swap_perm (by omega)).trans hp, fun p q h1 h2 h3 => ?_, ?_, rfl⟩
        · have gk : ∀ k, ((l''.set (j + 1) (l''.getD j 0)).set j (l''.getD (j + 1) 0)).getD k 0 = if k = j then l''.getD (j + 1) 0 else if k = j + 1 then l''.getD j 0 else l''.getD k 0 := fun k => by
            rw [set_getD (by simp; omega), set_getD (by omega)]
          rw [gk p, gk q]
          by_cases q1 : q = j + 1
          · rw [if_neg (show ¬ q = j by omega), if_pos q1]
            by_cases p1 : p = j
            · rw [if_pos p1]; omega
            · rw [if_neg p1, if_neg (show ¬ p = j + 1 by omega)]; exact hs p j (by omega) (by omega) (by omega)
          · rw [if_neg (show ¬ q = j from h3), if_neg q1]
            by_cases p1 : p = j
            · rw [if_pos p1]; exact hs (j + 1) q (by omega) h2 q1
            · by_cases p2 : p = j + 1
              · rw [if_neg p1, if_pos p2]; exact hs j q (by omega) h2 q1
              · rw [if_neg p1, if_neg p2]; exact hs p q h1 h2 q1
        · simp only [Nat.add_sub_cancel]
          rw [splice_ints' _ (by omega), splice_ints' _ (by simp; omega)]
      · simp only [w2]
        simp only [decide_eq_false_iff_not] at hc
        refine Wk.mask [0, 1, 2, 6] ⟨l.length - (i + 1), by omega, i + 1, l'', by omega, rfl, hp, fun p q h1 h2 => ?_, rfl, rfl⟩
        by_cases hq : q = m'
        · subst hq
          by_cases hp1 : p = q - 1
          · subst hp1; omega
          · have := hs p (q - 1) (by omega) (by omega) (by omega); omega
        · exact hs p q h1 (by omega) hq
  · have hd : decide ((i : Int) < (l.length : Int)) = false := decide_eq_false (by omega)
    simp only [go_sem, hd, Try.results103]
    exact ⟨_, _, Weak.refl _ _ _ _, h _ l' hp fun p q h1 h2 => hs p q h1 (by omega)⟩
end Go.Proofs.Ytpmjdaiboniagaa
