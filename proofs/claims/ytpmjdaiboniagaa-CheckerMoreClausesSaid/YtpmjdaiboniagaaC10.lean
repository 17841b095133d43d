/- slices.Compact, and the literals of a step. -/
import Derived.Test.YtpmjdaiboniagaaC9
import Derived.Test.YtpmjdaiboniagaaC4
set_option linter.unusedSimpArgs false
set_option maxRecDepth 100000
namespace Go.Proofs.Ytpmjdaiboniagaa
open Go Go.Ab

/-- Compact of a sorted slice: all of it if no neighbours are the same, fewer otherwise. -/
theorem compact_ac (l : List Int) (hl : l.length ≤ 12) (σ : St) (id : Nat) (w : Option TypeId) (hσ : σ[id]? = some (ints l)) (G : Glob) (R : A → St → Prop)
    (h1 : (∀ k, k + 1 < l.length → l.getD k 0 ≠ l.getD (k + 1) 0) → R (.rs id 1 0 l.length w) σ)
    (h2 : ∀ k, k + 1 < l.length → l.getD k 0 = l.getD (k + 1) 0 → ∀ (n : Nat) (cs : List A), n < l.length → n ≤ cs.length → R (.rs id 1 0 n w) (σ.set id (some (.cells cs)))) : AC Try.prog G 95 [.rs id 1 0 l.length w] σ R := by
  refine ac_enter mixed Try.func95 rfl Try.ntmps95 (by simp only [go_sem]) fun hbd => ?_
  simp only [List.length_cons, List.length_nil, Nat.reduceAdd, Nat.reduceSub, List.replicate_succ, List.replicate_zero, List.cons_append, List.nil_append]
  have hlive := live_of hσ
  rcases Nat.lt_or_ge l.length 2 with hlt | hge
  · have d1 : decide ((l.length : Int) < 2) = true := decide_eq_true (by omega)
    simp only [go_sem, hlive, d1, Try.results95]
    exact ⟨_, _, Weak.refl _ _ _ _, h1 fun k hk => by omega⟩
  · have d1 : decide ((l.length : Int) < 2) = false := decide_eq_false (by omega)
    simp only [go_sem, hlive, d1, Try.results95]
    refine aw_loop (fun m fr st => ∃ k : Nat, 1 ≤ k ∧ k ≤ l.length ∧ m = l.length - k ∧ (∀ q, q + 1 < k → l.getD q 0 ≠ l.getD (q + 1) 0) ∧ st = σ ∧ fr = [.rs id 1 0 l.length w, .any, .any, dn k, .any, .any, .any, .any, .any, .any, .any, .any, .any, .any, .any, .any, .any, .any, .any, .any, .any, .any, .any, .any, .any, .any, .any, .any, .any, .any, .any, .any, .any, .any, .any, .any, .any, .any, .any, .any, .any, .any, .any, .any, .any, .any, .any, .any, .any, .any, .any, .any, .any, .any, .any, .any, .any, .any, .any, .any, .any]) (l.length - 1) _
      (Wk.mask [0, 3] ⟨1, by omega, by omega, rfl, fun q hq => by omega, rfl, rfl⟩) ?_
    rintro m fr st ⟨k, hk, hk2, hm, hne, rfl, rfl⟩
    rcases Nat.lt_or_ge k l.length with klt | kge
    · have kd : decide ((k : Int) < (l.length : Int)) = true := decide_eq_true (by omega)
      have w2 := wrapS k (by omega)
      have w3 : IntKind.i64.wrap ((k : Int) - 1) = ((k - 1 : Nat) : Int) := by rw [wrap64_id _ (by omega) (by omega)]; omega
      have e1 : List.getD (l.map fun x => A.d (iD x)) k .any = A.d (iD (l.getD k 0)) := getD_mapA (by omega)
      have e2 : List.getD (l.map fun x => A.d (iD x)) (k - 1) .any = A.d (iD (l.getD (k - 1) 0)) := getD_mapA (by omega)
      have w4 : ((l.length : Int) - (k : Int)).toNat = l.length - k := by omega
      have hid : id < st.length := (List.getElem?_eq_some_iff.1 hσ).1
      simp only [go_sem, hlive, objK_of hσ, kd, w2, w3, w4, e1, e2, Nat.mul_one, Nat.zero_add, List.length_map]
      refine ⟨⟨by omega, by omega⟩, klt, ⟨by omega, by omega⟩, by omega, fun he => ⟨⟨by omega, by omega, by omega⟩, ?_⟩, fun hn => ?_⟩
      · have hdup := h2 (k - 1) (by omega) (by rw [Nat.sub_add_cancel hk]; simpa using (beq_iff_eq.1 he).symm)
        refine aw_loop (fun m fr s => ∃ (j n : Nat) (l' : List Int), 1 ≤ j ∧ j ≤ l.length - k ∧ m = l.length - k - j ∧ k ≤ n ∧ n < k + j ∧ l'.length = l.length ∧ s = st.set id (ints l') ∧
          fr = [.rs id 1 0 l.length w, .any, .any, dn n, .rs id 1 k (l.length - k) none, dn j, .any, .any, .any, .any, .any, .any, .any, .any, .any, .any, .any, .any, .any, .any, .any, .any, .any, .any, .any, .any, .any, .any, .any, .any, .any, .any, .any, .any, .any, .any, .any, .any, .any, .any, .any, .any, .any, .any, .any, .any, .any, .any, .any, .any, .any, .any, .any, .any, .any, .any, .any, .any, .any, .any, .any]) (l.length - k - 1) _
          (Wk.mask [0, 3, 4, 5] ⟨1, k, l, by omega, by omega, rfl, by omega, by omega, rfl, (set_same hσ).symm, rfl⟩) ?_
        rintro m' fr s ⟨j, n, l', hj, hj2, hm', hn1, hn2, hl', rfl, rfl⟩
        rcases Nat.lt_or_ge j (l.length - k) with jlt | jge
        · have jd : decide ((j : Int) < ((l.length - k : Nat) : Int)) = true := decide_eq_true (by omega)
          have w5 : IntKind.i64.wrap ((j : Int) - 1) = ((j - 1 : Nat) : Int) := by rw [wrap64_id _ (by omega) (by omega)]; omega
          have w6 := wrapS j (by omega)
          have w7 := wrapS n (by omega)
          have e3 : List.getD (l'.map fun x => A.d (iD x)) (k + j) .any = A.d (iD (l'.getD (k + j) 0)) := getD_mapA (by omega)
          have e4 : List.getD (l'.map fun x => A.d (iD x)) (k + (j - 1)) .any = A.d (iD (l'.getD (k + (j - 1)) 0)) := getD_mapA (by omega)
          simp only [go_sem, live_set hid, objK_set hid, jd, w5, w6, w7, e3, e4, Nat.mul_one, Nat.zero_add, List.length_map, List.set_set]
          refine ⟨⟨by omega, by omega⟩, by omega, ⟨by omega, by omega⟩, by omega, fun hne => ⟨⟨by omega, by omega⟩, by omega, ⟨by omega, by omega⟩, by omega, ?_⟩, fun heq => ?_⟩
          · rw [splice_ints' _ (by omega)]
            exact Wk.mask [0, 3, 4, 5] ⟨l.length - k - (j + 1), by omega, j + 1, n + 1, _, by omega, by omega, rfl, by omega, by omega, by rw [List.length_set]; exact hl', rfl, rfl⟩
          · exact Wk.mask [0, 3, 4, 5] ⟨l.length - k - (j + 1), by omega, j + 1, n, l', by omega, by omega, rfl, by omega, by omega, hl', rfl, rfl⟩
        · have jd : decide ((j : Int) < ((l.length - k : Nat) : Int)) = false := decide_eq_false (by omega)
          have w8 : ((l.length : Int) - (n : Int)).toNat = l.length - n := by omega
          simp only [go_sem, live_set hid, objK_set hid, jd, w8, Nat.mul_one, Nat.zero_add, List.length_map, List.set_set, Try.results95]
          refine ⟨⟨by omega, by omega, by omega⟩, ⟨by omega, by omega⟩, ⟨by omega, by omega⟩, _, _, Weak.refl _ _ _ _, hdup n _ (by omega) ?_⟩
          simp only [List.length_append, List.length_take, List.length_map, List.length_replicate]; omega
      · refine Wk.mask [0, 3] ⟨l.length - (k + 1), by omega, k + 1, by omega, by omega, rfl, fun q hq => ?_, rfl, rfl⟩
        by_cases hq' : q + 1 = k
        · subst hq'
          simp only [Nat.add_sub_cancel] at hn
          intro e; rw [e] at hn; simp at hn
        · exact hne q (by omega)
    · have kd : decide ((k : Int) < (l.length : Int)) = false := decide_eq_false (by omega)
      simp only [go_sem, hlive, kd, Try.results95]
      exact ⟨_, _, Weak.refl _ _ _ _, h1 fun q hq => hne q (by omega)⟩
theorem litsFrom_iff {v : Int} : ∀ {l pre : List Int}, litsFrom v pre l = true ↔ (∀ x ∈ l, 1 ≤ absI x ∧ absI x ≤ v) ∧ (l.map absI).Nodup ∧ ∀ x ∈ l, ∀ y ∈ pre, absI y ≠ absI x
  | [], pre => by simp [litsFrom]
  | x :: l, pre => by
    simp only [litsFrom, Bool.and_eq_true, Bool.not_eq_true', Bool.or_eq_false_iff, decide_eq_false_iff_not, List.any_eq_false, beq_iff_eq, litsFrom_iff (l := l), List.map_cons, List.nodup_cons, List.mem_cons, List.mem_append, List.mem_map, forall_eq_or_imp]
    constructor
    · rintro ⟨h1, h2, h3, h4, h5⟩
      refine ⟨⟨by omega, h3⟩, ⟨?_, h4⟩, h2, fun y hy z hz => h5 y hy z (.inl hz)⟩
      rintro ⟨y, hy, e⟩
      exact h5 y hy x (.inr (by simp)) e.symm
    · rintro ⟨⟨h1, h3⟩, ⟨h6, h4⟩, h2, h5⟩
      refine ⟨by omega, h2, h3, h4, fun y hy z hz => ?_⟩
      rcases hz with hz | hz
      · exact h5 y hy z hz
      · simp only [List.not_mem_nil, or_false] at hz
        subst hz
        exact fun e => h6 ⟨y, hy, e.symm⟩
/-- Sorted, and no neighbours are the same: nothing twice. -/
theorem nodup_of_sorted {l : List Int} (h : ∀ p q, p < q → q < l.length → l.getD p 0 ≤ l.getD q 0) (hn : ∀ k, k + 1 < l.length → l.getD k 0 ≠ l.getD (k + 1) 0) : l.Nodup := by
  refine List.pairwise_iff_getElem.2 fun i j hi hj hij => ?_
  have e1 : l.getD i 0 = l[i] := by rw [List.getD_eq_getElem?_getD, List.getElem?_eq_getElem hi]; rfl
  have e2 : l.getD j 0 = l[j] := by rw [List.getD_eq_getElem?_getD, List.getElem?_eq_getElem hj]; rfl
  rw [← e1, ← e2]
  have h1 := hn i (by omega)
  have h2 := h i (i + 1) (by omega) (by omega)
  by_cases e : j = i + 1
  · subst e; exact h1
  · have h3 := h (i + 1) j (by omega) hj
    omega
theorem dup_of {l : List Int} {k : Nat} (hk : k + 1 < l.length) (he : l.getD k 0 = l.getD (k + 1) 0) : ¬ l.Nodup := fun h => by
  have := List.pairwise_iff_getElem.1 h k (k + 1) (by omega) hk (by omega)
  have e1 : l.getD k 0 = l[k] := by rw [List.getD_eq_getElem?_getD, List.getElem?_eq_getElem (by omega)]; rfl
  have e2 : l.getD (k + 1) 0 = l[k + 1] := by rw [List.getD_eq_getElem?_getD, List.getElem?_eq_getElem hk]; rfl
  rw [e1, e2] at he
  exact this he
theorem vlits_ac (lits : List Int) (vars : Int) (hl : lits.length ≤ 12) (σ : St) (G : Glob) (R : A → St → Prop) (h : R (db (litsFrom vars [] lits)) σ) : AC Try.prog G 87 [.d (isD lits), di vars] σ R := by
  refine ac_enter mixed Try.func87 rfl Try.ntmps87 (by simp only [go_sem]) fun hbd => ?_
  simp only [List.length_cons, List.length_nil, Nat.reduceAdd, Nat.reduceSub, List.replicate_succ, List.replicate_zero, List.cons_append, List.nil_append]
  simp only [isD, go_sem, List.length_map]
  refine ⟨⟨by omega, by omega⟩, ?_⟩
  refine aw_loop (fun m fr st => ∃ j : Nat, j ≤ lits.length ∧ m = lits.length - j ∧ (∀ x ∈ lits.take j, 1 ≤ absI x ∧ absI x ≤ vars) ∧ fr = [.d (.sl 1 (lits.map iD)), di vars, .any, .any, .any, .rs σ.length 1 0 j (some 3), .any, .any, .any, .any, .any, .d (.sl 1 (lits.map iD)), dn lits.length, dn j, .any, .any, .any, .any, .any, .any, .any, .any, .any, .any, .any, .any, .any, .any, .any, .any, .any, .any, .any, .any, .any, .any, .any, .any, .any, .any, .any] ∧
    st = σ ++ [ints ((lits.take j).map absI)]) lits.length _ (Wk.mask [0, 1, 5, 11, 12, 13] ⟨0, by omega, rfl, by simp, rfl, rfl⟩) ?_
  rintro m fr st ⟨j, hj, hm, hall, rfl, rfl⟩
  rcases Nat.lt_or_ge j lits.length with hlt | hge
  · have hd : decide ((j : Int) < (lits.length : Int)) = true := decide_eq_true (by omega)
    have e1 : List.getD (List.map iD lits) j default = iD (lits.getD j 0) := getD_mapD hlt
    have w2 := wrapS j (by omega)
    have htk : lits.take (j + 1) = lits.take j ++ [lits.getD j 0] := by
      rw [List.take_add_one, List.getD_eq_getElem?_getD, List.getElem?_eq_getElem hlt]; rfl
    have hmem := getD_mem 0 hlt
    simp only [go_sem, List.length_map, hd, e1, w2]
    generalize lits.getD j 0 = l at htk hmem
    refine ⟨⟨by omega, by omega⟩, ?_⟩
    refine ⟨fun hneg => ?_, fun hneg => ?_⟩
    all_goals
      have ea : absI l = if l < 0 then IntKind.i64.wrap (0 - l) else l := rfl
      first | rw [if_pos (of_decide_eq_true hneg)] at ea | rw [if_neg (of_decide_eq_false hneg)] at ea
      clear hneg
      simp only [go_sem, Try.results87]
      refine ⟨fun hb => ret_d hbd ?_, fun hb => ⟨⟨by rw [List.length_take]; omega, by simp only [maxLen]; omega, by omega⟩, Wk.keep [0, 1, 5, 11, 12, 13] [2] (by decide) (Nat.le_refl _) hbd ⟨lits.length - (j + 1), by omega, j + 1, hlt, rfl, ?_, ?_, ?_⟩⟩⟩
      · have hf : litsFrom vars [] lits = false := by
          cases hf : litsFrom vars [] lits with
          | false => rfl
          | true =>
            have := (litsFrom_iff.1 hf).1 _ hmem
            rw [ea] at this
            simp only [Bool.or_eq_true, decide_eq_true_eq] at hb
            omega
        rw [hf] at h; exact h
      · intro x hx
        rw [htk] at hx
        simp only [Bool.or_eq_false_iff, decide_eq_false_iff_not] at hb
        rcases List.mem_append.1 hx with hx | hx
        · exact hall x hx
        · simp only [List.mem_cons, List.not_mem_nil, or_false] at hx
          subst hx; rw [ea]; omega
      · simp only [go_sem]
      · simp only [go_sem, htk, List.map_append, List.map_cons, List.map_nil, ints]; rw [ea]
  · have hd : decide ((j : Int) < (lits.length : Int)) = false := decide_eq_false (by omega)
    have htk : lits.take j = lits := List.take_of_length_le hge
    have hj' : j = lits.length := by omega
    subst hj'
    rw [htk] at hall
    have hll : (lits.map absI).length = lits.length := List.length_map ..
    simp only [go_sem, List.length_map, hd, htk]
    rw [← hll]
    refine ac' (sort_ac (lits.map absI) (by omega) _ σ.length (some 3) (at_own 0 rfl) _ _ fun r l' hp hs => ?_)
    have hl' : l'.length = lits.length := by rw [hp.length_eq, hll]
    simp only [go_sem]
    rw [hll, ← hl']
    refine ac' (compact_ac l' (by omega) _ σ.length (some 3) (at_own 0 rfl) _ _ (fun hn => ?_) (fun k hk he n cs hn1 hn2 => ?_))
    · have hnd : l'.Nodup := nodup_of_sorted (fun p q h1 h2 => hs p q h1 (by omega)) hn
      simp only [go_sem, List.length_map, hl', Try.results87]
      refine ret_d hbd ?_
      have hf : litsFrom vars [] lits = true := litsFrom_iff.2 ⟨hall, hp.nodup_iff.1 hnd, fun _ _ _ hy => by cases hy⟩
      rw [hf] at h
      rwa [beq_self_eq_true]
    · simp only [go_sem, List.length_map, Try.results87]
      refine ret_d hbd ?_
      have hf : litsFrom vars [] lits = false := by
        cases hf : litsFrom vars [] lits with
        | false => rfl
        | true => exact (dup_of hk he (hp.nodup_iff.2 (litsFrom_iff.1 hf).2.1)).elim
      rw [hf] at h
      rwa [show ((n : Int) == (lits.length : Int)) = false by simp; omega]
end Go.Proofs.Ytpmjdaiboniagaa
