import Derived.Test.YtpmjdaiboniagaaMT6
import Derived.Test.YtpmjdaiboniagaaMT5

section PartU23
/- Unit propagation, plain: closed, order, monotonic, reasons. -/
set_option linter.unusedSimpArgs false
set_option linter.unusedVariables false
namespace Go.Proofs.Ytpmjdaiboniagaa
open Go Go.Ab

theorem valid_nz {f : Cnf} (h : validC f = true) : ∀ c ∈ f.cls, ∀ l ∈ c, l ≠ 0 := fun c hc l hl => ((validC_spec h).2 c hc l hl).1
/-- What Propagate answers, as a chain. -/
theorem propS_chain {f : Cnf} {lits : List Int} (h : (validC f && litsOk f.vars [] lits) = true) : ∃ X : List (Int × Nat), (propS f lits).1 = initT [] lits ++ X.map (·.1) ∧ (propS f lits).2.1 = (initT [] lits).map (fun _ => -1) ++ X.map (fun p => (p.2 : Int)) ∧ Chain f.cls (initT [] lits) X ∧
    (((propS f lits).2.2 = -1 ∧ ∀ c ∈ f.cls, (statS (propS f lits).1 c 0).1 = 0) ∨ ∃ i : Nat, (propS f lits).2.2 = i ∧ i < f.cls.length ∧ (statS (propS f lits).1 (f.cls.getD i []) 0).1 = 1) := by
  obtain ⟨q1, q2, _⟩ := propS_spec h
  have hv := (validC_spec (Bool.and_eq_true _ _ ▸ h : _ ∧ _).1).1
  have hl := q1.len hv.1
  rw [propS, if_pos h] at q1 hl ⊢
  obtain ⟨X, a, b, c, d⟩ := run_chain (cls := f.cls) (k := (f.vars + 1).toNat) (T := initT [] lits) (Rs := (initT [] lits).map fun _ => -1)
  refine ⟨X, a, b, c, ?_⟩
  rw [← a] at d
  refine d.imp (fun d => ⟨d.1, findS_zero (d.2.resolve_left fun e => ?_)⟩) id
  rw [a, List.length_append, List.length_map] at hl
  omega
theorem propS_lits {f : Cnf} {lits : List Int} (h : (validC f && litsOk f.vars [] lits) = true) : ∀ l ∈ lits, l ∈ (propS f lits).1 := fun l hl => by
  obtain ⟨X, a, _⟩ := propS_chain h
  rw [a]; exact List.mem_append_left _ (initT_mem.2 (.inr hl))
theorem propS_mono {f g : Cnf} {lits all : List Int} (h : (validC f && litsOk f.vars [] lits) = true) (k : (validC g && litsOk g.vars [] all) = true) (hl : ∀ l ∈ lits, l ∈ all) (hs : SubC f.cls g.cls) (hc : (propS g all).2.2 = -1) :
    (propS f lits).2.2 = -1 ∧ ∀ l ∈ (propS f lits).1, l ∈ (propS g all).1 := by
  have zf := valid_nz (Bool.and_eq_true _ _ ▸ h : _ ∧ _).1
  have zg := valid_nz (Bool.and_eq_true _ _ ▸ k : _ ∧ _).1
  obtain ⟨Y, _, _, _, e⟩ := propS_chain k
  have hC : Cl g.vars g.cls (propS g all).1 := ⟨(propS_spec k).1, by
    rcases e with e | ⟨i, e, _⟩
    · exact e.2
    · omega⟩
  obtain ⟨X, a, _, c, d⟩ := propS_chain h
  have hsub := Chain.sub zf zg hC hs c fun l q => propS_lits k l (hl l ((initT_mem.1 q).resolve_left (by simp)))
  rw [← a] at hsub
  refine ⟨?_, hsub⟩
  rcases d with d | ⟨i, d, hi, h1⟩
  · exact d.1
  · exfalso
    have hcm := getD_mem [] hi
    obtain ⟨D, hD, hDl⟩ := hs _ hcm
    obtain ⟨_, b⟩ := stat_inv1 (zf _ hcm) h1
    refine hC.not_false zg hD fun l q => Decidable.byContradiction fun n => ?_
    have : l ∈ opL (propS f lits).1 (f.cls.getD i []) := mem_opL.2 ⟨(hDl l).1 q, fun m => n (hsub _ m)⟩
    rw [b] at this; simp at this
theorem nodup_sub : ∀ {a b : List Int}, a.Nodup → (∀ x ∈ a, x ∈ b) → a.length ≤ b.length
  | [], b, _, _ => by simp
  | x :: a, b, h, hs => by
    rw [List.nodup_cons] at h
    have hx := hs x (by simp)
    have := nodup_sub (b := b.erase x) h.2 fun y hy => (List.mem_erase_of_ne (show y ≠ x from fun e => h.1 (e ▸ hy))).2 (hs y (List.mem_cons_of_mem _ hy))
    rw [List.length_erase_of_mem hx] at this
    have := List.length_pos_of_mem hx
    simp only [List.length_cons]; omega
/-- The reasons, one by one. -/
theorem propS_reason {f : Cnf} {lits : List Int} (h : (validC f && litsOk f.vars [] lits) = true) {j : Nat} (hj : j < (propS f lits).1.length) :
    (((propS f lits).2.1.getD j 0 = -1) ∧ (propS f lits).1.getD j 0 ∈ lits) ∨ ((propS f lits).1.getD j 0 ∉ lits ∧ ∃ i : Nat, (propS f lits).2.1.getD j 0 = i ∧ i < f.cls.length ∧ statS ((propS f lits).1.take j) (f.cls.getD i []) 0 = (2, (propS f lits).1.getD j 0) ∧ (i : Int) ∉ (propS f lits).2.1.drop (j + 1)) := by
  obtain ⟨X, a, b, c, _⟩ := propS_chain h
  obtain ⟨q1, q2, _⟩ := propS_spec h
  have zf := valid_nz (Bool.and_eq_true _ _ ▸ h : _ ∧ _).1
  have hnd := q1.nodup
  rw [a] at hnd hj ⊢
  rw [b]
  have hmem : ∀ x, x ∈ initT [] lits ↔ x ∈ lits := fun x => by rw [initT_mem]; simp
  generalize initT [] lits = T0 at *
  rcases Nat.lt_or_ge j T0.length with h1 | h1
  · refine .inl ⟨?_, ?_⟩
    · simp only [List.getD_eq_getElem?_getD]
      rw [List.getElem?_append_left (by simpa using h1)]
      simp [h1]
    · rw [← hmem]
      simp only [List.getD_eq_getElem?_getD]
      rw [List.getElem?_append_left h1, List.getElem?_eq_getElem h1]
      exact List.getElem_mem h1
  · right
    obtain ⟨m, rfl⟩ : ∃ m, j = T0.length + m := ⟨j - T0.length, by omega⟩
    simp only [List.length_append, List.length_map] at hj
    have hm : m < X.length := by omega
    obtain ⟨⟨x, i⟩, hx⟩ : ∃ p, X[m]? = some p := ⟨_, List.getElem?_eq_getElem hm⟩
    have e1 : (T0 ++ X.map (·.1)).getD (T0.length + m) 0 = x := by
      simp only [List.getD_eq_getElem?_getD]
      rw [List.getElem?_append_right (by omega), Nat.add_sub_cancel_left, List.getElem?_map, hx]; rfl
    have e2 : (T0.map (fun _ => (-1 : Int)) ++ X.map (fun p => (p.2 : Int))).getD (T0.length + m) 0 = i := by
      simp only [List.getD_eq_getElem?_getD]
      rw [List.getElem?_append_right (by simp), List.length_map, Nat.add_sub_cancel_left, List.getElem?_map, hx]; rfl
    have e3 : (T0 ++ X.map (·.1)).take (T0.length + m) = T0 ++ (X.take m).map (·.1) := by
      rw [List.take_append, List.take_of_length_le (by omega), Nat.add_sub_cancel_left, List.map_take]
    rw [e1, e2, e3]
    obtain ⟨g1, g2⟩ := c.at hx
    refine ⟨fun hl => ?_, i, rfl, g1, g2, fun hd => ?_⟩
    · have h2 := (hmem x).2 hl
      have h3 : x ∈ X.map (·.1) := List.mem_map.2 ⟨_, List.mem_of_getElem? hx, rfl⟩
      exact (List.nodup_append.1 hnd).2.2 x h2 x h3 rfl
    · rw [show T0.length + m + 1 = (T0.map fun _ => (-1 : Int)).length + (m + 1) by simp; omega, List.drop_append, List.drop_of_length_le (by simp), List.nil_append, Nat.add_sub_cancel_left] at hd
      obtain ⟨n, hn, e⟩ := List.getElem_of_mem hd
      simp only [List.length_drop, List.length_map] at hn
      rw [List.getElem_drop, List.getElem_map] at e
      obtain ⟨⟨y, i'⟩, hy⟩ : ∃ p, X[m + 1 + n]? = some p := ⟨_, List.getElem?_eq_getElem (by omega)⟩
      have hi' : i' = i := by
        have h4 : X[m + 1 + n] = (y, i') := by
          have := List.getElem?_eq_getElem (l := X) (i := m + 1 + n) (by omega)
          rw [this] at hy; exact Option.some.inj hy
        rw [h4] at e; exact Int.ofNat.inj e
      subst hi'
      obtain ⟨_, g4⟩ := c.at hy
      have hcm := zf _ (getD_mem [] g1)
      obtain ⟨s1, _⟩ := stat_inv hcm g4
      obtain ⟨_, s2⟩ := stat_inv hcm g2
      have hxc : x ∈ opL (T0 ++ (X.take m).map (·.1)) (f.cls.getD i' []) := by rw [s2]; simp
      refine satB_false.1 s1 x (mem_opL.1 hxc).1 (List.mem_append_right _ (List.mem_map.2 ⟨(x, i'), ?_, rfl⟩))
      exact List.mem_of_getElem? (i := m) (by rw [List.getElem?_take, if_pos (by omega), hx])
end Go.Proofs.Ytpmjdaiboniagaa
end PartU23

section PartU24
/- Unit propagation, plain: what Hints answers. -/
set_option linter.unusedSimpArgs false
set_option linter.unusedVariables false
namespace Go.Proofs.Ytpmjdaiboniagaa
open Go Go.Ab

/-- What is wanted, and the clauses that are needed, from the chain's end on. -/
def nd (cls : List (List Int)) (W0 : List Int) : List (Int × Nat) → List Int × List Nat
  | [] => (W0, [])
  | (x, i) :: X => if x ∈ (nd cls W0 X).1 then (wantW (nd cls W0 X).1 (cls.getD i []), i :: (nd cls W0 X).2) else nd cls W0 X
theorem nd_cons {cls : List (List Int)} {W0 : List Int} {x : Int} {i : Nat} {X : List (Int × Nat)} : nd cls W0 ((x, i) :: X) = if x ∈ (nd cls W0 X).1 then (wantW (nd cls W0 X).1 (cls.getD i []), i :: (nd cls W0 X).2) else nd cls W0 X := rfl
theorem nd_sub {cls : List (List Int)} {W0 : List Int} : ∀ {X : List (Int × Nat)}, ∀ i ∈ (nd cls W0 X).2, i ∈ X.map (·.2)
  | [], i, h => by simp [nd] at h
  | (x, m) :: X, i, h => by
    rw [nd_cons] at h
    split at h
    · rcases List.mem_cons.1 h with rfl | q
      · simp
      · exact List.mem_cons_of_mem _ (nd_sub i q)
    · exact List.mem_cons_of_mem _ (nd_sub i h)
/-- The program's pass over the trail, last first. -/
theorem needS_nd {cls : List (List Int)} {W0 : List Int} {c : Int} : ∀ {X : List (Int × Nat)} (qs : List (Int × Int)), (X.map (·.2)).Nodup → c ∉ X.map (fun p => (p.2 : Int)) →
    needS cls W0 [c] ((X.map fun p => (p.1, (p.2 : Int))).reverse ++ qs) = needS cls (nd cls W0 X).1 (c :: (nd cls W0 X).2.reverse.map (fun n : Nat => (n : Int))) qs
  | [], qs, _, _ => rfl
  | (x, i) :: X, qs, hn, hc => by
    simp only [List.map_cons, List.nodup_cons] at hn
    simp only [List.map_cons, List.mem_cons, not_or] at hc
    rw [List.map_cons, List.reverse_cons, List.append_assoc, needS_nd _ hn.2 hc.2, List.singleton_append, needS]
    rw [nd_cons]
    by_cases h : x ∈ (nd cls W0 X).1
    · have hi : ¬ (i : Int) ∈ c :: (nd cls W0 X).2.reverse.map (fun n : Nat => (n : Int)) := by
        rw [List.mem_cons, not_or]
        refine ⟨fun e => hc.1 e.symm, fun q => ?_⟩
        obtain ⟨n, q1, q2⟩ := List.mem_map.1 q
        have : n = i := Int.ofNat.inj q2
        subst this
        exact hn.1 (nd_sub n (List.mem_reverse.1 q1))
      rw [if_pos ⟨by omega, h⟩, if_pos h, if_neg hi]
      simp
    · rw [if_neg (fun q => h q.2), if_neg h]
theorem needS_neg {cls : List (List Int)} : ∀ {ps : List (Int × Int)} {W acc : List Int}, (∀ p ∈ ps, p.2 < 0) → needS cls W acc ps = acc
  | [], _, _, _ => rfl
  | (l, r) :: ps, W, acc, h => by
    have := h _ (List.mem_cons_self ..)
    rw [needS, if_neg (by simp only at this; omega), needS_neg fun p hp => h p (List.mem_cons_of_mem _ hp)]
theorem collS_skip {acc : List Int} : ∀ {Rs Q : List Int}, (∀ r ∈ Rs, r ∉ acc) → collS acc (Rs ++ Q) = collS acc Q
  | [], _, _ => rfl
  | r :: Rs, Q, h => by
    rw [List.cons_append, collS, if_neg (h r (by simp)), collS_skip fun x hx => h x (List.mem_cons_of_mem _ hx)]
theorem collS_filter : ∀ {Rs acc : List Int}, Rs.Nodup → collS acc Rs = Rs.filter fun r => decide (r ∈ acc)
  | [], _, _ => rfl
  | r :: Rs, acc, h => by
    rw [List.nodup_cons] at h
    unfold collS
    by_cases k : r ∈ acc
    · rw [if_pos k, List.filter_cons_of_pos (by simpa using k), collS_filter h.2]
      congr 1
      refine List.filter_congr fun x hx => ?_
      rw [decide_eq_decide]
      exact List.mem_erase_of_ne fun e => h.1 (e ▸ hx)
    · rw [if_neg k, List.filter_cons_of_neg (by simpa using k), collS_filter h.2]
theorem nd_filter {cls : List (List Int)} {W0 : List Int} {c : Int} : ∀ {X : List (Int × Nat)}, (X.map (·.2)).Nodup → c ∉ X.map (fun p => (p.2 : Int)) → ∀ {acc : List Int}, (∀ n : Nat, n ∈ X.map (·.2) → ((n : Int) ∈ acc ↔ n ∈ (nd cls W0 X).2)) →
    (X.map fun p => (p.2 : Int)).filter (fun r => decide (r ∈ acc)) = (nd cls W0 X).2.map (fun n : Nat => (n : Int))
  | [], _, _, _, _ => rfl
  | (x, i) :: X, hn, hc, acc, ha => by
    simp only [List.map_cons, List.nodup_cons] at hn
    simp only [List.map_cons, List.mem_cons, not_or] at hc
    have h0 := ha i (by simp)
    have ih := nd_filter (cls := cls) (W0 := W0) hn.2 hc.2 (acc := acc) fun n hn' => by
      rw [ha n (by simp at hn' ⊢; exact .inr hn')]
      rw [nd_cons]
      split
      · rw [List.mem_cons]
        exact ⟨fun k => k.resolve_left fun e => hn.1 (e ▸ hn'), .inr⟩
      · exact Iff.rfl
    rw [List.map_cons]
    rw [nd_cons] at h0 ⊢
    by_cases h : x ∈ (nd cls W0 X).1
    · rw [if_pos h] at h0 ⊢
      rw [List.filter_cons_of_pos (by simpa using h0.2 (by simp)), ih]; rfl
    · rw [if_neg h] at h0 ⊢
      have : (i : Int) ∉ acc := fun q => hn.1 (nd_sub i (h0.1 q))
      rw [List.filter_cons_of_neg (by simpa using this), ih]
/-- The chain's reasons are distinct, and none of them is falsified at its end. -/
theorem Chain.nodup {cls : List (List Int)} (hc : ∀ c ∈ cls, ∀ l ∈ c, l ≠ 0) : ∀ {X : List (Int × Nat)} {T : List Int}, Chain cls T X → (X.map (·.2)).Nodup ∧ (∀ n ∈ X.map (·.2), n < cls.length ∧ satB T (cls.getD n []) = false ∧ satB (T ++ X.map (·.1)) (cls.getD n []) = true)
  | [], T, _ => by simp
  | (x, i) :: X, T, h => by
    cases h with
    | cons hi hs h =>
      obtain ⟨a, b⟩ := Chain.nodup hc h
      obtain ⟨s1, s2⟩ := stat_inv (hc _ (getD_mem [] hi)) hs
      have hx : x ∈ cls.getD i [] := (mem_opL.1 (by rw [s2]; simp : x ∈ opL T (cls.getD i []))).1
      have sx : ∀ S, x ∈ S → satB S (cls.getD i []) = true := fun S hS => by
        simp only [satB, List.any_eq_true, decide_eq_true_eq]; exact ⟨x, hx, hS⟩
      refine ⟨?_, fun n hn => ?_⟩
      · rw [List.map_cons, List.nodup_cons]
        refine ⟨fun q => ?_, a⟩
        have := (b i q).2.1
        rw [sx _ (by simp)] at this; cases this
      · rcases (show n = i ∨ n ∈ X.map (·.2) by simpa using hn) with rfl | q
        · exact ⟨hi, s1, sx _ (by simp)⟩
        · obtain ⟨b1, b2, b3⟩ := b n q
          exact ⟨b1, satB_false.2 fun l hl k => satB_false.1 b2 l hl (List.mem_append_left _ k), by simpa using b3⟩
/-- What the hints say, one after the other. -/
def HintOk (cls : List (List Int)) (c : Nat) : List Int → List Nat → Prop
  | K, [] => (statS K (cls.getD c []) 0).1 = 1
  | K, i :: S => i < cls.length ∧ ∃ x, statS K (cls.getD i []) 0 = (2, x) ∧ (∃ r ∈ S ++ [c], -x ∈ cls.getD r []) ∧ HintOk cls c (K ++ [x]) S
theorem nd_want {cls : List (List Int)} {c : Nat} : ∀ {X : List (Int × Nat)} {w : Int}, w ∈ (nd cls (wantW [] (cls.getD c [])) X).1 → ∃ r ∈ (nd cls (wantW [] (cls.getD c [])) X).2 ++ [c], -w ∈ cls.getD r []
  | [], w, h => ⟨c, by simp, by simpa [nd, mem_wantW] using h⟩
  | (x, i) :: X, w, h => by
    rw [nd_cons] at h ⊢
    split at h
    · rename_i k
      rw [if_pos k]
      rcases mem_wantW.1 h with q | q
      · obtain ⟨r, a, b⟩ := nd_want q
        exact ⟨r, List.mem_cons_of_mem _ a, b⟩
      · exact ⟨i, by simp, q⟩
    · rename_i k
      rw [if_neg k]
      exact nd_want h
theorem hint_ok {cls : List (List Int)} (hc : ∀ c ∈ cls, ∀ l ∈ c, l ≠ 0) {c : Nat} (hci : c < cls.length) : ∀ {X : List (Int × Nat)} {T K : List Int}, Chain cls T X → (statS (T ++ X.map (·.1)) (cls.getD c []) 0).1 = 1 → (∀ l ∈ K, l ∈ T) → (∀ w ∈ (nd cls (wantW [] (cls.getD c [])) X).1, w ∈ T → w ∈ K) →
    HintOk cls c K (nd cls (wantW [] (cls.getD c [])) X).2
  | [], T, K, _, h1, hK, hW => by
    simp only [List.map_nil, List.append_nil] at h1
    exact stat_congr1 (hc _ (getD_mem [] hci)) (fun l hl => ⟨hK _, fun q => hW _ (by simpa [nd, mem_wantW] using hl) q⟩) (fun l _ q => hK l q) h1
  | (x, i) :: X, T, K, h, h1, hK, hW => by
    have h1' : (statS (T ++ [x] ++ X.map (·.1)) (cls.getD c []) 0).1 = 1 := by simpa using h1
    cases h with
    | cons hi hs h =>
      rw [nd_cons] at hW ⊢
      by_cases k : x ∈ (nd cls (wantW [] (cls.getD c [])) X).1
      · rw [if_pos k] at hW ⊢
        have hz := hc _ (getD_mem [] hi)
        have hst : statS K (cls.getD i []) 0 = (2, x) := stat_congr hz (fun l hl => ⟨hK _, fun q => hW _ (mem_wantW.2 (.inr (by simpa using hl))) q⟩) (fun l _ q => hK l q) hs
        refine ⟨hi, x, hst, nd_want k, hint_ok hc hci h h1' ?_ fun w hw hT => ?_⟩
        · intro l hl
          rcases List.mem_append.1 hl with q | q
          · exact List.mem_append_left _ (hK l q)
          · exact List.mem_append_right _ q
        · rcases List.mem_append.1 hT with q | q
          · exact List.mem_append_left _ (hW w (mem_wantW.2 (.inl hw)) q)
          · exact List.mem_append_right _ q
      · rw [if_neg k] at hW ⊢
        refine hint_ok hc hci h h1' (fun l hl => List.mem_append_left _ (hK l hl)) fun w hw hT => ?_
        rcases List.mem_append.1 hT with q | q
        · exact hW w hw q
        · rw [List.mem_singleton] at q; exact absurd (q ▸ hw) k
theorem nd_len {cls : List (List Int)} {W0 : List Int} : ∀ {X : List (Int × Nat)}, (nd cls W0 X).2.length ≤ X.length
  | [] => by simp [nd]
  | (x, i) :: X => by
    have := nd_len (cls := cls) (W0 := W0) (X := X)
    rw [nd_cons]
    split <;> simp <;> omega
theorem nd_lt {cls : List (List Int)} (hc : ∀ c ∈ cls, ∀ l ∈ c, l ≠ 0) {W0 : List Int} {X : List (Int × Nat)} {T : List Int} (h : Chain cls T X) : ∀ i ∈ (nd cls W0 X).2, i < cls.length := fun i hi => ((h.nodup hc).2 i (nd_sub i hi)).1
/-- What Hints answers is a chain of needed clauses. -/
theorem hintS_spec {f : Cnf} {lits : List Int} (h : (validC f && litsOk f.vars [] lits) = true) :
    ((propS f lits).2.2 = -1 ∧ hintS f lits = ([], 4)) ∨ ∃ (c : Nat) (S : List Nat), (propS f lits).2.2 = c ∧ hintS f lits = ((S ++ [c]).map (fun n : Nat => (n : Int)), 0) ∧ c < f.cls.length ∧ (S.length : Int) ≤ f.vars ∧ HintOk f.cls c lits S := by
  have hz := valid_nz (Bool.and_eq_true _ _ ▸ h : _ ∧ _).1
  have hv := (validC_spec (Bool.and_eq_true _ _ ▸ h : _ ∧ _).1).1
  obtain ⟨q1, q2, _⟩ := propS_spec h
  have hl := q1.len hv.1
  obtain ⟨X, a, b, hX, d⟩ := propS_chain h
  rcases d with d | ⟨c, d, hci, h1⟩
  · exact .inl ⟨d.1, by rw [hintS, if_pos h, if_pos (by omega)]⟩
  · right
    rw [a] at h1 hl
    rw [List.length_append, List.length_map] at hl
    have hnd := hX.nodup hz
    have hcX : c ∉ X.map (·.2) := fun q => by
      have := (hnd.2 c q).2.2
      rw [(stat_inv1 (hz _ (getD_mem [] hci)) h1).1] at this; cases this
    have hcX' : (c : Int) ∉ X.map (fun p => (p.2 : Int)) := fun q => by
      obtain ⟨p, q1, q2⟩ := List.mem_map.1 q
      exact hcX (List.mem_map.2 ⟨p, q1, Int.ofNat.inj q2⟩)
    refine ⟨c, (nd f.cls (wantW [] (f.cls.getD c [])) X).2, d, ?_, hci, ?_, ?_⟩
    · rw [hintS, if_pos h, if_neg (by omega), d, a, b]
      have ez : (initT [] lits ++ X.map (·.1)).zip ((initT [] lits).map (fun _ => (-1 : Int)) ++ X.map (fun p => (p.2 : Int))) = (initT [] lits).zip ((initT [] lits).map fun _ => (-1 : Int)) ++ X.map (fun p => (p.1, (p.2 : Int))) := by
        rw [List.zip_append (by simp)]
        congr 1
        rw [List.zip_map, List.zip_eq_zipWith, List.map_zipWith]
        simp [List.zipWith_self]
      rw [ez, List.reverse_append, Int.toNat_natCast, needS_nd _ hnd.1 hcX', needS_neg, collS_skip, collS_filter, nd_filter (cls := f.cls) (W0 := wantW [] (f.cls.getD c [])) hnd.1 hcX']
      · simp
      · intro n hn
        rw [List.mem_cons, List.mem_map]
        constructor
        · rintro (e | ⟨m, q1, q2⟩)
          · exact absurd (Int.ofNat.inj e ▸ hn) hcX
          · rw [← Int.ofNat.inj q2]; exact List.mem_reverse.1 q1
        · exact fun q => .inr ⟨n, List.mem_reverse.2 q, rfl⟩
      · have := hnd.1
        rw [show X.map (fun p => (p.2 : Int)) = (X.map (·.2)).map (fun n : Nat => (n : Int)) by simp [List.map_map, Function.comp_def]]
        exact List.Pairwise.map _ (fun x y hxy e => hxy (Int.ofNat.inj e)) this
      · intro r hr
        obtain ⟨_, _, rfl⟩ := List.mem_map.1 hr
        rw [List.mem_cons, not_or]
        refine ⟨by omega, fun q => ?_⟩
        obtain ⟨m, _, q2⟩ := List.mem_map.1 q
        omega
      · intro p hp
        rw [List.mem_reverse] at hp
        have := (List.of_mem_zip (a := p.1) (b := p.2) hp).2
        obtain ⟨_, _, e⟩ := List.mem_map.1 this
        omega
    · have := nd_len (cls := f.cls) (W0 := wantW [] (f.cls.getD c [])) (X := X)
      omega
    · exact hint_ok hz hci hX h1 (fun l hl => initT_mem.2 (.inr hl)) fun w _ hw => (initT_mem.1 hw).resolve_left (by simp)
end Go.Proofs.Ytpmjdaiboniagaa
end PartU24

section PartU31
/- The reference's Hints, plain: it answers as the program does. -/
set_option linter.unusedSimpArgs false
set_option linter.unusedVariables false
namespace Go.Proofs.Ytpmjdaiboniagaa
open Go Go.Ab

/-- The reference's pass over the trail, last first: the reasons that it takes. -/
def backS (cls : List (List Int)) : List Int → List Int → List (Int × Int) → List Int
  | _, B, [] => B
  | N, B, (l, r) :: ps => if -l ∈ N ∧ 0 ≤ r then backS cls (N ++ (cls.getD r.toNat []).filter fun y => y != l) (B ++ [r]) ps else backS cls N B ps
/-- The same from the chain's end on. -/
def ndR (cls : List (List Int)) (N0 : List Int) : List (Int × Nat) → List Int × List Nat
  | [] => (N0, [])
  | (x, i) :: X => if -x ∈ (ndR cls N0 X).1 then ((ndR cls N0 X).1 ++ (cls.getD i []).filter fun y => y != x, i :: (ndR cls N0 X).2) else ndR cls N0 X
theorem ndR_cons {cls : List (List Int)} {N0 : List Int} {x : Int} {i : Nat} {X : List (Int × Nat)} : ndR cls N0 ((x, i) :: X) = if -x ∈ (ndR cls N0 X).1 then ((ndR cls N0 X).1 ++ (cls.getD i []).filter fun y => y != x, i :: (ndR cls N0 X).2) else ndR cls N0 X := rfl
theorem backS_nd {cls : List (List Int)} {N0 : List Int} : ∀ {X : List (Int × Nat)} (B : List Int) (qs : List (Int × Int)),
    backS cls N0 B ((X.map fun p => (p.1, (p.2 : Int))).reverse ++ qs) = backS cls (ndR cls N0 X).1 (B ++ (ndR cls N0 X).2.reverse.map (fun n : Nat => (n : Int))) qs
  | [], B, qs => by simp [ndR]
  | (x, i) :: X, B, qs => by
    rw [List.map_cons, List.reverse_cons, List.append_assoc, backS_nd, List.singleton_append, backS, ndR_cons]
    by_cases h : -x ∈ (ndR cls N0 X).1
    · rw [if_pos ⟨h, by omega⟩, if_pos h]
      simp
    · rw [if_neg (fun q => h q.1), if_neg h]
theorem backS_neg {cls : List (List Int)} : ∀ {ps : List (Int × Int)} {N B : List Int}, (∀ p ∈ ps, p.2 < 0) → backS cls N B ps = B
  | [], _, _, _ => rfl
  | (l, r) :: ps, N, B, h => by
    have := h _ (List.mem_cons_self ..)
    rw [backS, if_neg (by simp only at this; omega), backS_neg fun p hp => h p (List.mem_cons_of_mem _ hp)]
theorem ndR_eq {cls : List (List Int)} {C : List Int} : ∀ {X : List (Int × Nat)}, (∀ x ∈ X.map (·.1), ∀ y ∈ X.map (·.1), x ≠ -y) →
    (ndR cls C X).2 = (nd cls (wantW [] C) X).2 ∧ ∀ y : Int, (∀ x ∈ X.map (·.1), y ≠ -x) → (y ∈ (nd cls (wantW [] C) X).1 ↔ -y ∈ (ndR cls C X).1)
  | [], _ => ⟨rfl, fun y _ => by simp [nd, ndR, mem_wantW]⟩
  | (x, i) :: X, h => by
    obtain ⟨a, b⟩ := ndR_eq (cls := cls) (C := C) (X := X) fun u hu v hv => h u (List.mem_cons_of_mem _ hu) v (List.mem_cons_of_mem _ hv)
    have hx := b x fun v hv => h x (by simp) v (List.mem_cons_of_mem _ hv)
    rw [ndR_cons, nd_cons]
    by_cases k : x ∈ (nd cls (wantW [] C) X).1
    · rw [if_pos k, if_pos (hx.1 k)]
      refine ⟨by rw [a], fun y hy => ?_⟩
      have hb := b y fun v hv => hy v (List.mem_cons_of_mem _ hv)
      have hyx : -y ≠ x := fun e => hy x (by simp) (by omega)
      rw [mem_wantW, List.mem_append, List.mem_filter, hb]
      simp [hyx]
    · rw [if_neg k, if_neg (fun q => k (hx.2 q))]
      exact ⟨a, fun y hy => b y fun v hv => hy v (List.mem_cons_of_mem _ hv)⟩
/-- What the reference's Hints answers. -/
def hintR (f : Cnf) (lits : List Int) : List Int × Int :=
  if (validC f && litsOk f.vars [] lits) = true then
    (if (propS f lits).2.2 < 0 then ([], 4) else
      ((backS f.cls (f.cls.getD (propS f lits).2.2.toNat []) [] ((propS f lits).1.zip (propS f lits).2.1).reverse).reverse ++ [(propS f lits).2.2], 0))
  else ([], 1)
theorem zip_chain (T0 : List Int) (X : List (Int × Nat)) : (T0 ++ X.map (·.1)).zip (T0.map (fun _ => (-1 : Int)) ++ X.map (fun p => (p.2 : Int))) = T0.zip (T0.map fun _ => (-1 : Int)) ++ X.map (fun p => (p.1, (p.2 : Int))) := by
  rw [List.zip_append (by simp)]
  congr 1
  rw [List.zip_map, List.zip_eq_zipWith, List.map_zipWith]
  simp [List.zipWith_self]
theorem zip_neg (T0 : List Int) : ∀ p ∈ (T0.zip (T0.map fun _ => (-1 : Int))).reverse, p.2 < 0 := fun p hp => by
  rw [List.mem_reverse] at hp
  have := (List.of_mem_zip (a := p.1) (b := p.2) hp).2
  obtain ⟨_, _, e⟩ := List.mem_map.1 this
  omega
theorem hintR_eq (f : Cnf) (lits : List Int) : hintR f lits = hintS f lits := by
  by_cases h : (validC f && litsOk f.vars [] lits) = true
  · have hz := valid_nz (Bool.and_eq_true _ _ ▸ h : _ ∧ _).1
    obtain ⟨q1, q2, _⟩ := propS_spec h
    obtain ⟨X, a, b, hX, d⟩ := propS_chain h
    rw [hintR, hintS, if_pos h, if_pos h]
    rcases d with d | ⟨c, d, hci, h1⟩
    · rw [if_pos (by omega), if_pos (by omega)]
    · rw [if_neg (by omega), if_neg (by omega)]
      rw [a] at h1
      have hnd := hX.nodup hz
      have hcX : c ∉ X.map (·.2) := fun q => by
        have := (hnd.2 c q).2.2
        rw [(stat_inv1 (hz _ (getD_mem [] hci)) h1).1] at this; cases this
      have hcX' : (c : Int) ∉ X.map (fun p => (p.2 : Int)) := fun q => by
        obtain ⟨p, q1, q2⟩ := List.mem_map.1 q
        exact hcX (List.mem_map.2 ⟨p, q1, Int.ofNat.inj q2⟩)
      have hneg : ∀ x ∈ X.map (·.1), ∀ y ∈ X.map (·.1), x ≠ -y := fun x hx y hy e => by
        have h2 := q1.rng y (by rw [a]; exact List.mem_append_right _ hy)
        exact h2.2.2.2 (by rw [← e, a]; exact List.mem_append_right _ hx)
      rw [d, a, b, zip_chain, List.reverse_append, Int.toNat_natCast, needS_nd _ hnd.1 hcX', needS_neg (zip_neg _), backS_nd, backS_neg (zip_neg _), (ndR_eq hneg).1, collS_skip, collS_filter, nd_filter (cls := f.cls) (W0 := wantW [] (f.cls.getD c [])) hnd.1 hcX']
      · simp
      · intro n hn
        rw [List.mem_cons, List.mem_map]
        constructor
        · rintro (e | ⟨m, q1, q2⟩)
          · exact absurd (Int.ofNat.inj e ▸ hn) hcX
          · rw [← Int.ofNat.inj q2]; exact List.mem_reverse.1 q1
        · exact fun q => .inr ⟨n, List.mem_reverse.2 q, rfl⟩
      · have := hnd.1
        rw [show X.map (fun p => (p.2 : Int)) = (X.map (·.2)).map (fun n : Nat => (n : Int)) by simp [List.map_map, Function.comp_def]]
        exact List.Pairwise.map _ (fun x y hxy e => hxy (Int.ofNat.inj e)) this
      · intro r hr
        obtain ⟨_, _, rfl⟩ := List.mem_map.1 hr
        rw [List.mem_cons, not_or]
        refine ⟨by omega, fun q => ?_⟩
        obtain ⟨m, _, q2⟩ := List.mem_map.1 q
        omega
  · rw [hintR, hintS, if_neg h, if_neg h]
theorem usB_eq (v : Int) (lits : List Int) : usB v lits lits = litsOk v [] lits := by
  rw [Bool.eq_iff_iff]
  refine ⟨fun h => usB_ok h (fun _ h => h) (by simp), fun h => ?_⟩
  have := litsOk_spec h
  unfold usB
  rw [List.all_eq_true]
  intro x hx
  obtain ⟨a, b, c, _, d⟩ := this x hx
  simp only [Bool.and_eq_true, Bool.not_eq_true', Bool.or_eq_false_iff, beq_eq_false_iff_ne, decide_eq_false_iff_not]
  exact ⟨⟨⟨a, by omega⟩, by omega⟩, d⟩
end Go.Proofs.Ytpmjdaiboniagaa
end PartU31

section PartU29
/- The reference's step, Run, Propagate. -/
set_option linter.unusedSimpArgs false
set_option linter.unusedVariables false
set_option maxRecDepth 100000
namespace Go.Proofs.Ytpmjdaiboniagaa
open Go Go.Ab

abbrev trlD (T Rs : List Int) (c : Int) : D := .agg [isD T, isD Rs, iD c]
/-- One step of the reference. -/
def stepR (T Rs : List Int) (c : Int) : Option (Nat × Int × Int) → List Int × List Int × Int × Bool
  | none => (T, Rs, c, false)
  | some (i, s, x) => if s = 1 then (T, Rs, (i : Int), false) else (T ++ [x], Rs ++ [(i : Int)], c, true)
abbrev stepA (r : List Int × List Int × Int × Bool) : A := .tup [.d (trlD r.1 r.2.1 r.2.2.1), db r.2.2.2]
set_option maxHeartbeats 4000000 in
theorem step23_ac (f : Cnf) (T Rs : List Int) (c : Int) (hn : f.cls.length ≤ 40) (hw : ∀ c ∈ f.cls, c.length ≤ 1000) (hcl : ∀ c ∈ f.cls, ∀ l ∈ c, -8000 ≤ l ∧ l ≤ 8000) (hT : T.length ≤ 100000) (hR : Rs.length ≤ 100000) (σ : St) (G : Glob) (R : A → St → Prop) (h : R (stepA (stepR T Rs c (findS T f.cls 0))) σ) : AC Try.prog G 81 [.d (cnfD f), .d (trlD T Rs c)] σ R := by
  refine ac_enterC [11] mixed Try.func81 rfl Try.ntmps81 (by simp only [go_sem]) fun hbd => ?_
  simp only [List.length_cons, List.length_nil, Nat.reduceAdd, Nat.reduceSub, List.replicate_succ, List.replicate_zero, List.cons_append, List.nil_append]
  simp only [cnfD, clsD, isD, go_sem, List.length_map]
  refine aw_loop (fun m fr st => ∃ j : Nat, j ≤ f.cls.length ∧ m = f.cls.length - j ∧ R (stepA (stepR T Rs c (findS T (f.cls.drop j) j))) σ ∧ fr = [.any, .any, .ref σ.length 0, .ref (σ.length + 1) 0, .ref (σ.length + 2) 0, .any, dn j, .any, .any, .any, .any, .any, .any, .any, .any, .any, .any, .any, .any, .any, .any, .any, .any, .any, .any, .any, .any, .any, .any, .any, .any, .any, .any, .any, .any, .any, .any, .any, .any, .any, .any, .any, .any, .any, .any, .any, .any, .any, .any, .any, .any, .any] ∧
    st = σ ++ [some (.cells [.d (iD f.vars), .d (clsD f.cls)]), some (.cells [.d (isD T), .d (isD Rs), di c]), some (.cells [.d .nils, .d .nils, di 0])]) f.cls.length _
    (Wk.mask [2, 3, 4, 6] ⟨0, by omega, rfl, h, rfl, rfl⟩) ?_
  rintro m fr st ⟨j, hj, hm, hRj, rfl, rfl⟩
  rcases Nat.lt_or_ge j f.cls.length with hlt | hge
  · have hd : decide ((j : Int) < (f.cls.length : Int)) = true := decide_eq_true (by omega)
    have w2 := wrapS j (by omega)
    have e1 := isD_getD hlt
    have hcm := getD_mem [] hlt
    have hck := hcl _ hcm
    have hcw := hw _ hcm
    rw [drop_getD [] hlt, findS] at hRj
    generalize f.cls.getD j [] = C at e1 hck hcw hRj
    simp only [isD, clsD, go_sem, List.length_map, hd, e1, w2]
    refine ⟨⟨by omega, by omega⟩, ac' (status_ac C T (by simp only [reachBytes]; omega) (by simp only [reachBytes]; omega) hck _ _ _ ?_)⟩
    have hwho := statS_who (T := T) (c := C) (o := 0)
    obtain ⟨⟨s, x⟩, hs⟩ : ∃ r, statS T C 0 = r := ⟨_, rfl⟩
    rw [hs] at hwho hRj ⊢
    simp only at hwho hRj
    rcases hwho with rfl | rfl | ⟨rfl, _, _⟩
    · have d1 : ((0 : Int) == 1) = false := rfl
      have d2 : ((0 : Int) == 2) = false := rfl
      rw [if_pos rfl] at hRj
      simp only [isD, clsD, go_sem, List.length_map, w2, d1, d2]
      exact Wk.mask [2, 3, 4, 6] ⟨f.cls.length - (j + 1), by omega, j + 1, hlt, rfl, hRj, rfl, rfl⟩
    · have d1 : ((1 : Int) == 1) = true := rfl
      rw [if_neg (by decide), stepR, if_pos rfl] at hRj
      simp only [isD, clsD, go_sem, List.length_map, w2, d1, Try.results81]
      exact ret_bd hbd rfl hRj
    · have d1 : ((2 : Int) == 1) = false := rfl
      have d2 : ((2 : Int) == 2) = true := rfl
      rw [if_neg (by decide), stepR, if_neg (by decide)] at hRj
      simp only [isD, clsD, go_sem, List.length_map, w2, d1, d2, flat_isD, Nat.mul_one]
      refine ⟨⟨by simp only [maxLen]; omega, by omega⟩, ⟨by simp only [maxLen]; omega, by omega⟩, aw_cut (fun fr st => fr = [.any, .any, .any, .ref (σ.length + 1) 0, .ref (σ.length + 2) 0, .any, .any, .any, .any, .any, .any, .any, .any, .any, .any, .any, .any, .any, .any, .any, .any, .any, .any, .any, .any, .any, .any, .any, .any, .any, .any, .any, .any, .any, .any, .any, .any, .any, .any, .any, .any, .any, .any, .any, .any, .any, .any, .any, .any, .any, .any, .any] ∧ st = σ ++ [some (.cells [.d (iD f.vars), .d (clsD f.cls)]), some (.cells [.d (isD (T ++ [x])), .d (isD (Rs ++ [(j : Int)])), di c]), some (.cells [.d .nils, .d .nils, di 0])]) ?_ ?_⟩
      · simp only [isD, clsD, go_sem, List.length_map, w2, d1, d2, flat_isD, Nat.mul_one]
        refine ⟨⟨by simp only [maxLen]; omega, by omega⟩, ⟨by simp only [maxLen]; omega, by omega⟩, Wk.pre [3, 4] ?_⟩
        simp only [go_sem]
        have o1 : (T.map fun x => A.d (iD x)) ++ [di x] = (T ++ [x]).map fun x => A.d (iD x) := by simp
        have o2 : (Rs.map fun x => A.d (iD x)) ++ [dn j] = (Rs ++ [(j : Int)]).map fun x => A.d (iD x) := by simp
        refine ⟨_, _, ((Weak.freezeIn (σ := σ) 6 1 1 0 ((T ++ [x]).map iD) rfl (o1 ▸ lies_ints _) rfl (by decide)).trans (Weak.freezeIn (σ := σ) 10 1 1 0 ((Rs ++ [(j : Int)]).map iD) rfl (o2 ▸ lies_ints _) rfl (by decide))).trans (Weak.keep (σ := σ) [0, 1, 2] (by decide) (Nat.le_refl _) hbd), ?_, ?_⟩
        · simp only [go_sem]
        · simp only [go_sem, List.length_map, List.length_append, List.length_singleton, false_and, ↓reduceIte]
      · rintro fr st ⟨rfl, rfl⟩
        simp only [isD, clsD, go_sem, List.length_map, Try.results81]
        exact ret_bd hbd rfl hRj
  · have hd : decide ((j : Int) < (f.cls.length : Int)) = false := decide_eq_false (by omega)
    rw [List.drop_eq_nil_of_le hge, findS, stepR] at hRj
    simp only [isD, clsD, go_sem, List.length_map, hd, Try.results81]
    exact ret_bd hbd rfl hRj
/-- What Run answers. -/
abbrev runA (f : Cnf) (lits : List Int) : A := .d (trlD (runS f.cls (f.vars + 1).toNat (initT [] lits) ((initT [] lits).map fun _ => -1)).1 (runS f.cls (f.vars + 1).toNat (initT [] lits) ((initT [] lits).map fun _ => -1)).2.1 (runS f.cls (f.vars + 1).toNat (initT [] lits) ((initT [] lits).map fun _ => -1)).2.2)
set_option maxHeartbeats 4000000 in
theorem run58_ac (f : Cnf) (lits : List Int) (hv : validC f = true) (hl : litsOk f.vars [] lits = true) (hn : f.cls.length ≤ 40) (hw : ∀ c ∈ f.cls, c.length ≤ 1000) (hll : lits.length ≤ reachBytes) (σ : St) (G : Glob) (R : A → St → Prop) (h : R (runA f lits) σ) : AC Try.prog G 58 [.d (cnfD f), .d (isD lits)] σ R := by
  obtain ⟨hv0, hcl⟩ := validC_spec hv
  have hls := litsOk_spec hl
  have hT0 : TOk f.vars (initT [] lits) := initT_ok (TOk.nil _) fun l hl => ⟨(hls l hl).1, (hls l hl).2.1, (hls l hl).2.2.1, (hls l hl).2.2.2.2, by simp⟩
  refine ac_enterC [9] mixed Try.func58 rfl Try.ntmps58 (by simp only [go_sem]) fun hbd => ?_
  simp only [List.length_cons, List.length_nil, Nat.reduceAdd, Nat.reduceSub, List.replicate_succ, List.replicate_zero, List.cons_append, List.nil_append]
  simp only [cnfD, clsD, isD, go_sem, List.length_map]
  refine aw_cut (fun fr st => fr = [.any, .any, .ref σ.length 0, .any, .ref (σ.length + 1) 0, .ref (σ.length + 2) 0, .any, .any, .any, .any, .any, .any, .any, .any, .any, .any, .any, .any, .any, .any, .any, .any, .any, .any, .any, .any, .any, .any, .any, .any, .any, .any, .any, .any, .any, .any, .any, .any, .any, .any, .any, .any, .any, .any, .any, .any, .any, .any, .any, .any, .any, .any, .any, .any, .any, .any, .any, .any] ∧ st = σ ++ [some (.cells [.d (iD f.vars), .d (clsD f.cls)]), some (.cells [.d .nils, .d .nils, di 0]), some (.cells [.d (isD (initT [] lits)), .d (isD ((initT [] lits).map fun _ => -1)), di (-1)])]) ?_ ?_
  · simp only [isD, clsD, go_sem]
    refine aw_loop (fun m fr st => ∃ (j : Nat) (T : List Int), j ≤ lits.length ∧ m = lits.length - j ∧ initT T (lits.drop j) = initT [] lits ∧ TOk f.vars T ∧ (∀ l ∈ T, l ∈ lits) ∧ fr = [.any, .d (.sl 1 (lits.map iD)), .ref σ.length 0, .any, .ref (σ.length + 1) 0, .ref (σ.length + 2) 0, dn j, .any, .any, .any, .any, .any, .any, .any, .any, .any, .any, .any, .any, .any, .any, .any, .any, .any, .any, .any, .any, .any, .any, .any, .any, .any, .any, .any, .any, .any, .any, .any, .any, .any, .any, .any, .any, .any, .any, .any, .any, .any, .any, .any, .any, .any, .any, .any, .any, .any, .any, .any] ∧
      st = σ ++ [some (.cells [.d (iD f.vars), .d (clsD f.cls)]), some (.cells [.d .nils, .d .nils, di 0]), some (.cells [.rs (σ.length + 3) 1 0 T.length (some 3), .rs (σ.length + 4) 1 0 T.length (some 3), di (-1)]), ints T, ints (T.map fun _ => -1)]) lits.length _
      ⟨_, _, ((Weak.mask [1, 2, 4, 5, 6]).trans (Weak.emptyIn (σ := σ) 2 0 1 (some 3) rfl rfl)).trans (Weak.emptyIn (σ := σ) 2 1 1 (some 3) rfl rfl), 0, [], by omega, rfl, rfl, TOk.nil _, by simp, rfl, rfl⟩ ?_
    rintro m fr st ⟨j, T, hj, hm, hT, hTo, hTl, rfl, rfl⟩
    have hTlen := hTo.len hv0.1
    rcases Nat.lt_or_ge j lits.length with hlt | hge
    · have hd : decide ((j : Int) < (lits.length : Int)) = true := decide_eq_true (by omega)
      have w2 := wrapS j (by simp only [reachBytes] at hll; omega)
      have e1 : List.getD (List.map iD lits) j default = iD (lits.getD j 0) := getD_mapD hlt
      have hxm := getD_mem 0 hlt
      rw [drop_getD 0 hlt, initT] at hT
      generalize lits.getD j 0 = x at e1 hT hxm
      have hx := hls x hxm
      simp only [isD, clsD, go_sem, List.length_map, hd, e1, w2]
      refine ⟨⟨by omega, by omega⟩, ac' (ac_pure (db (decide (x ∈ T))) rfl (views2 (views_ints (some 3) (at_own 3 rfl)) (Views.d _)) (has23_ac T x (by simp only [reachBytes]; omega) [] G _ rfl) ?_)⟩
      by_cases hxT : x ∈ T
      · rw [if_pos hxT] at hT
        simp only [isD, clsD, go_sem, List.length_map, decide_eq_true hxT, w2]
        exact Wk.mask [1, 2, 4, 5, 6] ⟨lits.length - (j + 1), by omega, j + 1, T, hlt, rfl, hT, hTo, hTl, rfl, rfl⟩
      · rw [if_neg hxT] at hT
        simp only [isD, clsD, go_sem, List.length_map, decide_eq_false hxT, e1, w2, beq_self_eq_true, Nat.mul_one]
        refine ⟨⟨by omega, by omega⟩, ⟨by simp only [maxLen]; omega, by omega⟩, ⟨by simp only [maxLen]; omega, by omega⟩, ?_⟩
        have hTo' : TOk f.vars (T ++ [x]) := hTo.snoc hx.1 ⟨hx.2.1, hx.2.2.1⟩ hxT fun q => hx.2.2.2.2 (hTl _ q)
        have o1 : (T.map fun x => A.d (iD x)) ++ [di x] = (T ++ [x]).map fun x => A.d (iD x) := by simp
        have o2 : ((T.map fun _ => (-1 : Int)).map fun x => A.d (iD x)) ++ [di (-1)] = ((T ++ [x]).map fun _ => (-1 : Int)).map fun x => A.d (iD x) := by simp
        have hlen : (T ++ [x]).length = T.length + 1 := by simp
        refine Wk.keep [1, 2, 4, 5, 6] [0, 1, 2, 6, 8] (by decide) (Nat.le_refl _) hbd ⟨lits.length - (j + 1), by omega, j + 1, T ++ [x], hlt, rfl, hT, hTo', ?_, ?_, ?_⟩
        · intro l hl'
          rcases List.mem_append.1 hl' with q | q
          · exact hTl l q
          · rw [List.mem_singleton.1 q]; exact hxm
        · simp only [go_sem]
        · simp only [ints, ← o1, ← o2, hlen]
          simp only [go_sem]
    · have hd : decide ((j : Int) < (lits.length : Int)) = false := decide_eq_false (by omega)
      rw [List.drop_eq_nil_of_le hge, initT] at hT
      subst hT
      simp only [isD, clsD, go_sem, List.length_map, hd]
      refine Wk.pre [2, 4, 5] ?_
      simp only [go_sem]
      refine ⟨_, _, ((Weak.freezeIn (σ := σ) 3 2 1 0 ((initT [] lits).map iD) rfl (lies_ints _) rfl (by decide)).trans (Weak.freezeIn (σ := σ) 4 2 1 0 (((initT [] lits).map fun _ => (-1 : Int)).map iD) rfl (lies_ints _) rfl (by decide))).trans (Weak.keep (σ := σ) [0, 1, 2] (by decide) (Nat.le_refl _) hbd), ?_, ?_⟩
      · simp only [go_sem]
      · simp only [go_sem, List.length_map, List.length_append, List.length_singleton, false_and, ↓reduceIte]
  · rintro fr st ⟨rfl, rfl⟩
    simp only [isD, clsD, go_sem, List.length_map]
    refine aw_loop (fun m fr st => ∃ (k : Nat) (T Rs : List Int), m = (f.vars + 1).toNat - k ∧ k ≤ (f.vars + 1).toNat ∧ T.length ≤ 8000 + k ∧ Rs.length ≤ 8000 + k ∧ R (.d (trlD (runS f.cls ((f.vars + 1).toNat - k) T Rs).1 (runS f.cls ((f.vars + 1).toNat - k) T Rs).2.1 (runS f.cls ((f.vars + 1).toNat - k) T Rs).2.2)) σ ∧
      fr = [.any, .any, .ref σ.length 0, .any, .ref (σ.length + 1) 0, .ref (σ.length + 2) 0, .any, .any, dn k, .any, .any, .any, .any, .any, .any, .any, .any, .any, .any, .any, .any, .any, .any, .any, .any, .any, .any, .any, .any, .any, .any, .any, .any, .any, .any, .any, .any, .any, .any, .any, .any, .any, .any, .any, .any, .any, .any, .any, .any, .any, .any, .any, .any, .any, .any, .any, .any, .any] ∧
      st = σ ++ [some (.cells [.d (iD f.vars), .d (clsD f.cls)]), some (.cells [.d .nils, .d .nils, di 0]), some (.cells [.d (isD T), .d (isD Rs), di (-1)])]) ((f.vars + 1).toNat) _
      (Wk.mask [2, 4, 5, 8] ⟨0, _, _, by omega, by omega, ?_, ?_, h, by simp only [isD, go_sem]; rfl, by simp only [isD, clsD, go_sem]⟩) ?_
    · have := hT0.len hv0.1; omega
    · rw [List.length_map]; have := hT0.len hv0.1; omega
    rintro m fr st ⟨k, T, Rs, hm, hk, hTl, hRl, hR, rfl, rfl⟩
    have hw2 : IntKind.i64.wrap ((k : Int) + 1) = ((k + 1 : Nat) : Int) := wrapS k (by omega)
    rcases Nat.lt_or_ge k (f.vars + 1).toNat with hlt | hge
    · have hd : decide ((k : Int) ≤ f.vars) = true := decide_eq_true (by omega)
      rw [show (f.vars + 1).toNat - k = ((f.vars + 1).toNat - (k + 1)) + 1 by omega, runS] at hR
      simp only [isD, clsD, go_sem, hd]
      refine ac' (step23_ac f T Rs (-1) hn hw (fun c hc l hl => by have := hcl c hc l hl; omega) (by omega) (by omega) _ _ _ ?_)
      cases hf : findS T f.cls 0 with
      | none =>
        rw [hf] at hR
        simp only [stepR, stepA, isD, clsD, go_sem, Try.results58]
        exact ret_bd hbd rfl hR
      | some p =>
        obtain ⟨i, s, x⟩ := p
        rw [hf] at hR
        simp only at hR
        by_cases hs : s = 1
        · rw [if_pos hs] at hR
          simp only [stepR, if_pos hs, stepA, isD, clsD, go_sem, Try.results58]
          exact ret_bd hbd rfl hR
        · rw [if_neg hs] at hR
          simp only [stepR, if_neg hs, stepA, isD, clsD, go_sem, hw2]
          exact Wk.keep [2, 4, 5, 8] [0, 1, 2] (by decide) (Nat.le_refl _) hbd ⟨(f.vars + 1).toNat - (k + 1), by omega, k + 1, T ++ [x], Rs ++ [(i : Int)], rfl, by omega, by rw [List.length_append, List.length_singleton]; omega, by rw [List.length_append, List.length_singleton]; omega, hR, by simp only [isD, go_sem], by simp only [isD, clsD, go_sem]⟩
    · have hd : decide ((k : Int) ≤ f.vars) = false := decide_eq_false (by omega)
      rw [show (f.vars + 1).toNat - k = 0 by omega, runS] at hR
      simp only [isD, clsD, go_sem, hd, Try.results58]
      exact ret_bd hbd rfl hR
set_option maxHeartbeats 4000000 in
theorem prop22_ac (f : Cnf) (lits : List Int) (hf : I64 f.vars) (hn : f.cls.length ≤ 40) (hw : ∀ c ∈ f.cls, c.length ≤ 1000) (hll : lits.length ≤ reachBytes) (hl : ∀ l ∈ lits, I64 l) (σ : St) (G : Glob) (R : A → St → Prop)
    (h : R (.tup [.d (isD (propS f lits).1), .d (isD (propS f lits).2.1), di (propS f lits).2.2]) σ) : AC Try.prog G 22 [.d (cnfD f), .d (isD lits)] σ R := by
  refine ac_enter mixed Try.func22 rfl Try.ntmps22 (by simp only [go_sem]) fun hbd => ?_
  simp only [List.length_cons, List.length_nil, Nat.reduceAdd, Nat.reduceSub, List.replicate_succ, List.replicate_zero, List.cons_append, List.nil_append]
  simp only [cnfD, clsD, isD, go_sem, List.length_map]
  refine ac' (usable23_ac f lits hf (by simp only [reachBytes]; omega) (fun c hc => by have := hw c hc; simp only [reachBytes]; omega) hll hl _ _ _ ?_)
  rw [usB_eq]
  by_cases hok : (validC f && litsOk f.vars [] lits) = true
  · rw [propS, if_pos hok] at h
    rw [hok]
    simp only [isD, clsD, go_sem, Try.results22]
    rw [Bool.and_eq_true] at hok
    refine ac' (run58_ac f lits hok.1 hok.2 hn hw hll _ _ _ ?_)
    simp only [isD, clsD, go_sem, Try.results22]
    exact ret_bd hbd rfl h
  · rw [propS, if_neg hok] at h
    rw [show (validC f && litsOk f.vars [] lits) = false by simpa using hok]
    simp only [isD, clsD, go_sem, Try.results22]
    exact ⟨_, _, (Weak.tup (Weak.nils (.cons (.d (.nil 1)) (.cons (.d (.nil 1)) (NilAL.refl _))))).trans (Weak.cut (Nat.le_refl _) hbd (by simp [bdL, A.bd])), h⟩
end Go.Proofs.Ytpmjdaiboniagaa
end PartU29

section PartU32
/- The reference's Hints. -/
set_option linter.unusedSimpArgs false
set_option linter.unusedVariables false
set_option maxRecDepth 100000
namespace Go.Proofs.Ytpmjdaiboniagaa
open Go Go.Ab

theorem Wk.empty {G : Glob} {n0 : Nat} {fr : Fr} {σ l : St} {I : Fr → St → Prop} (i sz : Nat) (ow : Option TypeId) (h : fr[i]? = some (.d .nils)) (hw : Wk G n0 I (fr.set i (.rs (σ.length + l.length) sz 0 0 ow)) (σ ++ (l ++ [some (.cells [])]))) : Wk G n0 I fr (σ ++ l) := by
  obtain ⟨f, s, h1, h2⟩ := hw
  rw [← List.length_append, ← List.append_assoc] at h1
  exact ⟨f, s, (Weak.empty i sz ow h).trans h1, h2⟩
theorem getD_intsA {l : List Int} {k : Nat} (h : k < l.length) : List.getD (l.map fun x => A.d (iD x)) k .any = A.d (iD (l.getD k 0)) := by
  rw [getD_mapA h]
theorem back_step {T Rs : List Int} {k : Nat} (h : T.length = Rs.length) (hk : k < T.length) : ((T.zip Rs).take (k + 1)).reverse = (T.getD k 0, Rs.getD k 0) :: ((T.zip Rs).take k).reverse := by
  rw [List.take_succ_eq_append_getElem (by rw [List.length_zip]; omega), List.reverse_append, List.reverse_singleton, List.singleton_append, List.getElem_zip]
  simp only [List.getD_eq_getElem?_getD, List.getElem?_eq_getElem hk, List.getElem?_eq_getElem (show k < Rs.length by omega), Option.getD_some]
set_option maxHeartbeats 4000000 in
theorem hints24_ac (f : Cnf) (lits : List Int) (hf : I64 f.vars) (hn : f.cls.length ≤ 40) (hw : ∀ c ∈ f.cls, c.length ≤ 1000) (hll : lits.length ≤ reachBytes) (hl : ∀ l ∈ lits, I64 l) (σ : St) (G : Glob) (R : A → St → Prop)
    (h : R (.tup [.d (isD (hintR f lits).1), di (hintR f lits).2]) σ) : AC Try.prog G 24 [.d (cnfD f), .d (isD lits)] σ R := by
  refine ac_enterC [21] mixed Try.func24 rfl Try.ntmps24 (by simp only [go_sem]) fun hbd => ?_
  simp only [List.length_cons, List.length_nil, Nat.reduceAdd, Nat.reduceSub, List.replicate_succ, List.replicate_zero, List.cons_append, List.nil_append]
  simp only [cnfD, clsD, isD, go_sem, List.length_map]
  refine ac' (usable23_ac f lits hf (by simp only [reachBytes]; omega) (fun c hc => by have := hw c hc; simp only [reachBytes]; omega) hll hl _ _ _ ?_)
  rw [usB_eq]
  by_cases hok : (validC f && litsOk f.vars [] lits) = true
  · obtain ⟨q1, q2, q3, q4, q5⟩ := propS_spec hok
    obtain ⟨hv0, hcl⟩ := validC_spec (Bool.and_eq_true _ _ ▸ hok : _ ∧ _).1
    rw [hintR, if_pos hok] at h
    have hp : propS f lits = runS f.cls (f.vars + 1).toNat (initT [] lits) ((initT [] lits).map fun _ => -1) := by rw [propS, if_pos hok]
    rw [hok]
    simp only [isD, clsD, go_sem, Try.results24]
    refine ac' (run58_ac f lits (Bool.and_eq_true _ _ ▸ hok : _ ∧ _).1 (Bool.and_eq_true _ _ ▸ hok : _ ∧ _).2 hn hw hll _ _ _ ?_)
    obtain ⟨⟨T, Rs, c⟩, hr⟩ : ∃ r, propS f lits = r := ⟨_, rfl⟩
    rw [show runA f lits = .d (trlD T Rs c) by simp only [runA, ← hp, hr]]
    rw [hr] at q1 q2 q3 q4 q5 h
    simp only at q1 q2 q3 q4 q5 h
    have hTl := q1.len hv0.1
    simp only [isD, clsD, go_sem, Try.results24]
    refine ⟨fun hc => ?_, fun hc => ?_⟩
    · have hc' : c < 0 := of_decide_eq_true hc
      rw [if_pos hc'] at h
      exact ⟨_, _, (Weak.tup (Weak.nils (.cons (.d (.nil 1)) (NilAL.refl _)))).trans (Weak.cut (Nat.le_refl _) hbd (by simp [bdL, A.bd])), h⟩
    · have hc' : ¬ c < 0 := of_decide_eq_false hc
      rw [if_neg hc'] at h
      obtain ⟨i, rfl⟩ : ∃ i : Nat, c = i := ⟨c.toNat, by omega⟩
      have hi : i < f.cls.length := by omega
      have e1 := isD_getD hi
      have hC := hw _ (getD_mem [] hi)
      rw [Int.toNat_natCast] at h
      generalize f.cls.getD i [] = C at e1 h hC
      simp only [isD, clsD, go_sem, List.length_map, e1, flat_isD]
      refine ⟨⟨by omega, by omega⟩, ⟨by simp only [maxLen]; omega, by omega⟩, ?_⟩
      refine aw_cut (fun fr st => ∃ B : List Int, B.length ≤ T.length ∧ R (.tup [.d (isD (B.reverse ++ [(i : Int)])), di 0]) σ ∧ fr = [.any, .any, .any, .any, .any, .any, .any, .ref σ.length 0, .any, .d (isD B), .any, .any, .any, .any, .any, .any, .any, .any, .any, .any, .any, .any, .any, .any, .any, .any, .any, .any, .any, .any, .any, .any, .any, .any, .any, .any, .any, .any, .any, .any, .any, .any, .any, .any, .any, .any, .any, .any, .any, .any, .any, .any, .any, .any, .any, .any, .any, .any, .any, .any, .any, .any, .any, .any, .any, .any, .any, .any, .any, .any, .any, .any, .any, .any, .any, .any, .any, .any, .any, .any, .any, .any, .any, .any, .any, .any, .any, .any, .any, .any, .any, .any, .any, .any, .any, .any, .any, .any, .any, .any, .any, .any, .any, .any, .any, .any, .any, .any, .any, .any, .any, .any, .any, .any, .any, .any, .any, .any, .any, .any] ∧ st = σ ++ [some (.cells [.d (isD T), .d (isD Rs), dn i])]) ?_ ?_
      · have w1 : IntKind.i64.wrap ((T.length : Int) - 1) = (T.length : Int) - 1 := wrap64_id _ (by omega) (by omega)
        simp only [isD, clsD, go_sem, List.length_map, w1]
        refine aw_loop (fun m fr st => ∃ (k : Nat) (N B : List Int), m = k ∧ k ≤ T.length ∧ N.length ≤ 1000 + 1000 * (T.length - k) ∧ B.length ≤ T.length - k ∧ R (.tup [.d (isD ((backS f.cls N B ((T.zip Rs).take k).reverse).reverse ++ [(i : Int)])), di 0]) σ ∧
          fr = [.any, .any, .ref σ.length 0, .any, .any, .any, .any, .ref (σ.length + 1) 0, .rs (σ.length + 2) 1 0 N.length (some 3), .rs (σ.length + 3) 1 0 B.length (some 3), di ((k : Int) - 1), .any, .any, .any, .any, .any, .any, .any, .any, .any, .any, .any, .any, .any, .any, .any, .any, .any, .any, .any, .any, .any, .any, .any, .any, .any, .any, .any, .any, .any, .any, .any, .any, .any, .any, .any, .any, .any, .any, .any, .any, .any, .any, .any, .any, .any, .any, .any, .any, .any, .any, .any, .any, .any, .any, .any, .any, .any, .any, .any, .any, .any, .any, .any, .any, .any, .any, .any, .any, .any, .any, .any, .any, .any, .any, .any, .any, .any, .any, .any, .any, .any, .any, .any, .any, .any, .any, .any, .any, .any, .any, .any, .any, .any, .any, .any, .any, .any, .any, .any, .any, .any, .any, .any, .any, .any, .any, .any, .any, .any] ∧
          st = σ ++ [some (.cells [.d (iD f.vars), .d (clsD f.cls)]), some (.cells [.d (isD T), .d (isD Rs), dn i]), ints N, ints B]) T.length _
          ?_ ?_
        · refine Wk.pre [2, 7, 8, 9, 10] ?_
          simp only [go_sem]
          refine Wk.empty 9 1 (some 3) rfl ?_
          simp only [List.length_cons, List.length_nil, List.set_cons_zero, List.set_cons_succ, List.cons_append, List.nil_append, Nat.reduceAdd]
          refine Wk.keep [2, 7, 8, 9, 10] [0, 1, 3, 4] (by decide) (Nat.le_refl _) hbd ⟨T.length, C, [], rfl, Nat.le_refl _, by omega, by simp, ?_, ?_, ?_⟩
          · rw [List.take_of_length_le (by rw [List.length_zip]; omega)]; exact h
          · simp only [go_sem, List.length_nil]
          · simp only [isD, clsD, go_sem]; rfl
        rintro m fr st ⟨k, N, B, rfl, hk, hN, hB, hR, rfl, rfl⟩
        obtain _ | k := m
        · have kd : decide ((0 : Int) ≤ ((0 : Nat) : Int) - 1) = false := decide_eq_false (by omega)
          rw [List.take_zero, List.reverse_nil, backS] at hR
          simp only [isD, clsD, go_sem, List.length_map, kd]
          refine Wk.pre [7, 9] ?_
          simp only [go_sem]
          refine Wk.frz 3 1 0 (B.map iD) rfl (lies_ints _) ?_
          simp only [go_sem, List.length_map]
          exact Wk.keep [7, 9] [1] (by decide) (Nat.le_refl _) hbd ⟨B, by omega, hR, by simp only [go_sem], by simp only [isD, go_sem]⟩
        · have hk1 : (((k + 1 : Nat) : Int) - 1) = (k : Int) := by omega
          have kd : decide ((0 : Int) ≤ (k : Int)) = true := decide_eq_true (by omega)
          have w2 : IntKind.i64.wrap ((k : Int) - 1) = (k : Int) - 1 := wrap64_id _ (by omega) (by omega)
          have e2 : List.getD (List.map iD T) k default = iD (T.getD k 0) := getD_mapD (by omega)
          have e3 : List.getD (List.map iD Rs) k default = iD (Rs.getD k 0) := getD_mapD (by omega)
          rw [back_step q2.symm (by omega), backS] at hR
          have hlr := q1.rng _ (getD_mem 0 (show k < T.length by omega))
          have hrr := q3 _ (getD_mem 0 (show k < Rs.length by omega))
          generalize T.getD k 0 = l at e2 hR hlr
          generalize Rs.getD k 0 = r at e3 hR hrr
          have w3 : IntKind.i64.wrap (0 - l) = -l := by rw [wrap64_id _ (by omega) (by omega)]; omega
          rw [hk1]
          simp only [isD, clsD, go_sem, List.length_map, kd, e2, w3]
          refine ⟨⟨by omega, by omega⟩, ac' (ac_pure (db (decide (-l ∈ N))) rfl (views2 (views_ints (some 3) (at_own 2 rfl)) (Views.d _)) (has23_ac N (-l) (by simp only [reachBytes]; omega) [] G _ rfl) ?_)⟩
          by_cases g : -l ∈ N ∧ 0 ≤ r
          · rw [if_pos g] at hR
            have d1 : decide (r < 0) = false := decide_eq_false (by omega)
            obtain ⟨r, rfl⟩ : ∃ n : Nat, r = n := ⟨r.toNat, by omega⟩
            have hr' : r < f.cls.length := by omega
            have e4 := isD_getD hr'
            have hD := hw _ (getD_mem [] hr')
            rw [Int.toNat_natCast] at hR
            generalize f.cls.getD r [] = D' at e4 hR hD
            simp only [isD, clsD, go_sem, List.length_map, e2, e3, e4, w2, d1, decide_eq_true g.1, Nat.mul_one]
            refine ⟨⟨by omega, by omega⟩, ⟨by omega, by omega⟩, ⟨by simp only [maxLen]; omega, by omega⟩, ⟨by omega, by omega⟩, ⟨by omega, by omega⟩, ?_⟩
            refine aw_loop (fun m fr st => ∃ (j : Nat) (N' : List Int), m = D'.length - j ∧ j ≤ D'.length ∧ N'.length ≤ N.length + j ∧ N' ++ (D'.drop j).filter (fun y => y != l) = N ++ D'.filter (fun y => y != l) ∧
              fr = [.any, .any, .ref σ.length 0, .any, .any, .any, .any, .ref (σ.length + 1) 0, .rs (σ.length + 2) 1 0 N'.length (some 3), .rs (σ.length + 3) 1 0 (B.length + 1) (some 3), dn k, .any, .d (isD D'), dn j, .any, .any, .any, .any, .any, .any, .any, .any, .any, .any, .any, .any, .any, .any, .any, .any, .any, .any, .any, .any, .any, .any, .any, .any, .any, .any, .any, .any, .any, .any, .any, .any, .any, .any, .any, .any, .any, .any, .any, .any, .any, .any, .any, .any, .any, .any, .any, .any, .any, .any, .any, .any, .any, .any, .any, .any, .any, .any, .any, .any, .any, .any, .any, .any, .any, .any, .any, .any, .any, .any, .any, .any, .any, .any, .any, .any, .any, .any, .any, .any, .any, .any, .any, .any, .any, .any, .any, .any, .any, .any, .any, .any, .any, .any, .any, .any, .any, .any, .any, .any, .any, .any, .any, .any, .any, .any] ∧
              st = σ ++ [some (.cells [.d (iD f.vars), .d (clsD f.cls)]), some (.cells [.d (isD T), .d (isD Rs), dn i]), ints N', ints (B ++ [(r : Int)])]) D'.length _
              (Wk.keep [2, 7, 8, 9, 10, 12, 13] [0, 1, 2, 5] (by decide) (Nat.le_refl _) hbd ⟨0, N, rfl, by omega, by omega, rfl, by simp only [isD, go_sem]; rfl, by simp only [isD, clsD, go_sem, List.map_append, List.map_cons, List.map_nil, ints]⟩) ?_
            rintro m fr st ⟨j, N', hm, hj, hNl, hNe, rfl, rfl⟩
            rcases Nat.lt_or_ge j D'.length with jlt | jge
            · have jd : decide ((j : Int) < (D'.length : Int)) = true := decide_eq_true (by omega)
              have w5 := wrapS j (by omega)
              have e5 : List.getD (List.map iD D') j default = iD (D'.getD j 0) := getD_mapD jlt
              rw [drop_getD 0 jlt, List.filter_cons] at hNe
              generalize D'.getD j 0 = y at e5 hNe
              simp only [isD, clsD, go_sem, List.length_map, jd, e2, e5, w5, Nat.mul_one]
              refine ⟨⟨by omega, by omega⟩, ⟨by omega, by omega⟩, fun hy => ⟨⟨by omega, by omega⟩, ⟨by simp only [maxLen]; omega, by omega⟩, ?_⟩, fun hy => ?_⟩
              · rw [if_pos hy] at hNe
                refine Wk.keep [2, 7, 8, 9, 10, 12, 13] [0, 1, 5, 3] (by decide) (Nat.le_refl _) hbd ⟨D'.length - (j + 1), by omega, j + 1, N' ++ [y], rfl, jlt, by rw [List.length_append, List.length_singleton]; omega, by rw [List.append_assoc]; exact hNe, ?_, ?_⟩
                · simp only [isD, go_sem, List.length_append, List.length_singleton]
                · simp only [isD, clsD, go_sem, List.map_append, List.map_cons, List.map_nil, ints]
              · rw [if_neg (by simpa using hy)] at hNe
                exact Wk.mask [2, 7, 8, 9, 10, 12, 13] ⟨D'.length - (j + 1), by omega, j + 1, N', rfl, jlt, by omega, hNe, rfl, rfl⟩
            · have jd : decide ((j : Int) < (D'.length : Int)) = false := decide_eq_false (by omega)
              rw [List.drop_eq_nil_of_le jge, List.filter_nil, List.append_nil] at hNe
              subst hNe
              have hNN : (N ++ D'.filter (fun y => y != l)).length ≤ 1000 + 1000 * (T.length - k) := by
                generalize (N ++ D'.filter (fun y => y != l)).length = z at hNl ⊢
                omega
              simp only [isD, clsD, go_sem, List.length_map, jd, w2]
              exact Wk.mask [2, 7, 8, 9, 10] ⟨k, by omega, k, N ++ D'.filter (fun y => y != l), B ++ [(r : Int)], rfl, by omega, hNN, by rw [List.length_append, List.length_singleton]; omega, hR, by simp [maskN], rfl⟩
          · rw [if_neg g] at hR
            by_cases g1 : -l ∈ N
            · have d1 : decide (r < 0) = true := decide_eq_true (Int.not_le.1 fun q => g ⟨g1, q⟩)
              simp only [isD, clsD, go_sem, List.length_map, e2, e3, w2, d1, decide_eq_true g1]
              exact ⟨⟨by omega, by omega⟩, Wk.mask [2, 7, 8, 9, 10] ⟨k, by omega, k, N, B, rfl, by omega, by omega, by omega, hR, rfl, rfl⟩⟩
            · simp only [isD, clsD, go_sem, List.length_map, e2, e3, w2, decide_eq_false g1]
              exact Wk.mask [2, 7, 8, 9, 10] ⟨k, by omega, k, N, B, rfl, by omega, by omega, by omega, hR, rfl, rfl⟩
      · rintro fr st ⟨B, hB, hR, rfl, rfl⟩
        have w1 : IntKind.i64.wrap ((B.length : Int) - 1) = (B.length : Int) - 1 := wrap64_id _ (by omega) (by omega)
        simp only [isD, clsD, go_sem, List.length_map, w1, Try.results24]
        refine aw_loop (fun m fr st => ∃ k : Nat, k ≤ B.length ∧ m = B.length - k ∧ fr = [.any, .any, .any, .any, .any, .any, .any, .ref σ.length 0, .any, .d (.sl 1 (B.map iD)), .any, .any, .any, .any, .rs (σ.length + 1) 1 0 k (some 3), di ((B.length : Int) - 1 - k), .any, .any, .any, .any, .any, .any, .any, .any, .any, .any, .any, .any, .any, .any, .any, .any, .any, .any, .any, .any, .any, .any, .any, .any, .any, .any, .any, .any, .any, .any, .any, .any, .any, .any, .any, .any, .any, .any, .any, .any, .any, .any, .any, .any, .any, .any, .any, .any, .any, .any, .any, .any, .any, .any, .any, .any, .any, .any, .any, .any, .any, .any, .any, .any, .any, .any, .any, .any, .any, .any, .any, .any, .any, .any, .any, .any, .any, .any, .any, .any, .any, .any, .any, .any, .any, .any, .any, .any, .any, .any, .any, .any, .any, .any, .any, .any, .any, .any, .any, .any, .any, .any, .any, .any] ∧
          st = σ ++ [some (.cells [.d (isD T), .d (isD Rs), dn i]), ints (B.reverse.take k)]) B.length _
          ⟨_, _, (Weak.mask [7, 9, 14, 15]).trans (Weak.empty 14 1 (some 3) rfl), 0, by omega, rfl, by simp [maskN, w1], by simp [ints, isD]⟩ ?_
        rintro m fr st ⟨k, hk, hm, rfl, rfl⟩
        rcases Nat.lt_or_ge k B.length with klt | kge
        · have kd : decide ((0 : Int) ≤ (B.length : Int) - 1 - k) = true := decide_eq_true (by omega)
          have hn : ((B.length : Int) - 1 - k) = ((B.length - 1 - k : Nat) : Int) := by omega
          have e2 : List.getD (List.map iD B) (B.length - 1 - k) default = iD (B.getD (B.length - 1 - k) 0) := getD_mapD (by omega)
          have w3 : IntKind.i64.wrap (((B.length - 1 - k : Nat) : Int) - 1) = (B.length : Int) - 1 - ((k + 1 : Nat) : Int) := by rw [wrap64_id _ (by omega) (by omega)]; omega
          have hrev : B.reverse.getD k 0 = B.getD (B.length - 1 - k) 0 := by
            rw [List.getD_eq_getElem?_getD, List.getElem?_reverse klt, List.getD_eq_getElem?_getD]
          rw [hn] at kd ⊢
          simp only [isD, go_sem, List.length_map, kd, e2, w3]
          refine ⟨⟨by omega, by omega⟩, ⟨by rw [List.length_take, List.length_reverse]; omega, by simp only [maxLen]; omega, by omega⟩, ?_⟩
          refine Wk.keep [7, 9, 14, 15] [0, 3] (by decide) (Nat.le_refl _) hbd ⟨B.length - (k + 1), by omega, k + 1, klt, rfl, ?_, ?_⟩
          · simp only [go_sem]
          · rw [take_snoc 0 (by rw [List.length_reverse]; exact klt), hrev]
            simp only [isD, go_sem, List.map_append, List.map_cons, List.map_nil, ints]
        · have kd : decide ((0 : Int) ≤ (B.length : Int) - 1 - k) = false := decide_eq_false (by omega)
          have ktk : B.reverse.take k = B.reverse := List.take_of_length_le (by rw [List.length_reverse]; exact kge)
          simp only [isD, go_sem, kd, ktk, Try.results24]
          have kB : k = B.length := by omega
          subst kB
          refine ⟨⟨by simp, by simp only [maxLen]; omega, by omega⟩, ?_⟩
          have o1 : (B.reverse.map fun x => A.d (iD x)) ++ [A.d (.int .i64 (i : Int))] = (B.reverse ++ [(i : Int)]).map fun x => A.d (iD x) := by simp
          rw [o1]
          refine ret_frz 3 1 0 ((B.reverse ++ [(i : Int)]).map iD) rfl (lies_ints _) ?_
          simp only [go_sem, List.length_map, List.length_append, List.length_reverse, List.length_singleton]
          exact ret_bd hbd rfl hR
  · rw [hintR, if_neg hok] at h
    rw [show (validC f && litsOk f.vars [] lits) = false by simpa using hok]
    simp only [isD, clsD, go_sem, Try.results24]
    exact ⟨_, _, (Weak.tup (Weak.nils (.cons (.d (.nil 1)) (NilAL.refl _)))).trans (Weak.cut (Nat.le_refl _) hbd (by simp [bdL, A.bd])), h⟩
end Go.Proofs.Ytpmjdaiboniagaa
end PartU32

section PartV1
/- proof.Trim: plain; backward. -/
set_option linter.unusedSimpArgs false
set_option linter.unusedVariables false
set_option maxRecDepth 100000
namespace Go.Proofs.Ytpmjdaiboniagaa
open Go Go.Ab

/-- The steps that hints name are marked. -/
def markH (n : Nat) : List Int → List Bool → List Bool
  | [], b => b
  | h :: hs, b => markH n hs (if (n : Int) ≤ h then b.set (h - n).toNat true else b)
theorem markH_len (n : Nat) : ∀ (hs : List Int) (b : List Bool), (markH n hs b).length = b.length
  | [], _ => rfl
  | h :: hs, b => by
    rw [markH, markH_len]
    split <;> simp
def markL (l : List Stp) (k : Nat) (b : List Bool) : List Bool := if k + 1 = l.length then b.set k true else b
/-- One step of the pass: the step k. -/
def markS (n : Nat) (l : List Stp) (k : Nat) (b : List Bool) : List Bool := if (markL l k b).getD k false = true then markH n (l.getD k ⟨[], []⟩).hints (markL l k b) else markL l k b
/-- The marks after j steps of the pass, from the last step on. -/
def marks (n : Nat) (l : List Stp) : Nat → List Bool
  | 0 => List.replicate l.length false
  | j + 1 => markS n l (l.length - 1 - j) (marks n l j)
theorem markL_len (l : List Stp) (k : Nat) (b : List Bool) : (markL l k b).length = b.length := by
  unfold markL; split <;> simp
theorem markS_len (n : Nat) (l : List Stp) (k : Nat) (b : List Bool) : (markS n l k b).length = b.length := by
  unfold markS; split
  · rw [markH_len, markL_len]
  · rw [markL_len]
theorem marks_len (n : Nat) (l : List Stp) : ∀ j, (marks n l j).length = l.length
  | 0 => by simp [marks]
  | j + 1 => by rw [marks, markS_len, marks_len]
def renH (n : Nat) (nums : List Int) (h : Int) : Int := if h < (n : Int) then h else nums.getD (h - n).toNat 0
/-- The marked steps, renumbered. -/
def trimS (n : Nat) (nb : List Bool) : List Stp → Nat → List Int → List Stp → List Stp
  | [], _, _, res => res
  | s :: l, k, nums, res => if nb.getD k false = true then trimS n nb l (k + 1) (nums.set k ((n : Int) + res.length)) (res ++ [⟨s.lits, s.hints.map (renH n (nums.set k ((n : Int) + res.length)))⟩]) else trimS n nb l (k + 1) nums res
def trimL (f : Cnf) (l : List Stp) : List Stp := trimS f.cls.length (marks f.cls.length l l.length) l 0 (List.replicate l.length 0) []
theorem back73_ac (n : Int) (σ : St) (G : Glob) (R : A → St → Prop) (h : R (.fn (.func 91) [] [.ref σ.length 0]) (σ ++ [some (.cells [di n])])) : AC Try.prog G 73 [di n] σ R := by
  refine ac_enter mixed Try.func73 rfl Try.ntmps73 (by simp only [go_sem]) fun hbd => ?_
  simp only [List.length_cons, List.length_nil, Nat.reduceAdd, Nat.reduceSub, List.replicate_succ, List.replicate_zero, List.cons_append, List.nil_append]
  simp only [go_sem, Try.results73]
  refine ret_keep [0] (by decide) hbd ?_
  simp only [go_sem]
  exact h
theorem back91_ac {n ib l : Nat} (hn : n ≤ 100000) (I : Nat → St → Prop) (X : St → Prop) (σ : St) (hc : σ[ib]? = some (some (.cells [dn n]))) (h0 : I 0 σ) (G : Glob)
    (hY : ∀ j st, j < n → I j st → YC Try.prog G l [dn (n - 1 - j)] st fun r st' => r = db true ∧ I (j + 1) st' ∨ r = db false ∧ X st') (R : A → St → Prop) (h : ∀ r st, I n st ∨ X st → R r st) : AC Try.prog G 91 [.fn (.yield l) [] [], .ref ib 0] σ R := by
  refine ac_enter mixed Try.func91 rfl Try.ntmps91 (by simp only [go_sem]) fun hbd => ?_
  simp only [List.length_cons, List.length_nil, Nat.reduceAdd, Nat.reduceSub, List.replicate_succ, List.replicate_zero, List.cons_append, List.nil_append]
  have w1 : IntKind.i64.wrap ((n : Int) - 1) = (n : Int) - 1 := wrap64_id _ (by omega) (by omega)
  simp only [go_sem, live_of hc, objK_of hc, w1]
  refine aw_loop (fun m fr st => ∃ j : Nat, j ≤ n ∧ m = n - j ∧ I j st ∧ fr = [.fn (.yield l) [] [], .any, .any, di ((n : Int) - 1 - j), .any, .any, .any, .any, .any, .any, .any, .any, .any, .any]) n _
    (Wk.mask [0, 3] ⟨0, by omega, rfl, h0, by simp [maskN, w1]⟩) ?_
  rintro m fr st ⟨j, hj, hm, hI, rfl⟩
  rcases Nat.lt_or_ge j n with hlt | hge
  · have hn' : ((n : Int) - 1 - j) = ((n - 1 - j : Nat) : Int) := by omega
    have hd : decide ((0 : Int) ≤ ((n - 1 - j : Nat) : Int)) = true := decide_eq_true (by omega)
    have w2 : IntKind.i64.wrap (((n - 1 - j : Nat) : Int) - 1) = (n : Int) - 1 - ((j + 1 : Nat) : Int) := by rw [wrap64_id _ (by omega) (by omega)]; omega
    rw [hn']
    simp only [go_sem, hd]
    refine yc' ((hY j st hlt hI).mono fun r st' hr => ?_)
    rcases hr with ⟨rfl, hI'⟩ | ⟨rfl, hX⟩
    · simp only [go_sem, w2]
      exact Wk.mask [0, 3] ⟨n - (j + 1), by omega, j + 1, hlt, rfl, hI', rfl⟩
    · simp only [go_sem, Try.results91]
      exact ⟨_, _, Weak.refl _ _ _ _, h _ _ (.inr hX)⟩
  · have hd : decide ((0 : Int) ≤ (n : Int) - 1 - j) = false := decide_eq_false (by omega)
    simp only [go_sem, hd, Try.results91]
    exact ⟨_, _, Weak.refl _ _ _ _, h _ _ (.inl ((show j = n by omega) ▸ hI))⟩
theorem ren74_ac {n i1 i2 i3 : Nat} {nums : List Int} {w : Option TypeId} (x : Int) (hn : n ≤ 100000) (hx : 0 ≤ x ∧ x < ((n + nums.length : Nat) : Int)) (hl : nums.length ≤ 100000) (σ : St) (h1 : σ[i1]? = some (some (.cells [dn n]))) (h2 : σ[i2]? = some (some (.cells [.rs i3 1 0 nums.length w]))) (h3 : σ[i3]? = some (ints nums)) (G : Glob) (R : A → St → Prop)
    (h : R (di (renH n nums x)) σ) : AC Try.prog G 74 [di x, .ref i1 0, .ref i2 0] σ R := by
  refine ac_enter mixed Try.func74 rfl Try.ntmps74 (by simp only [go_sem]) fun hbd => ?_
  simp only [List.length_cons, List.length_nil, Nat.reduceAdd, Nat.reduceSub, List.replicate_succ, List.replicate_zero, List.cons_append, List.nil_append]
  have w1 : IntKind.i64.wrap (x - (n : Int)) = x - n := wrap64_id _ (by omega) (by omega)
  simp only [go_sem, live_of h1, objK_of h1]
  by_cases hlt : x < (n : Int)
  · rw [renH, if_pos hlt] at h
    simp only [go_sem, decide_eq_true hlt, Try.results74]
    exact ret_d0 h
  · rw [renH, if_neg hlt] at h
    have hi : (x - (n : Int)).toNat < nums.length := by omega
    have e1 := getD_intsA hi
    have e2 : x - (n : Int) = ((x - (n : Int)).toNat : Int) := by omega
    simp only [go_sem, decide_eq_false hlt, live_of h2, objK_of h2, live_of h3, objK_of h3, w1, e1, Nat.mul_one, Nat.zero_add, List.length_map, Try.results74]
    exact ⟨⟨by omega, by omega⟩, by omega, ret_d0 h⟩
end Go.Proofs.Ytpmjdaiboniagaa
end PartV1
