import Derived.Test.YtpmjdaiboniagaaMH6
import Derived.Test.YtpmjdaiboniagaaMH5
import Derived.Test.YtpmjdaiboniagaaRA
import Derived.Test.YtpmjdaiboniagaaMH1

section PartU23
/- Unit propagation, plain: closed, order, monotonic, reasons. -/
set_option linter.unusedSimpArgs false
set_option linter.unusedVariables false
namespace Go.Proofs.Ytpmjdaiboniagaa
open Go Go.Ab

theorem valid_nz {f : Cnf} (h : validC f = true) : ∀ c ∈ f.cls, ∀ l ∈ c, l ≠ 0 := fun c hc l hl => ((validC_spec h).2 c hc l hl).1
/-- What Propagate answers, as a chain. -/
theorem propS_chain {f : Cnf} {lits : List Int} (h : (validC f && litsOk f.vars [] lits) = true) : ∃ X : List (Int × Nat), (propS f lits).1 = initT [] lits ++ X.map (·.1) ∧ (propS f lits).2.1 = (initT [] lits).map (fun _ => -1) ++ X.map (fun p => (p.2 : Int)) ∧ Chain f.cls (initT [] lits) X ∧
    (((propS f lits).2.2 = -1 ∧ ∀ c ∈ f.cls, (statS (propS f lits).1 c 0).1 = 0) ∨ ∃ i : Nat, (propS f lits).2.2 = i ∧ i < f.cls.length ∧ (statS (propS f lits).1 (f.cls.getD i []) 0).1 = 1) := by
  obtain ⟨q1, q2, _⟩ := propS_spec h
  have hv := (validC_spec (Bool.and_eq_true _ _ ▸ h : _ ∧ _).1).1
  have hl := q1.len hv.1
  rw [propS, if_pos h] at q1 hl ⊢
  obtain ⟨X, a, b, c, d⟩ := run_chain (cls := f.cls) (k := (f.vars + 1).toNat) (T := initT [] lits) (Rs := (initT [] lits).map fun _ => -1)
  refine ⟨X, a, b, c, ?_⟩
  rw [← a] at d
  refine d.imp (fun d => ⟨d.1, findS_zero (d.2.resolve_left fun e => ?_)⟩) id
  rw [a, List.length_append, List.length_map] at hl
  omega
theorem propS_lits {f : Cnf} {lits : List Int} (h : (validC f && litsOk f.vars [] lits) = true) : ∀ l ∈ lits, l ∈ (propS f lits).1 := fun l hl => by
  obtain ⟨X, a, _⟩ := propS_chain h
  rw [a]; exact List.mem_append_left _ (initT_mem.2 (.inr hl))
theorem propS_mono {f g : Cnf} {lits all : List Int} (h : (validC f && litsOk f.vars [] lits) = true) (k : (validC g && litsOk g.vars [] all) = true) (hl : ∀ l ∈ lits, l ∈ all) (hs : SubC f.cls g.cls) (hc : (propS g all).2.2 = -1) :
    (propS f lits).2.2 = -1 ∧ ∀ l ∈ (propS f lits).1, l ∈ (propS g all).1 := by
  have zf := valid_nz (Bool.and_eq_true _ _ ▸ h : _ ∧ _).1
  have zg := valid_nz (Bool.and_eq_true _ _ ▸ k : _ ∧ _).1
  obtain ⟨Y, _, _, _, e⟩ := propS_chain k
  have hC : Cl g.vars g.cls (propS g all).1 := ⟨(propS_spec k).1, by
    rcases e with e | ⟨i, e, _⟩
    · exact e.2
    · omega⟩
  obtain ⟨X, a, _, c, d⟩ := propS_chain h
  have hsub := Chain.sub zf zg hC hs c fun l q => propS_lits k l (hl l ((initT_mem.1 q).resolve_left (by simp)))
  rw [← a] at hsub
  refine ⟨?_, hsub⟩
  rcases d with d | ⟨i, d, hi, h1⟩
  · exact d.1
  · exfalso
    have hcm := getD_mem [] hi
    obtain ⟨D, hD, hDl⟩ := hs _ hcm
    obtain ⟨_, b⟩ := stat_inv1 (zf _ hcm) h1
    refine hC.not_false zg hD fun l q => Decidable.byContradiction fun n => ?_
    have : l ∈ opL (propS f lits).1 (f.cls.getD i []) := mem_opL.2 ⟨(hDl l).1 q, fun m => n (hsub _ m)⟩
    rw [b] at this; simp at this
theorem nodup_sub : ∀ {a b : List Int}, a.Nodup → (∀ x ∈ a, x ∈ b) → a.length ≤ b.length
  | [], b, _, _ => by simp
  | x :: a, b, h, hs => by
    rw [List.nodup_cons] at h
    have hx := hs x (by simp)
    have := nodup_sub (b := b.erase x) h.2 fun y hy => (List.mem_erase_of_ne (show y ≠ x from fun e => h.1 (e ▸ hy))).2 (hs y (List.mem_cons_of_mem _ hy))
    rw [List.length_erase_of_mem hx] at this
    have := List.length_pos_of_mem hx
    simp only [List.length_cons]; omega
/-- The reasons, one by one. -/
theorem propS_reason {f : Cnf} {lits : List Int} (h : (validC f && litsOk f.vars [] lits) = true) {j : Nat} (hj : j < (propS f lits).1.length) :
    (((propS f lits).2.1.getD j 0 = -1) ∧ (propS f lits).1.getD j 0 ∈ lits) ∨ ((propS f lits).1.getD j 0 ∉ lits ∧ ∃ i : Nat, (propS f lits).2.1.getD j 0 = i ∧ i < f.cls.length ∧ statS ((propS f lits).1.take j) (f.cls.getD i []) 0 = (2, (propS f lits).1.getD j 0) ∧ (i : Int) ∉ (propS f lits).2.1.drop (j + 1)) := by
  obtain ⟨X, a, b, c, _⟩ := propS_chain h
  obtain ⟨q1, q2, _⟩ := propS_spec h
  have zf := valid_nz (Bool.and_eq_true _ _ ▸ h : _ ∧ _).1
  have hnd := q1.nodup
  rw [a] at hnd hj ⊢
  rw [b]
  have hmem : ∀ x, x ∈ initT [] lits ↔ x ∈ lits := fun x => by rw [initT_mem]; simp
  generalize initT [] lits = T0 at *
  rcases Nat.lt_or_ge j T0.length with h1 | h1
  · refine .inl ⟨?_, ?_⟩
    · simp only [List.getD_eq_getElem?_getD]
      rw [List.getElem?_append_left (by simpa using h1)]
      simp [h1]
    · rw [← hmem]
      simp only [List.getD_eq_getElem?_getD]
      rw [List.getElem?_append_left h1, List.getElem?_eq_getElem h1]
      exact List.getElem_mem h1
  · right
    obtain ⟨m, rfl⟩ : ∃ m, j = T0.length + m := ⟨j - T0.length, by omega⟩
    simp only [List.length_append, List.length_map] at hj
    have hm : m < X.length := by omega
    obtain ⟨⟨x, i⟩, hx⟩ : ∃ p, X[m]? = some p := ⟨_, List.getElem?_eq_getElem hm⟩
    have e1 : (T0 ++ X.map (·.1)).getD (T0.length + m) 0 = x := by
      simp only [List.getD_eq_getElem?_getD]
      rw [List.getElem?_append_right (by omega), Nat.add_sub_cancel_left, List.getElem?_map, hx]; rfl
    have e2 : (T0.map (fun _ => (-1 : Int)) ++ X.map (fun p => (p.2 : Int))).getD (T0.length + m) 0 = i := by
      simp only [List.getD_eq_getElem?_getD]
      rw [List.getElem?_append_right (by simp), List.length_map, Nat.add_sub_cancel_left, List.getElem?_map, hx]; rfl
    have e3 : (T0 ++ X.map (·.1)).take (T0.length + m) = T0 ++ (X.take m).map (·.1) := by
      rw [List.take_append, List.take_of_length_le (by omega), Nat.add_sub_cancel_left, List.map_take]
    rw [e1, e2, e3]
    obtain ⟨g1, g2⟩ := c.at hx
    refine ⟨fun hl => ?_, i, rfl, g1, g2, fun hd => ?_⟩
    · have h2 := (hmem x).2 hl
      have h3 : x ∈ X.map (·.1) := List.mem_map.2 ⟨_, List.mem_of_getElem? hx, rfl⟩
      exact (List.nodup_append.1 hnd).2.2 x h2 x h3 rfl
    · rw [show T0.length + m + 1 = (T0.map fun _ => (-1 : Int)).length + (m + 1) by simp; omega, List.drop_append, List.drop_of_length_le (by simp), List.nil_append, Nat.add_sub_cancel_left] at hd
      obtain ⟨n, hn, e⟩ := List.getElem_of_mem hd
      simp only [List.length_drop, List.length_map] at hn
      rw [List.getElem_drop, List.getElem_map] at e
      obtain ⟨⟨y, i'⟩, hy⟩ : ∃ p, X[m + 1 + n]? = some p := ⟨_, List.getElem?_eq_getElem (by omega)⟩
      have hi' : i' = i := by
        have h4 : X[m + 1 + n] = (y, i') := by
          have := List.getElem?_eq_getElem (l := X) (i := m + 1 + n) (by omega)
          rw [this] at hy; exact Option.some.inj hy
        rw [h4] at e; exact Int.ofNat.inj e
      subst hi'
      obtain ⟨_, g4⟩ := c.at hy
      have hcm := zf _ (getD_mem [] g1)
      obtain ⟨s1, _⟩ := stat_inv hcm g4
      obtain ⟨_, s2⟩ := stat_inv hcm g2
      have hxc : x ∈ opL (T0 ++ (X.take m).map (·.1)) (f.cls.getD i' []) := by rw [s2]; simp
      refine satB_false.1 s1 x (mem_opL.1 hxc).1 (List.mem_append_right _ (List.mem_map.2 ⟨(x, i'), ?_, rfl⟩))
      exact List.mem_of_getElem? (i := m) (by rw [List.getElem?_take, if_pos (by omega), hx])
end Go.Proofs.Ytpmjdaiboniagaa
end PartU23

section PartU24
/- Unit propagation, plain: what Hints answers. -/
set_option linter.unusedSimpArgs false
set_option linter.unusedVariables false
namespace Go.Proofs.Ytpmjdaiboniagaa
open Go Go.Ab

/-- What is wanted, and the clauses that are needed, from the chain's end on. -/
def nd (cls : List (List Int)) (W0 : List Int) : List (Int × Nat) → List Int × List Nat
  | [] => (W0, [])
  | (x, i) :: X => if x ∈ (nd cls W0 X).1 then (wantW (nd cls W0 X).1 (cls.getD i []), i :: (nd cls W0 X).2) else nd cls W0 X
theorem nd_cons {cls : List (List Int)} {W0 : List Int} {x : Int} {i : Nat} {X : List (Int × Nat)} : nd cls W0 ((x, i) :: X) = if x ∈ (nd cls W0 X).1 then (wantW (nd cls W0 X).1 (cls.getD i []), i :: (nd cls W0 X).2) else nd cls W0 X := rfl
theorem nd_sub {cls : List (List Int)} {W0 : List Int} : ∀ {X : List (Int × Nat)}, ∀ i ∈ (nd cls W0 X).2, i ∈ X.map (·.2)
  | [], i, h => by simp [nd] at h
  | (x, m) :: X, i, h => by
    rw [nd_cons] at h
    split at h
    · rcases List.mem_cons.1 h with rfl | q
      · simp
      · exact List.mem_cons_of_mem _ (nd_sub i q)
    · exact List.mem_cons_of_mem _ (nd_sub i h)
/-- The program's pass over the trail, last first. -/
theorem needS_nd {cls : List (List Int)} {W0 : List Int} {c : Int} : ∀ {X : List (Int × Nat)} (qs : List (Int × Int)), (X.map (·.2)).Nodup → c ∉ X.map (fun p => (p.2 : Int)) →
    needS cls W0 [c] ((X.map fun p => (p.1, (p.2 : Int))).reverse ++ qs) = needS cls (nd cls W0 X).1 (c :: (nd cls W0 X).2.reverse.map (fun n : Nat => (n : Int))) qs
  | [], qs, _, _ => rfl
  | (x, i) :: X, qs, hn, hc => by
    simp only [List.map_cons, List.nodup_cons] at hn
    simp only [List.map_cons, List.mem_cons, not_or] at hc
    rw [List.map_cons, List.reverse_cons, List.append_assoc, needS_nd _ hn.2 hc.2, List.singleton_append, needS]
    rw [nd_cons]
    by_cases h : x ∈ (nd cls W0 X).1
    · have hi : ¬ (i : Int) ∈ c :: (nd cls W0 X).2.reverse.map (fun n : Nat => (n : Int)) := by
        rw [List.mem_cons, not_or]
        refine ⟨fun e => hc.1 e.symm, fun q => ?_⟩
        obtain ⟨n, q1, q2⟩ := List.mem_map.1 q
        have : n = i := Int.ofNat.inj q2
        subst this
        exact hn.1 (nd_sub n (List.mem_reverse.1 q1))
      rw [if_pos ⟨by omega, h⟩, if_pos h, if_neg hi]
      simp
    · rw [if_neg (fun q => h q.2), if_neg h]
theorem needS_neg {cls : List (List Int)} : ∀ {ps : List (Int × Int)} {W acc : List Int}, (∀ p ∈ ps, p.2 < 0) → needS cls W acc ps = acc
  | [], _, _, _ => rfl
  | (l, r) :: ps, W, acc, h => by
    have := h _ (List.mem_cons_self ..)
    rw [needS, if_neg (by simp only at this; omega), needS_neg fun p hp => h p (List.mem_cons_of_mem _ hp)]
theorem collS_skip {acc : List Int} : ∀ {Rs Q : List Int}, (∀ r ∈ Rs, r ∉ acc) → collS acc (Rs ++ Q) = collS acc Q
  | [], _, _ => rfl
  | r :: Rs, Q, h => by
    rw [List.cons_append, collS, if_neg (h r (by simp)), collS_skip fun x hx => h x (List.mem_cons_of_mem _ hx)]
theorem collS_filter : ∀ {Rs acc : List Int}, Rs.Nodup → collS acc Rs = Rs.filter fun r => decide (r ∈ acc)
  | [], _, _ => rfl
  | r :: Rs, acc, h => by
    rw [List.nodup_cons] at h
    unfold collS
    by_cases k : r ∈ acc
    · rw [if_pos k, List.filter_cons_of_pos (by simpa using k), collS_filter h.2]
      congr 1
      refine List.filter_congr fun x hx => ?_
      rw [decide_eq_decide]
      exact List.mem_erase_of_ne fun e => h.1 (e ▸ hx)
    · rw [if_neg k, List.filter_cons_of_neg (by simpa using k), collS_filter h.2]
theorem nd_filter {cls : List (List Int)} {W0 : List Int} {c : Int} : ∀ {X : List (Int × Nat)}, (X.map (·.2)).Nodup → c ∉ X.map (fun p => (p.2 : Int)) → ∀ {acc : List Int}, (∀ n : Nat, n ∈ X.map (·.2) → ((n : Int) ∈ acc ↔ n ∈ (nd cls W0 X).2)) →
    (X.map fun p => (p.2 : Int)).filter (fun r => decide (r ∈ acc)) = (nd cls W0 X).2.map (fun n : Nat => (n : Int))
  | [], _, _, _, _ => rfl
  | (x, i) :: X, hn, hc, acc, ha => by
    simp only [List.map_cons, List.nodup_cons] at hn
    simp only [List.map_cons, List.mem_cons, not_or] at hc
    have h0 := ha i (by simp)
    have ih := nd_filter (cls := cls) (W0 := W0) hn.2 hc.2 (acc := acc) fun n hn' => by
      rw [ha n (by simp at hn' ⊢; exact .inr hn')]
      rw [nd_cons]
      split
      · rw [List.mem_cons]
        exact ⟨fun k => k.resolve_left fun e => hn.1 (e ▸ hn'), .inr⟩
      · exact Iff.rfl
    rw [List.map_cons]
    rw [nd_cons] at h0 ⊢
    by_cases h : x ∈ (nd cls W0 X).1
    · rw [if_pos h] at h0 ⊢
      rw [List.filter_cons_of_pos (by simpa using h0.2 (by simp)), ih]; rfl
    · rw [if_neg h] at h0 ⊢
      have : (i : Int) ∉ acc := fun q => hn.1 (nd_sub i (h0.1 q))
      rw [List.filter_cons_of_neg (by simpa using this), ih]
/-- The chain's reasons are distinct, and none of them is falsified at its end. -/
theorem Chain.nodup {cls : List (List Int)} (hc : ∀ c ∈ cls, ∀ l ∈ c, l ≠ 0) : ∀ {X : List (Int × Nat)} {T : List Int}, Chain cls T X → (X.map (·.2)).Nodup ∧ (∀ n ∈ X.map (·.2), n < cls.length ∧ satB T (cls.getD n []) = false ∧ satB (T ++ X.map (·.1)) (cls.getD n []) = true)
  | [], T, _ => by simp
  | (x, i) :: X, T, h => by
    cases h with
    | cons hi hs h =>
      obtain ⟨a, b⟩ := Chain.nodup hc h
      obtain ⟨s1, s2⟩ := stat_inv (hc _ (getD_mem [] hi)) hs
      have hx : x ∈ cls.getD i [] := (mem_opL.1 (by rw [s2]; simp : x ∈ opL T (cls.getD i []))).1
      have sx : ∀ S, x ∈ S → satB S (cls.getD i []) = true := fun S hS => by
        simp only [satB, List.any_eq_true, decide_eq_true_eq]; exact ⟨x, hx, hS⟩
      refine ⟨?_, fun n hn => ?_⟩
      · rw [List.map_cons, List.nodup_cons]
        refine ⟨fun q => ?_, a⟩
        have := (b i q).2.1
        rw [sx _ (by simp)] at this; cases this
      · rcases (show n = i ∨ n ∈ X.map (·.2) by simpa using hn) with rfl | q
        · exact ⟨hi, s1, sx _ (by simp)⟩
        · obtain ⟨b1, b2, b3⟩ := b n q
          exact ⟨b1, satB_false.2 fun l hl k => satB_false.1 b2 l hl (List.mem_append_left _ k), by simpa using b3⟩
/-- What the hints say, one after the other. -/
def HintOk (cls : List (List Int)) (c : Nat) : List Int → List Nat → Prop
  | K, [] => (statS K (cls.getD c []) 0).1 = 1
  | K, i :: S => i < cls.length ∧ ∃ x, statS K (cls.getD i []) 0 = (2, x) ∧ (∃ r ∈ S ++ [c], -x ∈ cls.getD r []) ∧ HintOk cls c (K ++ [x]) S
theorem nd_want {cls : List (List Int)} {c : Nat} : ∀ {X : List (Int × Nat)} {w : Int}, w ∈ (nd cls (wantW [] (cls.getD c [])) X).1 → ∃ r ∈ (nd cls (wantW [] (cls.getD c [])) X).2 ++ [c], -w ∈ cls.getD r []
  | [], w, h => ⟨c, by simp, by simpa [nd, mem_wantW] using h⟩
  | (x, i) :: X, w, h => by
    rw [nd_cons] at h ⊢
    split at h
    · rename_i k
      rw [if_pos k]
      rcases mem_wantW.1 h with q | q
      · obtain ⟨r, a, b⟩ := nd_want q
        exact ⟨r, List.mem_cons_of_mem _ a, b⟩
      · exact ⟨i, by simp, q⟩
    · rename_i k
      rw [if_neg k]
      exact nd_want h
theorem hint_ok {cls : List (List Int)} (hc : ∀ c ∈ cls, ∀ l ∈ c, l ≠ 0) {c : Nat} (hci : c < cls.length) : ∀ {X : List (Int × Nat)} {T K : List Int}, Chain cls T X → (statS (T ++ X.map (·.1)) (cls.getD c []) 0).1 = 1 → (∀ l ∈ K, l ∈ T) → (∀ w ∈ (nd cls (wantW [] (cls.getD c [])) X).1, w ∈ T → w ∈ K) →
    HintOk cls c K (nd cls (wantW [] (cls.getD c [])) X).2
  | [], T, K, _, h1, hK, hW => by
    simp only [List.map_nil, List.append_nil] at h1
    exact stat_congr1 (hc _ (getD_mem [] hci)) (fun l hl => ⟨hK _, fun q => hW _ (by simpa [nd, mem_wantW] using hl) q⟩) (fun l _ q => hK l q) h1
  | (x, i) :: X, T, K, h, h1, hK, hW => by
    have h1' : (statS (T ++ [x] ++ X.map (·.1)) (cls.getD c []) 0).1 = 1 := by simpa using h1
    cases h with
    | cons hi hs h =>
      rw [nd_cons] at hW ⊢
      by_cases k : x ∈ (nd cls (wantW [] (cls.getD c [])) X).1
      · rw [if_pos k] at hW ⊢
        have hz := hc _ (getD_mem [] hi)
        have hst : statS K (cls.getD i []) 0 = (2, x) := stat_congr hz (fun l hl => ⟨hK _, fun q => hW _ (mem_wantW.2 (.inr (by simpa using hl))) q⟩) (fun l _ q => hK l q) hs
        refine ⟨hi, x, hst, nd_want k, hint_ok hc hci h h1' ?_ fun w hw hT => ?_⟩
        · intro l hl
          rcases List.mem_append.1 hl with q | q
          · exact List.mem_append_left _ (hK l q)
          · exact List.mem_append_right _ q
        · rcases List.mem_append.1 hT with q | q
          · exact List.mem_append_left _ (hW w (mem_wantW.2 (.inl hw)) q)
          · exact List.mem_append_right _ q
      · rw [if_neg k] at hW ⊢
        refine hint_ok hc hci h h1' (fun l hl => List.mem_append_left _ (hK l hl)) fun w hw hT => ?_
        rcases List.mem_append.1 hT with q | q
        · exact hW w hw q
        · rw [List.mem_singleton] at q; exact absurd (q ▸ hw) k
theorem nd_len {cls : List (List Int)} {W0 : List Int} : ∀ {X : List (Int × Nat)}, (nd cls W0 X).2.length ≤ X.length
  | [] => by simp [nd]
  | (x, i) :: X => by
    have := nd_len (cls := cls) (W0 := W0) (X := X)
    rw [nd_cons]
    split <;> simp <;> omega
theorem nd_lt {cls : List (List Int)} (hc : ∀ c ∈ cls, ∀ l ∈ c, l ≠ 0) {W0 : List Int} {X : List (Int × Nat)} {T : List Int} (h : Chain cls T X) : ∀ i ∈ (nd cls W0 X).2, i < cls.length := fun i hi => ((h.nodup hc).2 i (nd_sub i hi)).1
/-- What Hints answers is a chain of needed clauses. -/
theorem hintS_spec {f : Cnf} {lits : List Int} (h : (validC f && litsOk f.vars [] lits) = true) :
    ((propS f lits).2.2 = -1 ∧ hintS f lits = ([], 4)) ∨ ∃ (c : Nat) (S : List Nat), (propS f lits).2.2 = c ∧ hintS f lits = ((S ++ [c]).map (fun n : Nat => (n : Int)), 0) ∧ c < f.cls.length ∧ (S.length : Int) ≤ f.vars ∧ HintOk f.cls c lits S := by
  have hz := valid_nz (Bool.and_eq_true _ _ ▸ h : _ ∧ _).1
  have hv := (validC_spec (Bool.and_eq_true _ _ ▸ h : _ ∧ _).1).1
  obtain ⟨q1, q2, _⟩ := propS_spec h
  have hl := q1.len hv.1
  obtain ⟨X, a, b, hX, d⟩ := propS_chain h
  rcases d with d | ⟨c, d, hci, h1⟩
  · exact .inl ⟨d.1, by rw [hintS, if_pos h, if_pos (by omega)]⟩
  · right
    rw [a] at h1 hl
    rw [List.length_append, List.length_map] at hl
    have hnd := hX.nodup hz
    have hcX : c ∉ X.map (·.2) := fun q => by
      have := (hnd.2 c q).2.2
      rw [(stat_inv1 (hz _ (getD_mem [] hci)) h1).1] at this; cases this
    have hcX' : (c : Int) ∉ X.map (fun p => (p.2 : Int)) := fun q => by
      obtain ⟨p, q1, q2⟩ := List.mem_map.1 q
      exact hcX (List.mem_map.2 ⟨p, q1, Int.ofNat.inj q2⟩)
    refine ⟨c, (nd f.cls (wantW [] (f.cls.getD c [])) X).2, d, ?_, hci, ?_, ?_⟩
    · rw [hintS, if_pos h, if_neg (by omega), d, a, b]
      have ez : (initT [] lits ++ X.map (·.1)).zip ((initT [] lits).map (fun _ => (-1 : Int)) ++ X.map (fun p => (p.2 : Int))) = (initT [] lits).zip ((initT [] lits).map fun _ => (-1 : Int)) ++ X.map (fun p => (p.1, (p.2 : Int))) := by
        rw [List.zip_append (by simp)]
        congr 1
        rw [List.zip_map, List.zip_eq_zipWith, List.map_zipWith]
        simp [List.zipWith_self]
      rw [ez, List.reverse_append, Int.toNat_natCast, needS_nd _ hnd.1 hcX', needS_neg, collS_skip, collS_filter, nd_filter (cls := f.cls) (W0 := wantW [] (f.cls.getD c [])) hnd.1 hcX']
      · simp
      · intro n hn
        rw [List.mem_cons, List.mem_map]
        constructor
        · rintro (e | ⟨m, q1, q2⟩)
          · exact absurd (Int.ofNat.inj e ▸ hn) hcX
          · rw [← Int.ofNat.inj q2]; exact List.mem_reverse.1 q1
        · exact fun q => .inr ⟨n, List.mem_reverse.2 q, rfl⟩
      · have := hnd.1
        rw [show X.map (fun p => (p.2 : Int)) = (X.map (·.2)).map (fun n : Nat => (n : Int)) by simp [List.map_map, Function.comp_def]]
        exact List.Pairwise.map _ (fun x y hxy e => hxy (Int.ofNat.inj e)) this
      · intro r hr
        obtain ⟨_, _, rfl⟩ := List.mem_map.1 hr
        rw [List.mem_cons, not_or]
        refine ⟨by omega, fun q => ?_⟩
        obtain ⟨m, _, q2⟩ := List.mem_map.1 q
        omega
      · intro p hp
        rw [List.mem_reverse] at hp
        have := (List.of_mem_zip (a := p.1) (b := p.2) hp).2
        obtain ⟨_, _, e⟩ := List.mem_map.1 this
        omega
    · have := nd_len (cls := f.cls) (W0 := wantW [] (f.cls.getD c [])) (X := X)
      omega
    · exact hint_ok hz hci hX h1 (fun l hl => initT_mem.2 (.inr hl)) fun w _ hw => (initT_mem.1 hw).resolve_left (by simp)
end Go.Proofs.Ytpmjdaiboniagaa
end PartU24

section PartU27
/- UnitpropHints, evaluated. -/
set_option linter.unusedSimpArgs false
set_option linter.unusedVariables false
set_option maxRecDepth 100000
namespace Go.Proofs.Ytpmjdaiboniagaa
open Go Go.Ab

theorem unit_mem {T c : List Int} {x : Int} (hc : ∀ l ∈ c, l ≠ 0) (h : statS T c 0 = (2, x)) : x ∈ c := (mem_opL.1 (by rw [(stat_inv hc h).2]; simp : x ∈ opL T c)).1
theorem hintOk_lt {cls : List (List Int)} {c : Nat} : ∀ {S : List Nat} {K : List Int}, HintOk cls c K S → ∀ i ∈ S, i < cls.length
  | [], _, _, i, hi => by cases hi
  | j :: S, K, h, i, hi => by
    obtain ⟨h1, x, _, _, h2⟩ := h
    rcases List.mem_cons.1 hi with rfl | q
    · exact h1
    · exact hintOk_lt h2 i q
set_option maxHeartbeats 4000000 in
theorem law8_ac (f : Cnf) (lits : List Int) (h1 : f.cls.length ≤ reachBytes) (h3 : ∀ c ∈ f.cls, c.length ≤ reachBytes) (hv : I64 f.vars) (hll : lits.length ≤ reachBytes) (hl : ∀ l ∈ lits, I64 l) (σ : St) (G : Glob) (R : A → St → Prop) (h : R (db true) σ) : AC Try.prog G 8 [.d (cnfD f), .d (isD lits)] σ R := by
  refine ac_enter mixed Try.func8 rfl Try.ntmps8 (by simp only [go_sem]) fun hbd => ?_
  simp only [List.length_cons, List.length_nil, Nat.reduceAdd, Nat.reduceSub, List.replicate_succ, List.replicate_zero, List.cons_append, List.nil_append]
  simp only [cnfD, go_sem]
  refine ac' (head23_ac _ _ _ ?_)
  simp only [go_sem]
  refine ac' (fine_ac f lits hv h1 h3 hll hl _ _ _ ?_)
  simp only [go_sem, Try.results8]
  refine ⟨fun _ => ret_d hbd h, fun hb => ?_⟩
  obtain ⟨⟨b1, b2, b3, b4⟩, hvv, hok⟩ := fineB_spec (show fineB f lits = true by simpa using hb)
  obtain ⟨hv0, hcl⟩ := validC_spec hvv
  have hz := valid_nz hvv
  have hls := litsOk_spec (Bool.and_eq_true _ _ ▸ hok : _ ∧ _).2
  refine ac' (propagate_ac f lits hv (by omega) (fun c hc => by have := b4 c hc; omega) hll hl _ _ _ ?_)
  have hH := hintS_spec hok
  obtain ⟨⟨T, Rs, c⟩, hr⟩ : ∃ r, propS f lits = r := ⟨_, rfl⟩
  obtain ⟨⟨H, e⟩, hh⟩ : ∃ r, hintS f lits = r := ⟨_, rfl⟩
  rw [hr, hh] at hH
  rw [hr]
  simp only [isD, clsD, go_sem, List.length_map]
  refine ac' (hints_ac f lits hv (by omega) (fun c hc => by have := b4 c hc; omega) hll hl _ _ _ ?_)
  rw [hh]
  rcases hH with ⟨hc, he⟩ | ⟨c', S, hc, he, hci, hSl, hHO⟩
  · simp only at hc; subst hc
    obtain ⟨rfl, rfl⟩ := Prod.mk.inj he
    have d1 : ((-1 : Int) == -1) = true := rfl
    simp only [isD, clsD, go_sem, List.length_map, d1, Try.results8]
    exact ret_d hbd h
  · simp only at hc; subst hc
    obtain ⟨hH, rfl⟩ := Prod.mk.inj he
    obtain ⟨N, hN⟩ : ∃ N, S ++ [c'] = N := ⟨_, rfl⟩
    have hNl : N.length = S.length + 1 := by rw [← hN]; simp
    have hHl : H.length = N.length := by rw [hH, hN, List.length_map]
    have hlast : H.getD (N.length - 1) 0 = c' := by
      rw [hH, hNl, Nat.add_sub_cancel, List.getD_eq_getElem?_getD, List.getElem?_map, List.getElem?_append_right (by omega)]; simp
    have hHN : ∀ k, k < N.length → H.getD k 0 = ((N.getD k 0 : Nat) : Int) := fun k hk => by
      rw [hH, hN, List.getD_eq_getElem?_getD, List.getElem?_map, List.getElem?_eq_getElem hk, List.getD_eq_getElem?_getD, List.getElem?_eq_getElem hk]; rfl
    have d1 : ((c' : Int) == -1) = false := by rw [beq_eq_false_iff_ne]; omega
    have w1 : IntKind.i64.wrap (f.vars + 1) = f.vars + 1 := wrap64_id _ (by omega) (by omega)
    have w4 : IntKind.i64.wrap ((H.length : Int) - 1) = ((N.length - 1 : Nat) : Int) := by rw [wrap64_id _ (by omega) (by omega)]; omega
    have d2 : decide (f.vars + 1 < (H.length : Int)) = false := decide_eq_false (by omega)
    have d3 : ((H.length : Int) == 0) = false := by rw [beq_eq_false_iff_ne]; omega
    have e1 : List.getD (List.map iD H) (N.length - 1) default = iD c' := by rw [getD_mapD (by omega), hlast]
    have d4 : ((c' : Int) != c') = false := by simp
    simp only [isD, clsD, go_sem, List.length_map, w1, w4, d1, d2, d3, d4, e1, Try.results8]
    refine ⟨fun _ => ⟨rfl, by omega, by omega⟩, fun q => absurd q (by simp), fun _ => ⟨⟨by simp only [maxLen]; omega, by omega⟩, ?_⟩⟩
    rw [flat_isD]
    have hNm : ∀ k, k < N.length → N.getD k 0 < f.cls.length := fun k hk => by
      have hm : N.getD k 0 ∈ S ++ [c'] := by rw [hN]; exact getD_mem 0 hk
      rcases List.mem_append.1 hm with q | q
      · exact hintOk_lt hHO _ q
      · rw [List.mem_singleton.1 q]; exact hci
    refine aw_loop (fun m fr st => ∃ (k : Nat) (K : List Int), k ≤ S.length ∧ m = S.length + 1 - k ∧ K.length = lits.length + k ∧ HintOk f.cls c' K (S.drop k) ∧ fr = [.any, .any, .ref σ.length 0, .any, .any, db true, .any, .any, .any, .d (isD H), .any, .rs (σ.length + 1) 1 0 K.length (some 3), dn k, .any, .any, .any, .any, .any, .any, .any, .any, .any, .any, .any, .any, .any, .any, .any, .any, .any, .any, .any, .any, .any, .any, .any, .any, .any, .any, .any, .any, .any, .any, .any, .any, .any, .any, .any, .any, .any, .any, .any, .any, .any, .any, .any, .any, .any, .any, .any, .any, .any, .any, .any, .any, .any, .any, .any, .any, .any, .any, .any, .any, .any, .any, .any, .any, .any, .any, .any, .any, .any, .any, .any, .any, .any, .any, .any, .any, .any, .any, .any, .any, .any, .any, .any, .any, .any, .any, .any, .any, .any, .any, .any, .any, .any, .any, .any, .any, .any, .any, .any, .any, .any, .any, .any, .any, .any, .any, .any, .any, .any, .any, .any, .any, .any, .any, .any, .any, .any, .any, .any, .any, .any, .any, .any, .any, .any, .any, .any, .any, .any, .any, .any, .any, .any, .any, .any, .any, .any, .any, .any, .any, .any, .any, .any, .any, .any, .any, .any, .any, .any, .any, .any, .any, .any, .any] ∧ st = σ ++ [some (.cells [.d (iD f.vars), .d (clsD f.cls)]), ints K]) (S.length + 1) _
      (Wk.keep [2, 5, 9, 11, 12] [0, 2] (by decide) (Nat.le_refl _) hbd ⟨0, lits, by omega, rfl, by omega, hHO, by simp only [isD, go_sem]; rfl, by simp only [clsD, go_sem]⟩) ?_
    rintro m fr st ⟨k, K, hk, hm, hKl, hK, rfl, rfl⟩
    have hkN : k < N.length := by omega
    have hd : decide ((k : Int) < (H.length : Int)) = true := decide_eq_true (by omega)
    have w2 := wrapS k (by omega)
    have hi := hNm k hkN
    have e1 : List.getD (List.map iD H) k default = iD ((N.getD k 0 : Nat) : Int) := by rw [getD_mapD (by omega), hHN k hkN]
    have hkl : ((k : Int) == ((N.length - 1 : Nat) : Int)) = decide (k = S.length) := by
      rw [Bool.eq_iff_iff, beq_iff_eq, decide_eq_true_eq]; omega
    have hkd : S.drop k = [] ∧ k = S.length ∧ N.getD k 0 = c' ∨ k < S.length ∧ S.drop k = N.getD k 0 :: S.drop (k + 1) ∧ N.drop (k + 1) = S.drop (k + 1) ++ [c'] := by
      rcases Nat.lt_or_ge k S.length with q | q
      · right
        refine ⟨q, ?_, by rw [← hN, List.drop_append_of_le_length (by omega)]⟩
        have : N.getD k 0 = S.getD k 0 := by rw [← hN]; simp only [List.getD_eq_getElem?_getD]; rw [List.getElem?_append_left q]
        rw [this]
        exact drop_getD 0 q
      · have : k = S.length := by omega
        subst this
        exact .inl ⟨by simp, rfl, by rw [← hN]; simp⟩
    generalize N.getD k 0 = i at e1 hi hkd
    have d5 : decide ((i : Int) < 0) = false := decide_eq_false (by omega)
    have d6 : decide ((f.cls.length : Int) ≤ (i : Int)) = false := decide_eq_false (by omega)
    have e3 := isD_getD hi
    have hcm := getD_mem [] hi
    have hck := hcl _ hcm
    have hcb := b4 _ hcm
    have hcz := hz _ hcm
    obtain ⟨C, hC⟩ : ∃ C, f.cls.getD i [] = C := ⟨_, rfl⟩
    rw [hC] at e3 hck hcb hcz
    simp only [isD, clsD, go_sem, List.length_map, hd, e1, e3, w2, w4, d5, d6, hkl, Try.results8]
    refine ⟨⟨by omega, by omega⟩, ⟨by omega, by omega⟩, ⟨by omega, by omega⟩, ⟨by omega, by omega⟩, ac' (ac_pure (.tup [di (statS K C 0).1, di (statS K C 0).2]) rfl (views2 (Views.d _) (views_ints (some 3) (at_own 1 rfl))) (status_ac C K (by simp only [reachBytes]; omega) (by simp only [reachBytes]; omega) (fun l hl => by have := hck l hl; omega) [] G _ rfl) ?_)⟩
    rcases hkd with ⟨k1, k2, k3⟩ | ⟨k1, k2, k3⟩
    · rw [k1] at hK
      simp only [HintOk] at hK
      rw [← k3, hC] at hK
      have k4 : decide (k = S.length) = true := decide_eq_true k2
      simp only [isD, clsD, go_sem, List.length_map, hd, e1, e3, w2, w4, hkl, hK, k4, Try.results8]
      exact ret_d hbd h
    · rw [k2] at hK
      obtain ⟨_, x, hst, ⟨r, hr, hxr⟩, hK'⟩ := hK
      rw [hC] at hst
      have k4 : decide (k = S.length) = false := decide_eq_false (by omega)
      have d7 : ((2 : Int) != 2) = false := rfl
      rw [hst]
      simp only [isD, clsD, go_sem, List.length_map, hd, e1, e3, w2, w4, hkl, k4, d7, Try.results8]
      have hxC := hck x (unit_mem hcz hst)
      rw [← k3] at hr
      have w3 : IntKind.i64.wrap (0 - x) = -x := by rw [wrap64_id _ (by omega) (by omega)]; omega
      refine aw_loop (fun m fr st => ∃ (j : Nat) (b : Bool), j ≤ N.length ∧ k + 1 ≤ j ∧ m = N.length - j ∧ (b || (N.drop j).any fun r => decide (-x ∈ f.cls.getD r [])) = true ∧ fr = [.any, .any, .ref σ.length 0, .any, .any, db true, .any, .any, .any, .d (isD H), .any, .rs (σ.length + 1) 1 0 K.length (some 3), dn k, .any, di x, db b, dn j, .any, .any, .any, .any, .any, .any, .any, .any, .any, .any, .any, .any, .any, .any, .any, .any, .any, .any, .any, .any, .any, .any, .any, .any, .any, .any, .any, .any, .any, .any, .any, .any, .any, .any, .any, .any, .any, .any, .any, .any, .any, .any, .any, .any, .any, .any, .any, .any, .any, .any, .any, .any, .any, .any, .any, .any, .any, .any, .any, .any, .any, .any, .any, .any, .any, .any, .any, .any, .any, .any, .any, .any, .any, .any, .any, .any, .any, .any, .any, .any, .any, .any, .any, .any, .any, .any, .any, .any, .any, .any, .any, .any, .any, .any, .any, .any, .any, .any, .any, .any, .any, .any, .any, .any, .any, .any, .any, .any, .any, .any, .any, .any, .any, .any, .any, .any, .any, .any, .any, .any, .any, .any, .any, .any, .any, .any, .any, .any, .any, .any, .any, .any, .any, .any, .any, .any, .any, .any, .any, .any, .any, .any, .any, .any, .any, .any, .any, .any, .any, .any] ∧ st = σ ++ [some (.cells [.d (iD f.vars), .d (clsD f.cls)]), ints K]) (N.length - (k + 1)) _
        (Wk.mask [2, 5, 9, 11, 12, 14, 15, 16] ⟨k + 1, false, by omega, by omega, rfl, ?_, by simp only [isD, go_sem], by simp only [clsD, go_sem]⟩) ?_
      · rw [Bool.false_or, List.any_eq_true]
        exact ⟨r, hr, decide_eq_true hxr⟩
      rintro m' fr st ⟨j, b, hj, hkj, hm', hb', rfl, rfl⟩
      rcases Nat.lt_or_ge j N.length with hlt | hge
      · have hd' : decide ((j : Int) < (H.length : Int)) = true := decide_eq_true (by omega)
        have w2' := wrapS j (by omega)
        have hj' := hNm j hlt
        have e1' : List.getD (List.map iD H) j default = iD ((N.getD j 0 : Nat) : Int) := by rw [getD_mapD (by omega), hHN j hlt]
        rw [drop_getD 0 hlt, List.any_cons] at hb'
        generalize N.getD j 0 = i' at e1' hj' hb'
        have d5' : decide ((i' : Int) < 0) = false := decide_eq_false (by omega)
        have d6' : decide ((f.cls.length : Int) ≤ (i' : Int)) = false := decide_eq_false (by omega)
        have e3' := isD_getD hj'
        have hcb' := b4 _ (getD_mem [] hj')
        generalize f.cls.getD i' [] = C' at e3' hb' hcb'
        simp only [isD, clsD, go_sem, List.length_map, hd', e1', e3', w2', w3, d5', d6', Try.results8]
        refine ⟨⟨by omega, by omega⟩, ⟨by omega, by omega⟩, ⟨by omega, by omega⟩, ⟨by omega, by omega⟩, ac' (has23_ac C' (-x) (by simp only [reachBytes]; omega) _ _ _ ?_)⟩
        simp only [isD, clsD, go_sem, List.length_map, hd', e1', e3', w2', w3, d5', d6', Try.results8]
        exact Wk.mask [2, 5, 9, 11, 12, 14, 15, 16] ⟨N.length - (j + 1), by omega, j + 1, b || decide (-x ∈ C'), hlt, by omega, rfl, by rw [Bool.or_assoc]; exact hb', rfl, rfl⟩
      · have hd' : decide ((j : Int) < (H.length : Int)) = false := decide_eq_false (by omega)
        rw [List.drop_eq_nil_of_le hge, List.any_nil, Bool.or_false] at hb'
        subst hb'
        simp only [isD, clsD, go_sem, List.length_map, hd', w2, Try.results8]
        refine ⟨⟨by omega, by simp only [maxLen]; omega, by omega⟩, Wk.keep [2, 5, 9, 11, 12] [0, 3] (by decide) (Nat.le_refl _) hbd ⟨S.length + 1 - (k + 1), by omega, k + 1, K ++ [x], by omega, rfl, by rw [List.length_append, List.length_singleton]; omega, hK', ?_, ?_⟩⟩
        · simp only [go_sem, List.length_append, List.length_singleton]
        · simp only [go_sem, List.map_append, List.map_cons, List.map_nil, ints]
end Go.Proofs.Ytpmjdaiboniagaa
end PartU27

section PartR8
/- UnitpropHints: the law answers true for every input, and leaves its input as it was. No condition. -/
set_option maxRecDepth 100000
set_option linter.unusedSimpArgs false
set_option linter.unusedVariables false
namespace Go.Proofs.Ytpmjdaiboniagaa
open Go Go.Ab Go.RowKit Go.ChangeShapes Go.WideShapes
theorem liftedUnitpropHints (os : Os) (started : os.Started) (H : Type) (enc : TypeId × Value → H) :
    ReturnsInHanded {} Try.checked os 8 .any (Rows.unitpropHintsSpec.pre6 enc Try.prog Try.f8 [] false) (Rows.unitpropHintsSpec.post enc Try.prog Try.f8 false true false false) := by
  refine returns_plain (C := Try.checked) own started (by kernel_rfl) Try.func8 (ChangeSpec.witness6 (enc := enc) (C := Try.checked) false ⟨#[], #[.agg #[.int .i64 0, .slice none 0 0], .slice none 0 0], []⟩ 8 (by kernel_rfl) (by kernel_rfl) (by kernel_rfl) (by kernel_rfl)) ?_
  intro W base args ds gs before hval hW hz
  refine calls_true (G := fun _ => none) (S := [3, 25, 22, 24]) (tb := 4) hW hval (by kernel_rfl) (by rw [Try.params8]; kernel_rfl) (by kernel_rfl) (by rw [Try.params8]; kernel_rfl) rfl (by kernel_rfl) Try.underlying4 (fun ds hds => ?_) (fun g x h => by cases h) hz (fun xs hx => ?_)
  · rw [Try.params8] at hds
    match ds, hds with
    | [d0, d1], _ => rfl
  · skip
    rw [Try.params8] at hx
    generalize args.toList = vs at hx
    cases hx with
    | cons h0 _ hx =>
      obtain ⟨n0, h0⟩ := h0
      obtain ⟨x0, rfl, k0⟩ := dty_cnf h0
      cases hx with
      | cons h1 _ hx =>
        obtain ⟨n1, h1⟩ := h1
        obtain ⟨x1, rfl, k1⟩ := dty_ints h1
        cases hx
        exact law8_ac x0 x1 k0.2.1 (fun c hc => (k0.2.2 c hc).1) k0.1 k1.1 k1.2 [] _ _ rfl
theorem closedUnitpropHints : joinedFacts Try.prog 8 Try.f8 Rows.unitpropHintsSpec Rows.unitpropHintsRow = true := by
  rw [joinedFacts, mayEnter, liftsFinal, makes]
  kernel_rfl
theorem unitpropHints_holds : Rows.UnitpropHintsSaid :=
  OpenClaim.holds_of_wide 8 Try.f8 rfl rfl rfl rfl rfl rfl rfl ⟨rfl, rfl, rfl, rfl, rfl⟩ rfl rfl rfl rfl rfl (by kernel_rfl) Try.func8 closedUnitpropHints
    (of_decide_eq_true (by kernel_rfl)) (by unfold Func.isWrapper; first | (rw [if_pos (by decide +kernel)]; kernel_rfl) | (rw [if_neg (by decide +kernel)]; exact ⟨rfl, rfl⟩))
    (fun os started H enc _ => liftedUnitpropHints os started H enc)
#print axioms unitpropHints_holds
end Go.Proofs.Ytpmjdaiboniagaa
end PartR8
