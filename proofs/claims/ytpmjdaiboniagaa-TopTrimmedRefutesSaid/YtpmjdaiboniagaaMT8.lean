import Derived.Test.YtpmjdaiboniagaaMT7
import Derived.Test.YtpmjdaiboniagaaMT6
import Derived.Test.YtpmjdaiboniagaaMT5

section PartV2
/- proof.Trim, evaluated. -/
set_option linter.unusedSimpArgs false
set_option linter.unusedVariables false
set_option maxRecDepth 100000
namespace Go.Proofs.Ytpmjdaiboniagaa
open Go Go.Ab

theorem getD_boolsA {l : List Bool} {k : Nat} (h : k < l.length) : (l.map fun x => A.d (.bool x)).getD k .any = A.d (.bool (l.getD k false)) := by
  simp only [List.getD_eq_getElem?_getD, List.getElem?_map, List.getElem?_eq_getElem h]; rfl
theorem Wk.via {G : Glob} {n0 : Nat} {fr fr' : Fr} {s s' : St} {I : Fr → St → Prop} (h : Weak G n0 fr s fr' s') (k : Wk G n0 I fr' s') : Wk G n0 I fr s := by
  obtain ⟨f, t, h1, h2⟩ := k
  exact ⟨f, t, h.trans h1, h2⟩
theorem hints_of {v : Int} : ∀ {l : List Stp} {n : Nat}, stepsOk v n l = true → ∀ k, k < l.length → ∀ h ∈ (l.getD k ⟨[], []⟩).hints, 0 ≤ h ∧ h < ((n + k : Nat) : Int)
  | [], n, _, k, hk => by simp at hk
  | s :: l, n, h, k, hk => by
    rw [stepsOk, Bool.and_eq_true] at h
    match k with
    | 0 =>
      intro x hx
      have := h.1
      simp only [stepOk, Bool.and_eq_true] at this
      have := List.all_eq_true.1 this.2 x (by simpa using hx)
      simp only [Bool.not_eq_true', Bool.or_eq_false_iff, decide_eq_false_iff_not] at this
      omega
    | k + 1 =>
      intro x hx
      have := hints_of h.2 k (by simpa using hk) x (by simpa using hx)
      omega
theorem splice_intsA {l : List Int} {j : Nat} (x : Int) (h : j < l.length) : (l.map fun x => A.d (iD x)).take j ++ A.d (iD x) :: (l.map fun x => A.d (iD x)).drop (j + 1) = (l.set j x).map fun x => A.d (iD x) := by
  rw [List.map_set, List.set_eq_take_append_cons_drop, if_pos (by simpa using h)]
set_option maxHeartbeats 8000000 in
theorem trim_ac (f : Cnf) (l : List Stp) (hv : I64 f.vars) (hn : f.cls.length ≤ 100000) (hl : l.length ≤ 100000) (hs : ∀ s ∈ l, s.lits.length ≤ 12 ∧ s.hints.length ≤ 100000) (hok : stepsOk f.vars f.cls.length l = true) (hl2 : l.length ≤ 20000) (σ : St) (G : Glob) (R : A → St → Prop)
    (h : R (.tup [.d (stpsD (trimL f l)), di 0]) σ) : AC Try.prog G 54 [.d (cnfD f), .d (stpsD l)] σ R := by
  have hho := hints_of hok
  refine ac_enterC' [9, 16, 30] mixed Try.func54 rfl Try.ntmps54 (by simp only [go_sem]) fun hbd => ?_
  simp only [List.length_cons, List.length_nil, Nat.reduceAdd, Nat.reduceSub, List.replicate_succ, List.replicate_zero, List.cons_append, List.nil_append]
  simp only [cnfD, clsD, stpsD, go_sem, List.length_map]
  refine ac' (pvalid_ac f.vars (f.cls.map isD) l (by rw [List.length_map]; omega) hl hs _ _ _ ?_)
  have d1 : decide ((20000 : Int) < (l.length : Int)) = false := decide_eq_false (by omega)
  rw [List.length_map, hok, d1]
  simp only [stpsD, go_sem, List.length_map]
  have hbits : (List.replicate l.length [A.d (.bool false)]).flatten = (marks f.cls.length l 0).map fun x => A.d (.bool x) := by
    rw [marks]
    induction l.length with
    | zero => rfl
    | succ n ih => rw [List.replicate_succ, List.flatten_cons, ih, List.replicate_succ, List.map_cons]; rfl
  rw [hbits]
  have hM := marks_len f.cls.length l
  generalize hN : f.cls.length = N at *
  refine ⟨⟨by omega, by omega, by omega, by omega⟩, ?_⟩
  refine aw_cut (fun fr st => fr = [.any, .any, .any, .ref (σ.length + 1) 0, .any, .any, .ref (σ.length + 2) 0, .ref (σ.length + 4) 0, .any, .any, .any, .any, .any, .any, .any, .any, .any, .any, .any, .any, .any, .any, .any, .any, .any, .any, .any, .any, .any, .any, .any, .any, .any, .any, .any, .any, .any, .any, .any, .any, .any, .any, .any, .any, .any, .any, .any, .any, .any, .any, .any, .any, .any, .any, .any, .any, .any, .any, .any, .any, .any, .any, .any, .any, .any, .any, .any, .any, .any, .any, .any, .any, .any, .any, .any, .any, .any, .any, .any, .any, .any, .any, .any, .any, .any, .any, .any, .any, .any, .any, .any, .any, .any, .any, .any, .any, .any, .any, .any, .any, .any, .any, .any, .any, .any, .any, .any, .any, .any, .any, .any, .any, .any, .any] ∧ st = σ ++ [some (.cells [.d (iD f.vars), .d (clsD f.cls)]), some (.cells [.d (.sl 2 (l.map stpD))]), some (.cells [dn N]), bolsO (marks N l l.length), some (.cells [.rs (σ.length + 3) 1 0 l.length (some 4)])]) ?_ ?_
  · simp only [clsD, go_sem, List.length_map]
    refine ac' (back73_ac l.length _ _ _ ?_)
    simp only [go_sem, List.length_append, List.length_cons, List.length_nil]
    obtain ⟨fr0, hfr0⟩ : ∃ fr0 : Fr, fr0 = [.any, .any, .any, .ref (σ.length + 1) 0, .any, .any, .ref (σ.length + 2) 0, .ref (σ.length + 4) 0, .any, .any, .any, .any, .any, .any, .any, .any, .any, .any, .any, .any, .any, .any, .any, .any, .any, .any, .any, .any, .any, .any, .any, .fn (.func 91) [] [.ref (σ.length + 5) 0], .any, .any, .any, .any, .any, .any, .any, .any, .any, .any, .any, .any, .any, .any, .any, .any, .any, .any, .any, .any, .any, .any, .any, .any, .any, .any, .any, .any, .any, .any, .any, .any, .any, .any, .any, .any, .any, .any, .any, .any, .any, .any, .any, .any, .any, .any, .any, .any, .any, .any, .any, .any, .any, .any, .any, .any, .any, .any, .any, .any, .any, .any, .any, .any, .any, .any, .any, .any, .any, .any, .any, .any, .any, .any, .any, .any, .any, .any, .any, .any, .any, .any] := ⟨_, rfl⟩
    refine aw_range ⟨fr0, _, by rw [hfr0]; exact Weak.mask [3, 6, 7, 31], by rw [hfr0]; simp [bdL, A.bd], 91, [], [.ref (σ.length + 5) 0], by rw [hfr0]; rfl, fun l' r hY => ?_⟩
    have hlen : (σ ++ [some (Ob.cells [A.d (iD f.vars), A.d (D.sl 1 (List.map isD f.cls))]), some (Ob.cells [A.d (D.sl 2 (List.map stpD l))]), some (Ob.cells [A.d (D.int IntKind.i64 ↑N)]),
          some (Ob.cells (List.map (fun x => A.d (D.bool x)) (marks N l 0))), some (Ob.cells [A.rs (List.length σ + 3) 1 0 l.length (some 4)]), some (Ob.cells [di ↑l.length])]).length = σ.length + 6 := by simp
    rw [hlen] at hY ⊢
    rw [List.append_assoc]
    simp only [List.cons_append, List.nil_append]
    refine back91_ac (n := l.length) hl (fun j st => st = σ ++ [some (.cells [.d (iD f.vars), .d (.sl 1 (f.cls.map isD))]), some (.cells [.d (.sl 2 (l.map stpD))]), some (.cells [dn N]), bolsO (marks N l j), some (.cells [.rs (σ.length + 3) 1 0 l.length (some 4)]), some (.cells [dn l.length]), some (.lp l' r fr0)]) (fun _ => False) _ (by rw [List.getElem?_append_right (by omega), Nat.add_sub_cancel_left]; rfl) rfl G (fun j st hj hI => ?_) _ (fun r' st hst => ?_)
    · subst hI
      refine hY _ _ _ ⟨by rw [List.getElem?_append_right (by omega), Nat.add_sub_cancel_left]; rfl, rfl, ?_⟩
      have hset : setPs fr0 (#[32].toList) [dn (l.length - 1 - j)] = [.any, .any, .any, .ref (σ.length + 1) 0, .any, .any, .ref (σ.length + 2) 0, .ref (σ.length + 4) 0, .any, .any, .any, .any, .any, .any, .any, .any, .any, .any, .any, .any, .any, .any, .any, .any, .any, .any, .any, .any, .any, .any, .any, .fn (.func 91) [] [.ref (σ.length + 5) 0], dn (l.length - 1 - j), .any, .any, .any, .any, .any, .any, .any, .any, .any, .any, .any, .any, .any, .any, .any, .any, .any, .any, .any, .any, .any, .any, .any, .any, .any, .any, .any, .any, .any, .any, .any, .any, .any, .any, .any, .any, .any, .any, .any, .any, .any, .any, .any, .any, .any, .any, .any, .any, .any, .any, .any, .any, .any, .any, .any, .any, .any, .any, .any, .any, .any, .any, .any, .any, .any, .any, .any, .any, .any, .any, .any, .any, .any, .any, .any, .any, .any, .any, .any, .any, .any] := by rw [hfr0]; rfl
      rw [hset]
      have w1 : IntKind.i64.wrap ((l.length : Int) - 1) = (l.length : Int) - 1 := wrap64_id _ (by omega) (by omega)
      have hML := hM j
      rw [show marks N l (j + 1) = markS N l (l.length - 1 - j) (marks N l j) from rfl]
      obtain ⟨k, hk⟩ : ∃ k, l.length - 1 - j = k := ⟨_, rfl⟩
      obtain ⟨b, hbm⟩ : ∃ b, marks N l j = b := ⟨_, rfl⟩
      rw [hbm] at hML ⊢
      rw [hk]
      have hkl : k < l.length := by omega
      have hkc : ((k : Int) == (l.length : Int) - 1) = decide (k + 1 = l.length) := by
        rw [Bool.eq_iff_iff, beq_iff_eq, decide_eq_true_eq]; omega
      simp only [go_sem]
      refine ⟨by rw [List.getElem?_append_right (by omega), Nat.add_sub_cancel_left]; rfl, ?_⟩
      refine aw_cut (fun fr st => fr = [.any, .any, .any, .ref (σ.length + 1) 0, .any, .any, .ref (σ.length + 2) 0, .ref (σ.length + 4) 0, dn k, .any, .any, .any, .any, .any, .any, .any, .any, .any, .any, .any, .any, .any, .any, .any, .any, .any, .any, .any, .any, .any, .any, .any, .any, .any, .any, .any, .any, .any, .any, .any, .any, .any, .any, .any, .any, .any, .any, .any, .any, .any, .any, .any, .any, .any, .any, .any, .any, .any, .any, .any, .any, .any, .any, .any, .any, .any, .any, .any, .any, .any, .any, .any, .any, .any, .any, .any, .any, .any, .any, .any, .any, .any, .any, .any, .any, .any, .any, .any, .any, .any, .any, .any, .any, .any, .any, .any, .any, .any, .any, .any, .any, .any, .any, .any, .any, .any, .any, .any, .any, .any, .any, .any, .any, .any] ∧ st = σ ++ [some (.cells [.d (iD f.vars), .d (.sl 1 (f.cls.map isD))]), some (.cells [.d (.sl 2 (l.map stpD))]), some (.cells [dn N]), bolsO (markL l k b), some (.cells [.rs (σ.length + 3) 1 0 l.length (some 4)]), some (.cells [dn l.length]), some (.lp l' { r with state := .busy } fr0)]) ?_ ?_
      · simp only [go_sem, List.length_map, w1, hkc, Nat.mul_one]
        refine ⟨fun q => ⟨⟨by omega, by omega⟩, by omega, ?_⟩, fun q => ?_⟩
        · rw [splice_bools true (by omega)]
          exact Wk.mask [3, 6, 7, 8] ⟨rfl, by rw [markL, if_pos (of_decide_eq_true q)]⟩
        · exact Wk.mask [3, 6, 7, 8] ⟨rfl, by rw [markL, if_neg (of_decide_eq_false q)]⟩
      · rintro fr st ⟨rfl, rfl⟩
        have hb2 := markL_len l k b
        have hb3 : markS N l k b = if (markL l k b).getD k false = true then markH N (l.getD k ⟨[], []⟩).hints (markL l k b) else markL l k b := rfl
        rw [hb3]
        obtain ⟨b2, hbe⟩ : ∃ b2, markL l k b = b2 := ⟨_, rfl⟩
        rw [hbe] at hb2 ⊢
        have e1 : List.getD (List.map (fun x => A.d (.bool x)) b2) k .any = A.d (.bool (b2.getD k false)) := getD_boolsA (by omega)
        have e2 := stpD_getD hkl
        have hhk := hho k hkl
        obtain ⟨s, hse⟩ : ∃ s, l.getD k ⟨[], []⟩ = s := ⟨_, rfl⟩
        rw [hse] at hhk e2 ⊢
        simp only [isD] at e2
        simp only [go_sem, List.length_map, e1, e2, Nat.mul_one]
        refine ⟨⟨by omega, by omega⟩, by omega, fun q => ?_, fun q => ⟨⟨by omega, by omega⟩, ?_⟩⟩
        · have q' : b2.getD k false = false := by simpa using q
          refine ⟨_, Weak.refl _ _ _ _, by rw [List.getElem?_append_right (by omega), Nat.add_sub_cancel_left]; rfl, .inl ⟨rfl, ?_⟩⟩
          rw [if_neg (by rw [q']; exact Bool.noConfusion)]
          simp only [go_sem]
        · have q' : b2.getD k false = true := by simpa using q
          rw [if_pos q']
          have hsl := (hs s (hse ▸ getD_mem _ hkl)).2
          refine aw_loop (fun m fr st => ∃ (i : Nat) (b3 : List Bool), m = s.hints.length - i ∧ i ≤ s.hints.length ∧ b3.length = l.length ∧ markH N (s.hints.drop i) b3 = markH N s.hints b2 ∧
            fr = [.any, .any, .any, .ref (σ.length + 1) 0, .any, .any, .ref (σ.length + 2) 0, .ref (σ.length + 4) 0, .any, .any, .any, .any, .any, .any, .any, .any, .any, .any, .any, .any, .any, .any, .any, .any, .any, .any, .any, .any, .any, .any, .any, .any, .any, .any, .any, .any, .any, .any, .any, .any, .any, .any, .any, .any, .any, .any, .any, .any, .any, .any, .d (.sl 1 (s.hints.map iD)), dn s.hints.length, dn i, .any, .any, .any, .any, .any, .any, .any, .any, .any, .any, .any, .any, .any, .any, .any, .any, .any, .any, .any, .any, .any, .any, .any, .any, .any, .any, .any, .any, .any, .any, .any, .any, .any, .any, .any, .any, .any, .any, .any, .any, .any, .any, .any, .any, .any, .any, .any, .any, .any, .any, .any, .any, .any, .any, .any, .any, .any, .any, .any, .any, .any] ∧
            st = σ ++ [some (.cells [.d (iD f.vars), .d (.sl 1 (f.cls.map isD))]), some (.cells [.d (.sl 2 (l.map stpD))]), some (.cells [dn N]), bolsO b3, some (.cells [.rs (σ.length + 3) 1 0 l.length (some 4)]), some (.cells [dn l.length]), some (.lp l' { r with state := .busy } fr0)]) s.hints.length _
            (Wk.mask [3, 6, 7, 50, 51, 52] ⟨0, b2, rfl, by omega, by omega, rfl, rfl, rfl⟩) ?_
          rintro m fr st ⟨i, b3, hm, hi, hb3l, hb3e, rfl, rfl⟩
          rcases Nat.lt_or_ge i s.hints.length with ilt | ige
          · have hd : decide ((i : Int) < (s.hints.length : Int)) = true := decide_eq_true (by omega)
            have w2 := wrapS i (by omega)
            have e3 : List.getD (List.map iD s.hints) i default = iD (s.hints.getD i 0) := getD_mapD ilt
            have hh := hhk _ (getD_mem 0 ilt)
            rw [drop_getD 0 ilt, markH] at hb3e
            generalize s.hints.getD i 0 = x at e3 hh hb3e
            have w3 : IntKind.i64.wrap (x - (N : Int)) = x - N := wrap64_id _ (by omega) (by omega)
            simp only [go_sem, List.length_map, hd, w2, w3, e3, Nat.mul_one]
            refine ⟨⟨by omega, by omega⟩, fun q => ?_, fun q => ?_⟩
            · have q' : (N : Int) ≤ x := of_decide_eq_true q
              rw [if_pos q'] at hb3e
              refine ⟨⟨by omega, by omega⟩, by omega, ?_⟩
              rw [splice_bools true (by omega)]
              exact Wk.mask [3, 6, 7, 50, 51, 52] ⟨s.hints.length - (i + 1), by omega, i + 1, _, rfl, ilt, by rw [List.length_set]; exact hb3l, hb3e, rfl, rfl⟩
            · have q' : ¬ (N : Int) ≤ x := of_decide_eq_false q
              rw [if_neg q'] at hb3e
              exact Wk.mask [3, 6, 7, 50, 51, 52] ⟨s.hints.length - (i + 1), by omega, i + 1, _, rfl, ilt, hb3l, hb3e, rfl, rfl⟩
          · have hd : decide ((i : Int) < (s.hints.length : Int)) = false := decide_eq_false (by omega)
            rw [List.drop_eq_nil_of_le ige, markH] at hb3e
            subst hb3e
            simp only [go_sem, List.length_map, hd]
            refine ⟨_, Weak.refl _ _ _ _, by rw [List.getElem?_append_right (by omega), Nat.add_sub_cancel_left]; rfl, .inl ⟨rfl, ?_⟩⟩
            simp only [go_sem]
    · rcases hst with rfl | hst
      · refine .inl ⟨by rw [List.getElem?_append_right (by omega), Nat.add_sub_cancel_left]; rfl, fr0, _, Weak.refl _ _ _ _, ?_⟩
        rw [hfr0]
        simp only [go_sem]
        exact Wk.keep [3, 6, 7] [0, 1, 2, 3, 4] (by decide) (Nat.le_refl _) hbd ⟨by simp only [go_sem], by simp only [go_sem]⟩
      · exact hst.elim
  · rintro fr st ⟨rfl, rfl⟩
    obtain ⟨nb, hnb⟩ : ∃ nb, marks N l l.length = nb := ⟨_, rfl⟩
    have hnbl := hM l.length
    have hT : trimL f l = trimS N nb l 0 (List.replicate l.length 0) [] := by rw [trimL, hN, hnb]
    rw [hnb] at hnbl ⊢
    rw [hT] at h
    have hnums : (List.replicate l.length [A.d (iD 0)]).flatten = (List.replicate l.length (0 : Int)).map fun x => A.d (iD x) := by
      induction l.length with
      | zero => rfl
      | succ n ih => rw [List.replicate_succ, List.flatten_cons, ih, List.replicate_succ, List.map_cons]; rfl
    simp only [clsD, go_sem, List.length_map]
    rw [hnums]
    refine ⟨⟨by omega, by omega, by omega, by omega⟩, ?_⟩
    refine aw_loop (fun m fr st => ∃ (k : Nat) (nums : List Int) (res : List Stp), m = l.length - k ∧ k ≤ l.length ∧ nums.length = l.length ∧ res.length ≤ k ∧ trimS N nb (l.drop k) k nums res = trimS N nb l 0 (List.replicate l.length 0) [] ∧
      fr = [.any, .any, .any, .ref (σ.length + 1) 0, .any, .any, .ref (σ.length + 2) 0, .ref (σ.length + 4) 0, .any, .any, .any, .ref (σ.length + 6) 0, .fn (.func 74) [] [.ref (σ.length + 2) 0, .ref (σ.length + 6) 0], .rs (σ.length + 7) 2 0 res.length (some 50), .any, .any, .any, .any, .any, .any, .any, .any, .any, .any, .any, .any, .any, .any, .any, .any, .any, .any, .any, .any, .any, .any, .any, .any, .any, .any, .any, .any, .any, .any, .any, .any, .any, .any, .any, .any, .any, .any, .any, .any, .any, .any, .any, .any, .any, .any, .any, .any, .any, .any, .any, .any, .any, .any, .any, .d (.sl 2 (l.map stpD)), dn l.length, dn k, .any, .any, .any, .any, .any, .any, .any, .any, .any, .any, .any, .any, .any, .any, .any, .any, .any, .any, .any, .any, .any, .any, .any, .any, .any, .any, .any, .any, .any, .any, .any, .any, .any, .any, .any, .any, .any, .any, .any, .any, .any, .any] ∧
      st = σ ++ [some (.cells [.d (iD f.vars), .d (.sl 1 (f.cls.map isD))]), some (.cells [.d (.sl 2 (l.map stpD))]), some (.cells [dn N]), bolsO nb, some (.cells [.rs (σ.length + 3) 1 0 l.length (some 4)]), ints nums, some (.cells [.rs (σ.length + 5) 1 0 l.length (some 3)]), some (.cells (flat (res.map stpD)))]) l.length _ ?_ ?_
    · refine Wk.pre [3, 6, 7, 11, 12, 13, 69, 70, 71] ?_
      simp only [go_sem]
      refine Wk.empty 13 2 (some 50) rfl ?_
      simp only [List.length_cons, List.length_nil, List.set_cons_zero, List.set_cons_succ, List.cons_append, List.nil_append, Nat.reduceAdd]
      exact Wk.mask [3, 6, 7, 11, 12, 13, 69, 70, 71] ⟨0, List.replicate l.length 0, [], rfl, by omega, by simp, by simp, rfl, rfl, rfl⟩
    rintro m fr st ⟨k, nums, res, hm, hk, hnl, hrl, hTe, rfl, rfl⟩
    rcases Nat.lt_or_ge k l.length with hlt | hge
    · have hd : decide ((k : Int) < (l.length : Int)) = true := decide_eq_true (by omega)
      have w2 := wrapS k (by omega)
      have e1 : List.getD (List.map (fun x => A.d (.bool x)) nb) k .any = A.d (.bool (nb.getD k false)) := getD_boolsA (by omega)
      have e2 := stpD_getD hlt
      have hhk := hho k hlt
      have hsk := hs _ (getD_mem (⟨[], []⟩ : Stp) hlt)
      rw [drop_getD (⟨[], []⟩ : Stp) hlt, trimS] at hTe
      obtain ⟨s, hse⟩ : ∃ s, l.getD k ⟨[], []⟩ = s := ⟨_, rfl⟩
      rw [hse] at hhk e2 hsk hTe
      simp only [isD] at e2
      simp only [go_sem, List.length_map, hd, e1, e2, w2, Nat.mul_one]
      refine ⟨⟨by omega, by omega⟩, ⟨by omega, by omega⟩, by omega, fun q => ?_, fun q => ?_⟩
      · have q' : nb.getD k false = false := by simpa using q
        rw [if_neg (by rw [q']; exact Bool.noConfusion)] at hTe
        exact Wk.keep [3, 6, 7, 11, 12, 13, 69, 70, 71] [0, 1, 2, 3, 4, 5, 6, 7] (by decide) (Nat.le_refl _) hbd ⟨l.length - (k + 1), by omega, k + 1, nums, res, rfl, hlt, hnl, by omega, hTe, by simp only [go_sem], by simp only [go_sem]⟩
      · have q' : nb.getD k false = true := by simpa using q
        rw [if_pos q'] at hTe
        have w4 : IntKind.i64.wrap ((N : Int) + (res.length : Int)) = (N : Int) + res.length := wrap64_id _ (by omega) (by omega)
        simp only [go_sem, List.length_map, w4, Nat.mul_one, flat_isD]
        rw [splice_intsA _ (by omega)]
        obtain ⟨nums', hne⟩ : ∃ nums', nums.set k ((N : Int) + res.length) = nums' := ⟨_, rfl⟩
        have hnl' : nums'.length = l.length := by rw [← hne, List.length_set]; exact hnl
        rw [hne] at hTe ⊢
        obtain ⟨rc, hrc⟩ : ∃ rc : List A, flat (res.map stpD) = rc := ⟨_, rfl⟩
        have hrcl : rc.length = res.length * 2 := by rw [← hrc]; exact flat_stps res
        have hrcr : ∀ p, renL σ.length p rc = rc := fun p => by rw [← hrc]; exact ren_flat _
        rw [hrc]
        refine ⟨⟨by omega, by omega⟩, by omega, ⟨by simp only [maxLen]; omega, by omega⟩, aw_cut (fun fr st => fr = [.any, .any, .any, .ref (σ.length + 1) 0, .any, .any, .ref (σ.length + 2) 0, .ref (σ.length + 4) 0, .any, .any, .any, .ref (σ.length + 6) 0, .fn (.func 74) [] [.ref (σ.length + 2) 0, .ref (σ.length + 6) 0], .rs (σ.length + 7) 2 0 res.length (some 50), .any, .any, .ref (σ.length + 8) 0, .any, .any, .any, .any, .any, .any, .any, .any, .any, .any, .any, .any, .any, .any, .any, .any, .any, .any, .any, .any, .any, .any, .any, .any, .any, .any, .any, .any, .any, .any, .any, .any, .any, .any, .any, .any, .any, .any, .any, .any, .any, .any, .any, .any, .any, .any, .any, .any, .any, .any, .any, .any, .d (.sl 2 (l.map stpD)), dn l.length, dn k, .any, .any, .any, .any, .any, .any, .any, .any, .any, .any, .any, .any, .any, .any, .any, .any, .any, .any, .any, .any, .any, .any, .any, .any, .any, .any, .any, .any, .any, .any, .any, .any, .any, .any, .any, .any, .any, .any, .any, .any, .any, .any] ∧
          st = σ ++ [some (.cells [.d (iD f.vars), .d (.sl 1 (f.cls.map isD))]), some (.cells [.d (.sl 2 (l.map stpD))]), some (.cells [dn N]), bolsO nb, some (.cells [.rs (σ.length + 3) 1 0 l.length (some 4)]), ints nums', some (.cells [.rs (σ.length + 5) 1 0 l.length (some 3)]), some (.cells rc), some (.cells [.d (isD s.lits), .d (isD (s.hints.map (renH N nums')))])]) ?_ ?_⟩
        · simp only [go_sem, List.length_map]
          refine aw_loop (fun m fr st => ∃ i : Nat, m = s.hints.length - i ∧ i ≤ s.hints.length ∧
            fr = [.any, .any, .any, .ref (σ.length + 1) 0, .any, .any, .ref (σ.length + 2) 0, .ref (σ.length + 4) 0, .any, .any, .any, .ref (σ.length + 6) 0, .fn (.func 74) [] [.ref (σ.length + 2) 0, .ref (σ.length + 6) 0], .rs (σ.length + 7) 2 0 res.length (some 50), .any, .any, .ref (σ.length + 9) 0, .any, .any, .any, .any, .any, .any, .any, .any, .any, .any, .any, .any, .any, .any, .any, .any, .any, .any, .any, .any, .any, .any, .any, .any, .any, .any, .any, .any, .any, .any, .any, .any, .any, .any, .any, .any, .any, .any, .any, .any, .any, .any, .any, .any, .any, .any, .any, .any, .any, .any, .any, .any, .d (.sl 2 (l.map stpD)), dn l.length, dn k, .any, .any, .any, .any, .any, .any, .any, .any, .any, .any, .any, .any, .any, .any, .any, .any, .any, .any, .any, .any, .any, .d (.sl 1 (s.hints.map iD)), dn s.hints.length, dn i, .any, .any, .any, .any, .any, .any, .any, .any, .any, .any, .any, .any, .any, .any, .any, .any, .any, .any] ∧
            st = σ ++ [some (.cells [.d (iD f.vars), .d (.sl 1 (f.cls.map isD))]), some (.cells [.d (.sl 2 (l.map stpD))]), some (.cells [dn N]), bolsO nb, some (.cells [.rs (σ.length + 3) 1 0 l.length (some 4)]), ints nums', some (.cells [.rs (σ.length + 5) 1 0 l.length (some 3)]), some (.cells rc), ints s.lits, some (.cells [.rs (σ.length + 8) 1 0 s.lits.length (some 3), .rs (σ.length + 10) 1 0 i (some 3)]), ints ((s.hints.take i).map (renH N nums'))]) s.hints.length _ ?_ ?_
          · refine Wk.pre [3, 6, 7, 11, 12, 13, 16, 69, 70, 71, 93, 94, 95] ?_
            simp only [go_sem]
            refine Wk.via (Weak.keep (σ := σ) [0, 1, 2, 3, 4, 5, 6, 7, 9, 10] (by decide) (Nat.le_refl _) hbd) ?_
            simp only [go_sem, hrcr]
            exact ⟨_, _, Weak.emptyIn (σ := σ) 9 1 1 (some 3) rfl rfl, 0, rfl, by omega, rfl, rfl⟩
          rintro m fr st ⟨i, hm, hi, rfl, rfl⟩
          rcases Nat.lt_or_ge i s.hints.length with ilt | ige
          · have hd : decide ((i : Int) < (s.hints.length : Int)) = true := decide_eq_true (by omega)
            have w5 := wrapS i (by omega)
            have e3 : List.getD (List.map iD s.hints) i default = iD (s.hints.getD i 0) := getD_mapD ilt
            have hh := hhk _ (getD_mem 0 ilt)
            have htk := take_snoc 0 ilt
            generalize s.hints.getD i 0 = x at e3 hh htk
            simp only [go_sem, List.length_map, hd, e3]
            refine ⟨⟨by omega, by omega⟩, aw_plan (.tk 2 2 <| .alt 0 (.alt 1 (.tk 5 4 <| .done) <| .alt 4 (.take 1 <| .tk 4 5 <| .done) <| .stop) <| .alt 4 (.tk 2 0 <| .tk 4 5 <| .done) <| .stop) (by kernel_rfl) ?_⟩
            simp only [go_sem, List.length_map]
            have hx74 : 0 ≤ x ∧ x < ((N + nums'.length : Nat) : Int) := by rw [hnl']; omega
            refine ⟨⟨?_, ?_⟩, ?_⟩
            all_goals
              refine ac' (ren74_ac x hn hx74 (by omega) _ (at_own 2 rfl) (w := some 3) (by rw [hnl']; exact at_own 6 rfl) (at_own 5 rfl) _ _ ?_)
              simp only [go_sem, List.length_map, w5, beq_self_eq_true, Nat.mul_one]
              refine ⟨⟨by rw [List.length_take]; omega, by simp only [maxLen]; omega, by omega⟩, ?_⟩
              refine Wk.pre [3, 6, 7, 11, 12, 13, 16, 69, 70, 71, 93, 94, 95] ?_
              refine Wk.via (Weak.keep (σ := σ) [0, 1, 2, 3, 4, 5, 6, 7, 8, 9, 12] (by decide) (Nat.le_refl _) hbd) ?_
              simp only [go_sem, hrcr]
              refine ⟨_, _, Weak.refl _ _ _ _, s.hints.length - (i + 1), by omega, i + 1, rfl, ilt, ?_, ?_⟩
            all_goals first
              | rfl
              | simp only [htk, List.map_append, List.map_cons, List.map_nil, ints]
          · have hd : decide ((i : Int) < (s.hints.length : Int)) = false := decide_eq_false (by omega)
            have htk : s.hints.take i = s.hints := List.take_of_length_le ige
            simp only [go_sem, List.length_map, hd, htk]
            rw [show i = s.hints.length by omega]
            refine Wk.pre [3, 6, 7, 11, 12, 13, 16, 69, 70, 71] ?_
            simp only [go_sem]
            refine ⟨_, _, ((Weak.freezeIn (σ := σ) 8 9 1 0 (s.lits.map iD) rfl (lies_ints _) rfl (by decide)).trans (Weak.freezeIn (σ := σ) 10 9 1 0 ((s.hints.map (renH N nums')).map iD) rfl (lies_ints _) rfl (by decide))).trans (Weak.keep (σ := σ) [0, 1, 2, 3, 4, 5, 6, 7, 9] (by decide) (Nat.le_refl _) hbd), ?_, ?_⟩
            · simp only [go_sem, false_and, ↓reduceIte]
            · simp only [isD, go_sem, List.length_map, List.length_append, List.length_singleton, false_and, ↓reduceIte, hrcr]
        · rintro fr st ⟨rfl, rfl⟩
          simp only [isD, go_sem, List.length_map, w2, hrcl]
          have hord : rc ++ [A.d (isD s.lits), A.d (isD (s.hints.map (renH N nums')))] = flat ((res ++ [(⟨s.lits, s.hints.map (renH N nums')⟩ : Stp)]).map stpD) := by
            rw [← hrc, List.map_append, flat_append]; rfl
          refine ⟨⟨by simp only [maxLen]; omega, by omega⟩, Wk.pre [3, 6, 7, 11, 12, 13, 69, 70, 71] ?_⟩
          refine Wk.via (Weak.keep (σ := σ) [0, 1, 2, 3, 4, 5, 6, 10] (by decide) (Nat.le_refl _) hbd) ?_
          simp only [go_sem, hrcr]
          have hord2 : rc ++ [A.d (.sl 1 (s.lits.map iD)), A.d (.sl 1 ((s.hints.map (renH N nums')).map iD))] = flat ((res ++ [(⟨s.lits, s.hints.map (renH N nums')⟩ : Stp)]).map stpD) := hord
          exact ⟨_, _, Weak.refl _ _ _ _, l.length - (k + 1), by omega, k + 1, nums', res ++ [(⟨s.lits, s.hints.map (renH N nums')⟩ : Stp)], rfl, hlt, hnl', by rw [List.length_append, List.length_singleton]; omega, hTe, by simp only [List.length_append, List.length_singleton], by simp only [← hord2]⟩
    · have hd : decide ((k : Int) < (l.length : Int)) = false := decide_eq_false (by omega)
      rw [List.drop_eq_nil_of_le hge, trimS] at hTe
      simp only [go_sem, List.length_map, hd, Try.results54]
      rw [← hTe] at h
      refine ret_frz 7 2 0 (res.map stpD) rfl (lies_of (stp_cells _)) ?_
      simp only [go_sem, List.length_map]
      exact ret_bd hbd rfl h
end Go.Proofs.Ytpmjdaiboniagaa
end PartV2

section PartV3
/- The top laws of 26: what they share. -/
set_option linter.unusedSimpArgs false
set_option linter.unusedVariables false
set_option maxRecDepth 100000
namespace Go.Proofs.Ytpmjdaiboniagaa
open Go Go.Ab

theorem ret_via {G : Glob} {n0 : Nat} {fr fr' : Fr} {τ τ' : St} {R : A → St → Prop} (hw : Weak G n0 fr τ fr' τ') (h : ∃ r σ', Weak G n0 fr' τ' [r] σ' ∧ R r σ') : ∃ r σ', Weak G n0 fr τ [r] σ' ∧ R r σ' := by
  obtain ⟨r, s, h1, h2⟩ := h
  exact ⟨r, s, hw.trans h1, h2⟩
theorem square72_ac (σ : St) (G : Glob) (R : A → St → Prop) (h : R (.d (cnfD hdF)) σ) : AC Try.prog G 72 [] σ R := by
  refine ac_enter mixed Try.func72 rfl Try.ntmps72 (by simp only [go_sem]) fun hbd => ?_
  simp only [List.length_cons, List.length_nil, Nat.reduceAdd, Nat.reduceSub, List.replicate_succ, List.replicate_zero, List.cons_append, List.nil_append]
  simp only [go_sem, Try.results72]
  refine ret_via (Weak.deep [1, 2, 3, 4, 5] 6) ?_
  simp only [go_sem]
  exact ret_d hbd h
def rfL : List Stp := [⟨[1], [0, 1]⟩, ⟨[1, 2], [0]⟩, ⟨[], [4, 2, 3]⟩]
theorem refuted50_ac (σ : St) (G : Glob) (R : A → St → Prop) (h : R (db true) σ) : AC Try.prog G 50 [] σ R := by
  refine ac_enterC' [3, 4, 5] mixed Try.func50 rfl Try.ntmps50 (by simp only [go_sem]) fun hbd => ?_
  simp only [List.length_cons, List.length_nil, Nat.reduceAdd, Nat.reduceSub, List.replicate_succ, List.replicate_zero, List.cons_append, List.nil_append]
  simp only [go_sem]
  refine ac' (square72_ac _ _ _ ?_)
  have hD : cnfD hdF = .agg [iD 2, clsD hdF.cls] := rfl
  rw [hD]
  simp only [go_sem]
  refine aw_cut (fun fr st => fr = [.any, .ref σ.length 0, .d (isD [0, 1]), di 0, .any, .any, .any, .any, .any, .any, .any, .any, .any, .any, .any, .any, .any, .any, .any, .any, .any, .any, .any, .any, .any, .any, .any, .any, .any, .any, .any, .any, .any, .any, .any, .any, .any, .any, .any, .any, .any, .any, .any, .any, .any, .any, .any, .any, .any, .any, .any, .any, .any, .any, .any, .any, .any] ∧ st = σ ++ [some (.cells [.d (iD 2), .d (clsD hdF.cls)])]) ?_ ?_
  · simp only [go_sem]
    refine ac' (ac_weak (Weak.deep [1] 4) ?_)
    simp only [go_sem]
    refine hint_dec hdF [-1] (by decide) _ _ _ ?_
    rw [show hintS hdF [-1] = ([0, 1], 0) by kernel_rfl]
    simp only [go_sem]
    exact Wk.keep [1, 2, 3] [0] (by decide) (Nat.le_refl _) hbd ⟨by simp only [go_sem], by simp only [go_sem]⟩
  rintro fr st ⟨rfl, rfl⟩
  refine aw_cut (fun fr st => fr = [.any, .ref σ.length 0, .d (isD [0, 1]), di 0, .d (stpsD rfL), .any, .any, .any, .any, .any, .any, .any, .any, .any, .any, .any, .any, .any, .any, .any, .any, .any, .any, .any, .any, .any, .any, .any, .any, .any, .any, .any, .any, .any, .any, .any, .any, .any, .any, .any, .any, .any, .any, .any, .any, .any, .any, .any, .any, .any, .any, .any, .any, .any, .any, .any, .any] ∧ st = σ ++ [some (.cells [.d (iD 2), .d (clsD hdF.cls)])]) ?_ ?_
  · simp only [go_sem]
    refine Wk.pre [1, 2, 3, 4] ?_
    simp only [go_sem]
    refine Wk.deep [1, 2, 3, 4, 5, 6] 6 ?_
    simp only [go_sem]
    refine Wk.nils (fr' := [.any, .ref σ.length 0, .d (isD [0, 1]), di 0, .d (stpsD rfL), .any, .any, .any, .any, .any, .any, .any, .any, .any, .any, .any, .any, .any, .any, .any, .any, .any, .any, .any, .any, .any, .any, .any, .any, .any, .any, .any, .any, .any, .any, .any, .any, .any, .any, .any, .any, .any, .any, .any, .any, .any, .any, .any, .any, .any, .any, .any, .any, .any, .any, .any, .any]) ?_ ?_
    · repeat' first | exact NilAL.nil | apply NilAL.cons | exact NilA.refl _ | apply NilA.d | exact NilD.refl _ | exact NilD.nil _ | apply NilD.sl | apply NilD.agg | apply NilDL.cons | exact NilDL.nil
    · exact Wk.keep [1, 2, 3, 4] [0] (by decide) (Nat.le_refl _) hbd ⟨by simp only [go_sem], by simp only [go_sem]⟩
  rintro fr st ⟨rfl, rfl⟩
  refine aw_cut (fun fr st => fr = [.any, .ref σ.length 0, .d (isD [0, 1]), di 0, .d (stpsD rfL), .d (stpsD (trimL hdF rfL)), di 0, .any, .any, .any, .any, .any, .any, .any, .any, .any, .any, .any, .any, .any, .any, .any, .any, .any, .any, .any, .any, .any, .any, .any, .any, .any, .any, .any, .any, .any, .any, .any, .any, .any, .any, .any, .any, .any, .any, .any, .any, .any, .any, .any, .any, .any, .any, .any, .any, .any, .any] ∧ st = σ ++ [some (.cells [.d (iD 2), .d (clsD hdF.cls)])]) ?_ ?_
  · simp only [go_sem]
    refine ac' (trim_ac hdF rfL (show I64 2 by unfold I64; omega) (by decide) (by decide) (by decide) (by kernel_rfl) (by decide) _ _ _ ?_)
    simp only [go_sem]
    exact Wk.keep [1, 2, 3, 4, 5, 6] [0] (by decide) (Nat.le_refl _) hbd ⟨by simp only [go_sem], by simp only [go_sem]⟩
  rintro fr st ⟨rfl, rfl⟩
  rw [show trimL hdF rfL = [⟨[1], [0, 1]⟩, ⟨[], [4, 2, 3]⟩] by kernel_rfl]
  have d2 : (((2 : Nat) : Int) == 2) = true := rfl
  simp only [stpsD, stpD, rfL, isD, go_sem, beq_self_eq_true, List.length_map, List.length_cons, List.length_nil, Nat.reduceAdd, d2]
  refine exs ?_
  simp only [stpsD, stpD, rfL, isD, go_sem, beq_self_eq_true, List.length_map, List.length_cons, List.length_nil, Nat.reduceAdd, d2]
  refine ac' (ac_weak (Weak.deep [1] 4) ?_)
  simp only [go_sem]
  refine ac_weak (Weak.nils (.cons (.refl _) (.cons (.d (.nil 2)) (.cons (.refl _) .nil)))) (step_ac hdF [] ⟨[1], [0, 1]⟩ (fine2_dec (by decide)) _ _ _ ?_)
  rw [show stepG hdF [] ⟨[1], [0, 1]⟩ = true by kernel_rfl]
  simp only [stpsD, stpD, rfL, isD, go_sem, beq_self_eq_true, List.length_map, List.length_cons, List.length_nil, Nat.reduceAdd, d2]
  refine exs ?_
  simp only [stpsD, stpD, rfL, isD, go_sem, beq_self_eq_true, List.length_map, List.length_cons, List.length_nil, Nat.reduceAdd, d2]
  refine ac' (refutes_ac hdF rfL (fine2_dec (by decide)) _ _ _ ?_)
  rw [show refutes (chk (goodR hdF) hdF rfL) rfL = true by kernel_rfl]
  simp only [stpsD, stpD, rfL, isD, go_sem, beq_self_eq_true, List.length_map, List.length_cons, List.length_nil, Nat.reduceAdd, d2]
  refine exs ?_
  simp only [stpsD, stpD, rfL, isD, go_sem, beq_self_eq_true, List.length_map, List.length_cons, List.length_nil, Nat.reduceAdd, d2]
  refine ac' (refutes_ac hdF [⟨[1], [0, 1]⟩, ⟨[], [4, 2, 3]⟩] (fine2_dec (by decide)) _ _ _ ?_)
  rw [show refutes (chk (goodR hdF) hdF [⟨[1], [0, 1]⟩, ⟨[], [4, 2, 3]⟩]) [⟨[1], [0, 1]⟩, ⟨[], [4, 2, 3]⟩] = true by kernel_rfl]
  simp only [stpsD, stpD, rfL, isD, go_sem, beq_self_eq_true, List.length_map, List.length_cons, List.length_nil, Nat.reduceAdd, d2, Try.results50]
  exact ret_d hbd h
def fewB (f : Cnf) : Bool := !decide (40 < (f.cls.length : Int)) && f.cls.all fun c => !decide (12 < (c.length : Int))
theorem few51_ac (f : Cnf) (hn : f.cls.length ≤ reachBytes) (hc : ∀ c ∈ f.cls, c.length ≤ reachBytes) (σ : St) (G : Glob) (R : A → St → Prop) (h : R (db (fewB f)) σ) : AC Try.prog G 51 [.d (cnfD f)] σ R := by
  refine ac_enter mixed Try.func51 rfl Try.ntmps51 (by simp only [go_sem]) fun hbd => ?_
  simp only [List.length_cons, List.length_nil, Nat.reduceAdd, Nat.reduceSub, List.replicate_succ, List.replicate_zero, List.cons_append, List.nil_append]
  simp only [cnfD, clsD, go_sem, List.length_map, Try.results51]
  unfold fewB at h
  simp only [reachBytes] at hn
  refine ⟨fun hb => ret_d hbd (by rw [hb] at h; exact h), fun hb => ?_⟩
  rw [hb] at h
  simp only [Bool.not_false, Bool.true_and] at h
  refine aw_loop (fun m fr st => ∃ k : Nat, k ≤ f.cls.length ∧ m = f.cls.length - k ∧ R (db ((f.cls.drop k).all fun c => !decide (12 < (c.length : Int)))) σ ∧ fr = [.any, .ref σ.length 0, .any, dn k, .any, .any, .any, .any, .any, .any, .any, .any, .any, .any, .any, .any, .any, .any, .any, .any, .any, .any] ∧ st = σ ++ [some (.cells [.d (iD f.vars), .d (.sl 1 (f.cls.map isD))])]) f.cls.length _
    (Wk.mask [1, 3] ⟨0, by omega, rfl, h, rfl, rfl⟩) ?_
  rintro m fr st ⟨k, hk, hm, hR, rfl, rfl⟩
  rcases Nat.lt_or_ge k f.cls.length with klt | kge
  · have kd : decide ((k : Int) < (f.cls.length : Int)) = true := by simp; omega
    have e2 := isD_getD klt
    have w4 := wrapS k (by omega)
    rw [drop_getD [] klt, List.all_cons] at hR
    generalize f.cls.getD k [] = c at e2 hR
    simp only [go_sem, List.length_map, kd, e2, w4, Try.results51]
    refine ⟨⟨by omega, by omega⟩, fun h1 => ret_d hbd ?_, fun h1 => Wk.mask [1, 3] ⟨f.cls.length - (k + 1), by omega, k + 1, klt, rfl, ?_, rfl, rfl⟩⟩
    · rw [h1] at hR; exact hR
    · rw [h1] at hR; exact hR
  · have kd : decide ((k : Int) < (f.cls.length : Int)) = false := by simp; omega
    simp only [go_sem, List.length_map, kd, Try.results51]
    rw [List.drop_eq_nil_of_le kge] at hR
    exact ret_d hbd hR
/-- The negatives of literals, each once. -/
def distS : List Int → List Int → List Int
  | out, [] => out
  | out, l :: ls => distS (if -l ∈ out then out else out ++ [-l]) ls
theorem distinct53_ac (lits : List Int) (hll : lits.length ≤ 100000) (hl : ∀ l ∈ lits, -8000 ≤ l ∧ l ≤ 8000) (σ : St) (G : Glob) (R : A → St → Prop) (h : R (.d (isD (distS [] lits))) σ) : AC Try.prog G 53 [.d (isD lits)] σ R := by
  refine ac_enter mixed Try.func53 rfl Try.ntmps53 (by simp only [go_sem]) fun hbd => ?_
  simp only [List.length_cons, List.length_nil, Nat.reduceAdd, Nat.reduceSub, List.replicate_succ, List.replicate_zero, List.cons_append, List.nil_append]
  simp only [isD, go_sem]
  refine aw_loop (fun m fr st => ∃ (j : Nat) (out : List Int), j ≤ lits.length ∧ m = lits.length - j ∧ out.length ≤ j ∧ distS out (lits.drop j) = distS [] lits ∧ fr = [.d (.sl 1 (lits.map iD)), .any, .any, .rs σ.length 1 0 out.length (some 3), dn j, .any, .any, .any, .any, .any, .any, .any, .any, .any, .any, .any, .any, .any, .any, .any, .any, .any, .any, .any, .any, .any, .any, .any] ∧ st = σ ++ [ints out]) lits.length _
    ⟨_, _, (Weak.mask [0, 3, 4]).trans (Weak.empty 3 1 (some 3) rfl), 0, [], by omega, rfl, by simp, rfl, rfl, rfl⟩ ?_
  rintro m fr st ⟨j, out, hj, hm, hol, he, rfl, rfl⟩
  rcases Nat.lt_or_ge j lits.length with hlt | hge
  · have hd : decide ((j : Int) < (lits.length : Int)) = true := decide_eq_true (by omega)
    have e1 : List.getD (List.map iD lits) j default = iD (lits.getD j 0) := getD_mapD hlt
    have w2 := wrapS j (by omega)
    have hlj := hl _ (getD_mem 0 hlt)
    rw [drop_getD 0 hlt, distS] at he
    generalize lits.getD j 0 = x at e1 he hlj
    have w3 : IntKind.i64.wrap (0 - x) = -x := by rw [wrap64_id _ (by omega) (by omega)]; omega
    simp only [go_sem, List.length_map, hd, e1, w2, w3]
    refine ⟨⟨by omega, by omega⟩, ac' (ac_pure (db (decide (-x ∈ out))) rfl (views2 (views_ints (some 3) (by simp)) (Views.d _)) (has_ac out (-x) (by simp only [reachBytes]; omega) [] G _ rfl) ?_)⟩
    by_cases g : -x ∈ out
    · rw [if_pos g] at he
      simp only [go_sem, List.length_map, decide_eq_true g, e1, w2, w3]
      exact Wk.mask [0, 3, 4] ⟨lits.length - (j + 1), by omega, j + 1, out, hlt, rfl, by omega, he, rfl, rfl⟩
    · rw [if_neg g] at he
      simp only [go_sem, List.length_map, decide_eq_false g, e1, w2, w3, Nat.mul_one]
      refine ⟨⟨by omega, by omega⟩, ⟨by simp only [maxLen]; omega, by omega⟩, ?_⟩
      refine Wk.keep [0, 3, 4] [2] (by decide) (Nat.le_refl _) hbd ⟨lits.length - (j + 1), by omega, j + 1, out ++ [-x], hlt, rfl, by rw [List.length_append, List.length_singleton]; omega, he, ?_, ?_⟩
      · simp only [go_sem, List.length_append, List.length_singleton]
      · simp only [go_sem, List.map_append, List.map_cons, List.map_nil, ints]
  · have hd : decide ((j : Int) < (lits.length : Int)) = false := decide_eq_false (by omega)
    rw [List.drop_eq_nil_of_le hge, distS] at he
    simp only [go_sem, List.length_map, hd, Try.results53]
    rw [he]
    refine ret_frz 0 1 0 ((distS [] lits).map iD) rfl (lies_ints _) ?_
    simp only [go_sem, List.length_map]
    exact ret_d hbd h
end Go.Proofs.Ytpmjdaiboniagaa
end PartV3

section PartU30
/- UnitpropMatchesReference, evaluated. -/
set_option linter.unusedSimpArgs false
set_option linter.unusedVariables false
set_option maxRecDepth 100000
namespace Go.Proofs.Ytpmjdaiboniagaa
open Go Go.Ab

theorem hintS_len (f : Cnf) (lits : List Int) : (hintS f lits).1.length ≤ 10000 := by
  by_cases h : (validC f && litsOk f.vars [] lits) = true
  · have hv := (validC_spec (Bool.and_eq_true _ _ ▸ h : _ ∧ _).1).1
    rcases hintS_spec h with ⟨_, e⟩ | ⟨c, S, _, e, _, hS, _⟩
    · rw [e]; simp
    · rw [e]; simp only [List.length_map, List.length_append, List.length_singleton]; omega
  · rw [hintS, if_neg h]; simp
theorem propS_len (f : Cnf) (lits : List Int) : (propS f lits).1.length ≤ 8000 ∧ (propS f lits).2.1.length ≤ 8000 := by
  by_cases h : (validC f && litsOk f.vars [] lits) = true
  · have hv := (validC_spec (Bool.and_eq_true _ _ ▸ h : _ ∧ _).1).1
    obtain ⟨q1, q2, _⟩ := propS_spec h
    have := q1.len hv.1
    omega
  · rw [propS, if_neg h]; simp
set_option maxHeartbeats 4000000 in
theorem law3_ac (f : Cnf) (lits : List Int) (h1 : f.cls.length ≤ reachBytes) (h3 : ∀ c ∈ f.cls, c.length ≤ reachBytes) (hv : I64 f.vars) (hll : lits.length ≤ reachBytes) (hl : ∀ l ∈ lits, I64 l) (σ : St) (G : Glob) (R : A → St → Prop) (h : R (db true) σ) : AC Try.prog G 3 [.d (cnfD f), .d (isD lits)] σ R := by
  refine ac_enter mixed Try.func3 rfl Try.ntmps3 (by simp only [go_sem]) fun hbd => ?_
  simp only [List.length_cons, List.length_nil, Nat.reduceAdd, Nat.reduceSub, List.replicate_succ, List.replicate_zero, List.cons_append, List.nil_append]
  simp only [cnfD, go_sem]
  refine ac' (head23_ac _ _ _ ?_)
  simp only [go_sem]
  refine ac' (small23_ac f lits hv h1 h3 hll _ _ _ ?_)
  simp only [go_sem, Try.results3]
  refine ⟨fun _ => ret_d hbd h, fun hb => ?_⟩
  have hs : smallB f lits = true := by simpa using hb
  have hsm := hs
  simp only [smallB, Bool.and_eq_true, Bool.not_eq_true', Bool.or_eq_false_iff, decide_eq_false_iff_not, List.all_eq_true] at hsm
  obtain ⟨⟨⟨a, b⟩, c⟩, d⟩ := hsm
  have hn : f.cls.length ≤ 40 := by omega
  have hw : ∀ c ∈ f.cls, c.length ≤ 1000 := fun c hc => by have := d c hc; omega
  have hlh := hintS_len f lits
  have hlp := propS_len f lits
  have hh := hintR_eq f lits
  obtain ⟨⟨T, Rs, c⟩, hr⟩ : ∃ r, propS f lits = r := ⟨_, rfl⟩
  obtain ⟨⟨H, e⟩, hhe⟩ : ∃ r, hintS f lits = r := ⟨_, rfl⟩
  rw [hhe] at hh hlh
  rw [hr] at hlp
  simp only at hlh hlp
  refine ac' (propagate_ac f lits hv hn hw hll hl _ _ _ ?_)
  rw [hr]
  simp only [go_sem]
  refine ac' (prop22_ac f lits hv hn hw hll hl _ _ _ ?_)
  rw [hr]
  simp only [go_sem]
  refine ac' (hints_ac f lits hv hn hw hll hl _ _ _ ?_)
  rw [hhe]
  simp only [go_sem]
  refine ac' (hints24_ac f lits hv hn hw hll hl _ _ _ ?_)
  rw [hh]
  have hsame := fun (a : List Int) (ha : a.length ≤ 10000) st => same_ac a a (by simp only [reachBytes]; omega) (by simp only [reachBytes]; omega) st G (fun r s => r = .d (.bool true) ∧ s = st) (by simp)
  simp only [go_sem, beq_self_eq_true, Try.results3]
  refine ex' (.bool true) ⟨fun _ => ?_, ?_⟩
  · simp only [go_sem]
    exact ac' (hsame T (by omega) _)
  simp only [go_sem, beq_self_eq_true, Try.results3]
  refine ex' (.bool true) ⟨fun _ => ?_, ?_⟩
  · simp only [go_sem]
    exact ac' (hsame Rs (by omega) _)
  simp only [go_sem, beq_self_eq_true, Try.results3]
  refine ex' (.bool true) ⟨fun _ => ?_, ?_⟩
  · simp only [go_sem]
    exact ac' (hsame H (by omega) _)
  simp only [go_sem, beq_self_eq_true, Try.results3]
  exact ret_d hbd h
end Go.Proofs.Ytpmjdaiboniagaa
end PartU30

section PartU27
/- UnitpropHints, evaluated. -/
set_option linter.unusedSimpArgs false
set_option linter.unusedVariables false
set_option maxRecDepth 100000
namespace Go.Proofs.Ytpmjdaiboniagaa
open Go Go.Ab

theorem unit_mem {T c : List Int} {x : Int} (hc : ∀ l ∈ c, l ≠ 0) (h : statS T c 0 = (2, x)) : x ∈ c := (mem_opL.1 (by rw [(stat_inv hc h).2]; simp : x ∈ opL T c)).1
theorem hintOk_lt {cls : List (List Int)} {c : Nat} : ∀ {S : List Nat} {K : List Int}, HintOk cls c K S → ∀ i ∈ S, i < cls.length
  | [], _, _, i, hi => by cases hi
  | j :: S, K, h, i, hi => by
    obtain ⟨h1, x, _, _, h2⟩ := h
    rcases List.mem_cons.1 hi with rfl | q
    · exact h1
    · exact hintOk_lt h2 i q
set_option maxHeartbeats 4000000 in
theorem law8_ac (f : Cnf) (lits : List Int) (h1 : f.cls.length ≤ reachBytes) (h3 : ∀ c ∈ f.cls, c.length ≤ reachBytes) (hv : I64 f.vars) (hll : lits.length ≤ reachBytes) (hl : ∀ l ∈ lits, I64 l) (σ : St) (G : Glob) (R : A → St → Prop) (h : R (db true) σ) : AC Try.prog G 8 [.d (cnfD f), .d (isD lits)] σ R := by
  refine ac_enter mixed Try.func8 rfl Try.ntmps8 (by simp only [go_sem]) fun hbd => ?_
  simp only [List.length_cons, List.length_nil, Nat.reduceAdd, Nat.reduceSub, List.replicate_succ, List.replicate_zero, List.cons_append, List.nil_append]
  simp only [cnfD, go_sem]
  refine ac' (head23_ac _ _ _ ?_)
  simp only [go_sem]
  refine ac' (fine_ac f lits hv h1 h3 hll hl _ _ _ ?_)
  simp only [go_sem, Try.results8]
  refine ⟨fun _ => ret_d hbd h, fun hb => ?_⟩
  obtain ⟨⟨b1, b2, b3, b4⟩, hvv, hok⟩ := fineB_spec (show fineB f lits = true by simpa using hb)
  obtain ⟨hv0, hcl⟩ := validC_spec hvv
  have hz := valid_nz hvv
  have hls := litsOk_spec (Bool.and_eq_true _ _ ▸ hok : _ ∧ _).2
  refine ac' (propagate_ac f lits hv (by omega) (fun c hc => by have := b4 c hc; omega) hll hl _ _ _ ?_)
  have hH := hintS_spec hok
  obtain ⟨⟨T, Rs, c⟩, hr⟩ : ∃ r, propS f lits = r := ⟨_, rfl⟩
  obtain ⟨⟨H, e⟩, hh⟩ : ∃ r, hintS f lits = r := ⟨_, rfl⟩
  rw [hr, hh] at hH
  rw [hr]
  simp only [isD, clsD, go_sem, List.length_map]
  refine ac' (hints_ac f lits hv (by omega) (fun c hc => by have := b4 c hc; omega) hll hl _ _ _ ?_)
  rw [hh]
  rcases hH with ⟨hc, he⟩ | ⟨c', S, hc, he, hci, hSl, hHO⟩
  · simp only at hc; subst hc
    obtain ⟨rfl, rfl⟩ := Prod.mk.inj he
    have d1 : ((-1 : Int) == -1) = true := rfl
    simp only [isD, clsD, go_sem, List.length_map, d1, Try.results8]
    exact ret_d hbd h
  · simp only at hc; subst hc
    obtain ⟨hH, rfl⟩ := Prod.mk.inj he
    obtain ⟨N, hN⟩ : ∃ N, S ++ [c'] = N := ⟨_, rfl⟩
    have hNl : N.length = S.length + 1 := by rw [← hN]; simp
    have hHl : H.length = N.length := by rw [hH, hN, List.length_map]
    have hlast : H.getD (N.length - 1) 0 = c' := by
      rw [hH, hNl, Nat.add_sub_cancel, List.getD_eq_getElem?_getD, List.getElem?_map, List.getElem?_append_right (by omega)]; simp
    have hHN : ∀ k, k < N.length → H.getD k 0 = ((N.getD k 0 : Nat) : Int) := fun k hk => by
      rw [hH, hN, List.getD_eq_getElem?_getD, List.getElem?_map, List.getElem?_eq_getElem hk, List.getD_eq_getElem?_getD, List.getElem?_eq_getElem hk]; rfl
    have d1 : ((c' : Int) == -1) = false := by rw [beq_eq_false_iff_ne]; omega
    have w1 : IntKind.i64.wrap (f.vars + 1) = f.vars + 1 := wrap64_id _ (by omega) (by omega)
    have w4 : IntKind.i64.wrap ((H.length : Int) - 1) = ((N.length - 1 : Nat) : Int) := by rw [wrap64_id _ (by omega) (by omega)]; omega
    have d2 : decide (f.vars + 1 < (H.length : Int)) = false := decide_eq_false (by omega)
    have d3 : ((H.length : Int) == 0) = false := by rw [beq_eq_false_iff_ne]; omega
    have e1 : List.getD (List.map iD H) (N.length - 1) default = iD c' := by rw [getD_mapD (by omega), hlast]
    have d4 : ((c' : Int) != c') = false := by simp
    simp only [isD, clsD, go_sem, List.length_map, w1, w4, d1, d2, d3, d4, e1, Try.results8]
    refine ⟨fun _ => ⟨rfl, by omega, by omega⟩, fun q => absurd q (by simp), fun _ => ⟨⟨by simp only [maxLen]; omega, by omega⟩, ?_⟩⟩
    rw [flat_isD]
    have hNm : ∀ k, k < N.length → N.getD k 0 < f.cls.length := fun k hk => by
      have hm : N.getD k 0 ∈ S ++ [c'] := by rw [hN]; exact getD_mem 0 hk
      rcases List.mem_append.1 hm with q | q
      · exact hintOk_lt hHO _ q
      · rw [List.mem_singleton.1 q]; exact hci
    refine aw_loop (fun m fr st => ∃ (k : Nat) (K : List Int), k ≤ S.length ∧ m = S.length + 1 - k ∧ K.length = lits.length + k ∧ HintOk f.cls c' K (S.drop k) ∧ fr = [.any, .any, .ref σ.length 0, .any, .any, db true, .any, .any, .any, .d (isD H), .any, .rs (σ.length + 1) 1 0 K.length (some 3), dn k, .any, .any, .any, .any, .any, .any, .any, .any, .any, .any, .any, .any, .any, .any, .any, .any, .any, .any, .any, .any, .any, .any, .any, .any, .any, .any, .any, .any, .any, .any, .any, .any, .any, .any, .any, .any, .any, .any, .any, .any, .any, .any, .any, .any, .any, .any, .any, .any, .any, .any, .any, .any, .any, .any, .any, .any, .any, .any, .any, .any, .any, .any, .any, .any, .any, .any, .any, .any, .any, .any, .any, .any, .any, .any, .any, .any, .any, .any, .any, .any, .any, .any, .any, .any, .any, .any, .any, .any, .any, .any, .any, .any, .any, .any, .any, .any, .any, .any, .any, .any, .any, .any, .any, .any, .any, .any, .any, .any, .any, .any, .any, .any, .any, .any, .any, .any, .any, .any, .any, .any, .any, .any, .any, .any, .any, .any, .any, .any, .any, .any, .any, .any, .any, .any, .any, .any, .any, .any, .any, .any, .any, .any, .any, .any, .any, .any, .any, .any, .any, .any, .any, .any, .any, .any] ∧ st = σ ++ [some (.cells [.d (iD f.vars), .d (clsD f.cls)]), ints K]) (S.length + 1) _
      (Wk.keep [2, 5, 9, 11, 12] [0, 2] (by decide) (Nat.le_refl _) hbd ⟨0, lits, by omega, rfl, by omega, hHO, by simp only [isD, go_sem]; rfl, by simp only [clsD, go_sem]⟩) ?_
    rintro m fr st ⟨k, K, hk, hm, hKl, hK, rfl, rfl⟩
    have hkN : k < N.length := by omega
    have hd : decide ((k : Int) < (H.length : Int)) = true := decide_eq_true (by omega)
    have w2 := wrapS k (by omega)
    have hi := hNm k hkN
    have e1 : List.getD (List.map iD H) k default = iD ((N.getD k 0 : Nat) : Int) := by rw [getD_mapD (by omega), hHN k hkN]
    have hkl : ((k : Int) == ((N.length - 1 : Nat) : Int)) = decide (k = S.length) := by
      rw [Bool.eq_iff_iff, beq_iff_eq, decide_eq_true_eq]; omega
    have hkd : S.drop k = [] ∧ k = S.length ∧ N.getD k 0 = c' ∨ k < S.length ∧ S.drop k = N.getD k 0 :: S.drop (k + 1) ∧ N.drop (k + 1) = S.drop (k + 1) ++ [c'] := by
      rcases Nat.lt_or_ge k S.length with q | q
      · right
        refine ⟨q, ?_, by rw [← hN, List.drop_append_of_le_length (by omega)]⟩
        have : N.getD k 0 = S.getD k 0 := by rw [← hN]; simp only [List.getD_eq_getElem?_getD]; rw [List.getElem?_append_left q]
        rw [this]
        exact drop_getD 0 q
      · have : k = S.length := by omega
        subst this
        exact .inl ⟨by simp, rfl, by rw [← hN]; simp⟩
    generalize N.getD k 0 = i at e1 hi hkd
    have d5 : decide ((i : Int) < 0) = false := decide_eq_false (by omega)
    have d6 : decide ((f.cls.length : Int) ≤ (i : Int)) = false := decide_eq_false (by omega)
    have e3 := isD_getD hi
    have hcm := getD_mem [] hi
    have hck := hcl _ hcm
    have hcb := b4 _ hcm
    have hcz := hz _ hcm
    obtain ⟨C, hC⟩ : ∃ C, f.cls.getD i [] = C := ⟨_, rfl⟩
    rw [hC] at e3 hck hcb hcz
    simp only [isD, clsD, go_sem, List.length_map, hd, e1, e3, w2, w4, d5, d6, hkl, Try.results8]
    refine ⟨⟨by omega, by omega⟩, ⟨by omega, by omega⟩, ⟨by omega, by omega⟩, ⟨by omega, by omega⟩, ac' (ac_pure (.tup [di (statS K C 0).1, di (statS K C 0).2]) rfl (views2 (Views.d _) (views_ints (some 3) (at_own 1 rfl))) (status_ac C K (by simp only [reachBytes]; omega) (by simp only [reachBytes]; omega) (fun l hl => by have := hck l hl; omega) [] G _ rfl) ?_)⟩
    rcases hkd with ⟨k1, k2, k3⟩ | ⟨k1, k2, k3⟩
    · rw [k1] at hK
      simp only [HintOk] at hK
      rw [← k3, hC] at hK
      have k4 : decide (k = S.length) = true := decide_eq_true k2
      simp only [isD, clsD, go_sem, List.length_map, hd, e1, e3, w2, w4, hkl, hK, k4, Try.results8]
      exact ret_d hbd h
    · rw [k2] at hK
      obtain ⟨_, x, hst, ⟨r, hr, hxr⟩, hK'⟩ := hK
      rw [hC] at hst
      have k4 : decide (k = S.length) = false := decide_eq_false (by omega)
      have d7 : ((2 : Int) != 2) = false := rfl
      rw [hst]
      simp only [isD, clsD, go_sem, List.length_map, hd, e1, e3, w2, w4, hkl, k4, d7, Try.results8]
      have hxC := hck x (unit_mem hcz hst)
      rw [← k3] at hr
      have w3 : IntKind.i64.wrap (0 - x) = -x := by rw [wrap64_id _ (by omega) (by omega)]; omega
      refine aw_loop (fun m fr st => ∃ (j : Nat) (b : Bool), j ≤ N.length ∧ k + 1 ≤ j ∧ m = N.length - j ∧ (b || (N.drop j).any fun r => decide (-x ∈ f.cls.getD r [])) = true ∧ fr = [.any, .any, .ref σ.length 0, .any, .any, db true, .any, .any, .any, .d (isD H), .any, .rs (σ.length + 1) 1 0 K.length (some 3), dn k, .any, di x, db b, dn j, .any, .any, .any, .any, .any, .any, .any, .any, .any, .any, .any, .any, .any, .any, .any, .any, .any, .any, .any, .any, .any, .any, .any, .any, .any, .any, .any, .any, .any, .any, .any, .any, .any, .any, .any, .any, .any, .any, .any, .any, .any, .any, .any, .any, .any, .any, .any, .any, .any, .any, .any, .any, .any, .any, .any, .any, .any, .any, .any, .any, .any, .any, .any, .any, .any, .any, .any, .any, .any, .any, .any, .any, .any, .any, .any, .any, .any, .any, .any, .any, .any, .any, .any, .any, .any, .any, .any, .any, .any, .any, .any, .any, .any, .any, .any, .any, .any, .any, .any, .any, .any, .any, .any, .any, .any, .any, .any, .any, .any, .any, .any, .any, .any, .any, .any, .any, .any, .any, .any, .any, .any, .any, .any, .any, .any, .any, .any, .any, .any, .any, .any, .any, .any, .any, .any, .any, .any, .any, .any, .any, .any, .any, .any, .any, .any, .any, .any, .any, .any, .any] ∧ st = σ ++ [some (.cells [.d (iD f.vars), .d (clsD f.cls)]), ints K]) (N.length - (k + 1)) _
        (Wk.mask [2, 5, 9, 11, 12, 14, 15, 16] ⟨k + 1, false, by omega, by omega, rfl, ?_, by simp only [isD, go_sem], by simp only [clsD, go_sem]⟩) ?_
      · rw [Bool.false_or, List.any_eq_true]
        exact ⟨r, hr, decide_eq_true hxr⟩
      rintro m' fr st ⟨j, b, hj, hkj, hm', hb', rfl, rfl⟩
      rcases Nat.lt_or_ge j N.length with hlt | hge
      · have hd' : decide ((j : Int) < (H.length : Int)) = true := decide_eq_true (by omega)
        have w2' := wrapS j (by omega)
        have hj' := hNm j hlt
        have e1' : List.getD (List.map iD H) j default = iD ((N.getD j 0 : Nat) : Int) := by rw [getD_mapD (by omega), hHN j hlt]
        rw [drop_getD 0 hlt, List.any_cons] at hb'
        generalize N.getD j 0 = i' at e1' hj' hb'
        have d5' : decide ((i' : Int) < 0) = false := decide_eq_false (by omega)
        have d6' : decide ((f.cls.length : Int) ≤ (i' : Int)) = false := decide_eq_false (by omega)
        have e3' := isD_getD hj'
        have hcb' := b4 _ (getD_mem [] hj')
        generalize f.cls.getD i' [] = C' at e3' hb' hcb'
        simp only [isD, clsD, go_sem, List.length_map, hd', e1', e3', w2', w3, d5', d6', Try.results8]
        refine ⟨⟨by omega, by omega⟩, ⟨by omega, by omega⟩, ⟨by omega, by omega⟩, ⟨by omega, by omega⟩, ac' (has23_ac C' (-x) (by simp only [reachBytes]; omega) _ _ _ ?_)⟩
        simp only [isD, clsD, go_sem, List.length_map, hd', e1', e3', w2', w3, d5', d6', Try.results8]
        exact Wk.mask [2, 5, 9, 11, 12, 14, 15, 16] ⟨N.length - (j + 1), by omega, j + 1, b || decide (-x ∈ C'), hlt, by omega, rfl, by rw [Bool.or_assoc]; exact hb', rfl, rfl⟩
      · have hd' : decide ((j : Int) < (H.length : Int)) = false := decide_eq_false (by omega)
        rw [List.drop_eq_nil_of_le hge, List.any_nil, Bool.or_false] at hb'
        subst hb'
        simp only [isD, clsD, go_sem, List.length_map, hd', w2, Try.results8]
        refine ⟨⟨by omega, by simp only [maxLen]; omega, by omega⟩, Wk.keep [2, 5, 9, 11, 12] [0, 3] (by decide) (Nat.le_refl _) hbd ⟨S.length + 1 - (k + 1), by omega, k + 1, K ++ [x], by omega, rfl, by rw [List.length_append, List.length_singleton]; omega, hK', ?_, ?_⟩⟩
        · simp only [go_sem, List.length_append, List.length_singleton]
        · simp only [go_sem, List.map_append, List.map_cons, List.map_nil, ints]
end Go.Proofs.Ytpmjdaiboniagaa
end PartU27

section PartV4
/- TopHintsJustify. -/
set_option linter.unusedSimpArgs false
set_option linter.unusedVariables false
set_option maxRecDepth 100000
namespace Go.Proofs.Ytpmjdaiboniagaa
open Go Go.Ab

theorem unit_of {T : List Int} {x : Int} (hx : -x ∉ T) : ∀ {c : List Int} {o : Int}, (∀ l ∈ c, l ∉ T) → (∀ l ∈ c, -l ∈ T ∨ l = x) → (o = x → unitS T c o = x) ∧ (o = 0 → x ∈ c → unitS T c o = x)
  | [], o, _, _ => ⟨fun h => h, fun _ h => by cases h⟩
  | l :: c, o, h1, h2 => by
    have h1' := fun y hy => h1 y (List.mem_cons_of_mem _ hy)
    have h2' := fun y hy => h2 y (List.mem_cons_of_mem _ hy)
    have hl := h1 l (by simp)
    refine ⟨fun e => ?_, fun e hm => ?_⟩
    · subst e
      have hlo : -l ∈ T ∨ l = o := h2 l (by simp)
      rw [unitS, if_neg hl, if_pos hlo]
      exact (unit_of hx h1' h2').1 rfl
    · subst e
      rw [unitS, if_neg hl]
      by_cases g : -l ∈ T ∨ l = 0
      · rw [if_pos g]
        rcases List.mem_cons.1 hm with e | q
        · subst e
          rcases g with g | g
          · exact absurd g hx
          · exact (unit_of hx h1' h2').1 g.symm
        · exact (unit_of hx h1' h2').2 rfl q
      · rw [if_neg g, if_neg (by simp)]
        have e : l = x := (h2 l (by simp)).resolve_left fun q => g (.inl q)
        exact (unit_of hx h1' h2').1 e
theorem just_of {cls : List (List Int)} (hc : ∀ c ∈ cls, ∀ l ∈ c, l ≠ 0) {c : Nat} (hci : c < cls.length) : ∀ {S : List Nat} {K T : List Int}, HintOk cls c K S → (∀ x, x ∈ T ↔ x ∈ K) → justR (fun n => cls.getD n []) T ((S ++ [c]).map fun n : Nat => (n : Int)) = true
  | [], K, T, h, hT => by
    simp only [HintOk] at h
    obtain ⟨_, b⟩ := stat_inv1 (hc _ (getD_mem [] hci)) h
    simp only [List.nil_append, List.map_cons, List.map_nil, justR, Int.toNat_natCast, falsS, List.all_eq_true, decide_eq_true_eq]
    intro l hl
    rw [hT]
    refine Decidable.byContradiction fun q => ?_
    have : l ∈ opL K (cls.getD c []) := mem_opL.2 ⟨hl, q⟩
    rw [b] at this; cases this
  | i :: S, K, T, h, hT => by
    obtain ⟨hi, x, hs, _, h2⟩ := h
    have hz := hc _ (getD_mem [] hi)
    have hst : statS T (cls.getD i []) 0 = (2, x) := stat_congr hz (fun l _ => hT _) (fun l _ q => (hT l).1 q) hs
    obtain ⟨a, b⟩ := stat_inv hz hst
    have hx : x ∈ opL T (cls.getD i []) := by rw [b]; simp
    have hxc := mem_opL.1 hx
    have hu : unitS T (cls.getD i []) 0 = x := (unit_of hxc.2 (satB_false.1 a) fun l hl => by
      by_cases q : -l ∈ T
      · exact .inl q
      · have : l ∈ opL T (cls.getD i []) := mem_opL.2 ⟨hl, q⟩
        rw [b] at this; exact .inr (by simpa using this)).2 rfl hxc.1
    have ih := just_of hc hci (T := T ++ [x]) h2 fun y => by simp only [List.mem_append, hT]
    obtain ⟨y, r, hr⟩ : ∃ y r, (S ++ [c]).map (fun n : Nat => (n : Int)) = y :: r := by
      cases S with
      | nil => exact ⟨_, _, rfl⟩
      | cons a S => exact ⟨_, _, rfl⟩
    rw [hr] at ih
    rw [List.cons_append, List.map_cons, hr, justR_two]
    simp only [Int.toNat_natCast]
    rw [hu, if_neg (hz x hxc.1)]
    exact ih
theorem mem_distS : ∀ {ls out : List Int} {x : Int}, x ∈ distS out ls ↔ x ∈ out ∨ -x ∈ ls
  | [], out, x => by simp [distS]
  | l :: ls, out, x => by
    rw [distS, mem_distS, List.mem_cons]
    have e : -x = l ↔ x = -l := by omega
    split
    · rename_i h
      rw [e]
      exact ⟨fun k => k.elim .inl fun k => .inr (.inr k), fun k => k.elim .inl fun k => k.elim (fun q => .inl (q ▸ h)) .inr⟩
    · rw [List.mem_append, List.mem_singleton, e]
      exact ⟨fun k => k.elim (fun k => k.elim .inl fun k => .inr (.inl k)) fun k => .inr (.inr k), fun k => k.elim (fun k => .inl (.inl k)) fun k => k.elim (fun k => .inl (.inr k)) .inr⟩
theorem distS_len : ∀ {ls out : List Int}, (distS out ls).length ≤ out.length + ls.length
  | [], out => by simp [distS]
  | l :: ls, out => by
    rw [distS]
    have := distS_len (ls := ls) (out := if -l ∈ out then out else out ++ [-l])
    split at this <;> simp at this ⊢ <;> rename_i h <;> simp only [h, if_true, if_false] <;> omega
theorem distS_nodup : ∀ {ls out : List Int}, out.Nodup → (distS out ls).Nodup
  | [], out, h => h
  | l :: ls, out, h => by
    rw [distS]
    refine distS_nodup ?_
    split
    · exact h
    · rename_i g
      exact List.nodup_append.2 ⟨h, by simp, fun a ha b hb e => g (by rw [List.mem_singleton] at hb; rw [← hb, ← e]; exact ha)⟩
theorem dist_lits {v : Int} {lits : List Int} (h : ∀ l ∈ lits, l ≠ 0 ∧ -v ≤ l ∧ l ≤ v ∧ -l ∉ lits) (hv : v ≤ 8000) : litsFrom v [] (distS [] lits) = true := by
  have hm : ∀ x ∈ distS [] lits, -x ∈ lits := fun x hx => (mem_distS.1 hx).resolve_left (by simp)
  have ha : ∀ x ∈ distS [] lits, absI x = (x.natAbs : Nat) ∧ x ≠ 0 ∧ -v ≤ x ∧ x ≤ v := fun x hx => by
    have := h _ (hm x hx)
    exact ⟨absI_of (by omega), by omega, by omega, by omega⟩
  refine litsFrom_iff.2 ⟨fun x hx => ?_, ?_, fun _ _ _ hy => by cases hy⟩
  · have := ha x hx; omega
  · refine List.pairwise_map.2 (List.Pairwise.imp_of_mem (fun {x y} hx hy hne e => ?_) (distS_nodup (by simp)))
    have h1 := ha x hx
    have h2 := ha y hy
    rw [h1.1, h2.1] at e
    have : x = -y := by omega
    exact (h _ (hm x hx)).2.2.2 (by rw [Int.neg_neg, this]; exact hm y hy)
theorem negs_dist {lits : List Int} (x : Int) : x ∈ negs (distS [] lits) ↔ x ∈ lits := by
  simp only [negs, List.mem_map]
  constructor
  · rintro ⟨y, hy, rfl⟩
    exact (mem_distS.1 hy).resolve_left (by simp)
  · exact fun hx => ⟨-x, mem_distS.2 (.inr (by simpa using hx)), by omega⟩
theorem clause_nil (cls : List (List Int)) (n : Nat) (h : n < cls.length) : clauseAt cls [] n = cls.getD n [] := by rw [clauseAt, if_pos h]
theorem justR_congr {p q : Nat → List Int} : ∀ {H T : List Int}, (∀ h ∈ H, p h.toNat = q h.toNat) → justR p T H = justR q T H
  | [], _, _ => rfl
  | [h], T, e => by rw [justR, justR, e h (by simp)]
  | h :: y :: r, T, e => by
    rw [justR_two, justR_two, e h (by simp)]
    split
    · rfl
    · exact justR_congr fun z hz => e z (List.mem_cons_of_mem _ hz)
/-- The hints justify the clause of the negatives. -/
theorem hint_step {f : Cnf} {lits : List Int} (hok : (validC f && litsOk f.vars [] lits) = true) {c : Nat} {S : List Nat} (hci : c < f.cls.length) (hH : HintOk f.cls c lits S) : stepG f [] ⟨distS [] lits, (S ++ [c]).map fun n : Nat => (n : Int)⟩ = true := by
  have hvc := (Bool.and_eq_true _ _ ▸ hok : _ ∧ _)
  have hz := valid_nz hvc.1
  have hv := (validC_spec hvc.1).1
  have hls := litsOk_spec hvc.2
  have hlt : ∀ n ∈ S ++ [c], n < f.cls.length := fun n hn => (List.mem_append.1 hn).elim (hintOk_lt hH n) fun q => by rw [List.mem_singleton] at q; omega
  have h1 := dist_lits (v := f.vars) (lits := lits) (fun l hl => ⟨(hls l hl).1, (hls l hl).2.1, (hls l hl).2.2.1, (hls l hl).2.2.2.2⟩) hv.2
  have h2 : hintsOk ((f.cls.length + 0 : Nat) : Int) ((S ++ [c]).map fun n : Nat => (n : Int)) = true := by
    unfold hintsOk
    rw [List.all_eq_true]
    intro x hx
    obtain ⟨n, hn, rfl⟩ := List.mem_map.1 hx
    have := hlt n hn
    simp only [Bool.not_eq_true', Bool.or_eq_false_iff, decide_eq_false_iff_not]
    omega
  have h3 : justR (clauseAt f.cls []) (negs (distS [] lits)) ((S ++ [c]).map fun n : Nat => (n : Int)) = true := by
    rw [justR_congr (q := fun n => f.cls.getD n []) fun h hh => ?_]
    · exact just_of hz hci hH fun x => negs_dist x
    · obtain ⟨n, hn, rfl⟩ := List.mem_map.1 hh
      exact clause_nil _ _ (by rw [Int.toNat_natCast]; exact hlt n hn)
  simp only [stepG, goodR, stepOk, stepsOk, List.length_nil, Bool.and_eq_true]
  exact ⟨hvc.1, trivial, ⟨h1, h2⟩, h3⟩
theorem holds_flip {v : List Bool} {l : Int} (h : holdsL v l = false) (h0 : l ≠ 0) : holdsL v (-l) = true := by
  unfold holdsL at h ⊢
  rw [Int.natAbs_neg]
  have : decide (0 < -l) = !decide (0 < l) := by
    rw [Bool.eq_iff_iff]; simp; omega
  rw [this]
  cases hb : v.getD (l.natAbs - 1) false <;> cases hd : decide (0 < l) <;> rw [hb, hd] at h <;> first | rfl | cases h
theorem hint_sat {f : Cnf} {lits : List Int} {v : List Bool} (hok : (validC f && litsOk f.vars [] lits) = true) (hc : (propS f lits).2.2 ≠ -1) (he : evalC f v = true) : (distS [] lits).any (holdsL v) = true := by
  have hls := litsOk_spec (Bool.and_eq_true _ _ ▸ hok : _ ∧ _).2
  refine Decidable.byContradiction fun q => hc (propS_sound hok he fun l hl => ?_).2
  have h0 := (hls l hl).1
  refine Decidable.byContradiction fun g => q (List.any_eq_true.2 ⟨-l, mem_distS.2 (.inr (by simpa using hl)), holds_flip (by simpa using g) h0⟩)
end Go.Proofs.Ytpmjdaiboniagaa
end PartV4

section PartV5
/- TopHintsJustify, evaluated. -/
set_option linter.unusedSimpArgs false
set_option linter.unusedVariables false
set_option maxRecDepth 100000
namespace Go.Proofs.Ytpmjdaiboniagaa
open Go Go.Ab

theorem hintOk_nodup {cls : List (List Int)} (hc : ∀ c ∈ cls, ∀ l ∈ c, l ≠ 0) {c : Nat} : ∀ {S : List Nat} {K : List Int}, HintOk cls c K S → S.Nodup ∧ ∀ i ∈ S, satB K (cls.getD i []) = false
  | [], K, _ => ⟨by simp, by simp⟩
  | i :: S, K, h => by
    obtain ⟨hi, x, hs, _, h2⟩ := h
    obtain ⟨a, b⟩ := stat_inv (hc _ (getD_mem [] hi)) hs
    obtain ⟨i1, i2⟩ := hintOk_nodup hc h2
    have hx : x ∈ cls.getD i [] := (mem_opL.1 (by rw [b]; simp : x ∈ opL K (cls.getD i []))).1
    refine ⟨List.nodup_cons.2 ⟨fun q => satB_false.1 (i2 i q) x hx (by simp), i1⟩, fun j hj => ?_⟩
    rcases List.mem_cons.1 hj with rfl | q
    · exact a
    · exact satB_false.2 fun l hl k => satB_false.1 (i2 j q) l hl (List.mem_append_left _ k)
set_option maxHeartbeats 4000000 in
theorem law17_ac (f : Cnf) (lits : List Int) (v : List Bool) (h1 : f.cls.length ≤ reachBytes) (h3 : ∀ c ∈ f.cls, c.length ≤ reachBytes) (hv : I64 f.vars) (hll : lits.length ≤ reachBytes) (hl : ∀ l ∈ lits, I64 l) (hvl : v.length ≤ reachBytes) (σ : St) (G : Glob) (R : A → St → Prop) (h : R (db true) σ) : AC Try.prog G 17 [.d (cnfD f), .d (isD lits), .d (bsD v)] σ R := by
  refine ac_enter mixed Try.func17 rfl Try.ntmps17 (by simp only [go_sem]) fun hbd => ?_
  simp only [List.length_cons, List.length_nil, Nat.reduceAdd, Nat.reduceSub, List.replicate_succ, List.replicate_zero, List.cons_append, List.nil_append]
  simp only [cnfD, go_sem]
  refine ac' (refuted50_ac _ _ _ ?_)
  simp only [go_sem]
  refine ac' (few51_ac f h1 h3 _ _ _ ?_)
  cases hfew : fewB f with
  | false =>
    simp only [isD, bsD, go_sem, List.length_map, Try.results17]
    refine ex' (.bool true) ⟨fun q => Bool.noConfusion q, ?_⟩
    simp only [isD, bsD, go_sem, Try.results17]
    exact ret_d hbd h
  | true =>
  by_cases hl10 : (10 : Int) < (lits.length : Int)
  · simp only [isD, bsD, go_sem, List.length_map, decide_eq_true hl10, Try.results17]
    refine ex' (.bool true) ⟨fun q => Bool.noConfusion q, ?_⟩
    simp only [isD, bsD, go_sem, Try.results17]
    exact ret_d hbd h
  by_cases hv100 : (100 : Int) < (v.length : Int)
  · simp only [isD, bsD, go_sem, List.length_map, decide_eq_false hl10, decide_eq_true hv100, Try.results17]
    refine ex' (.bool true) ⟨fun q => Bool.noConfusion q, ?_⟩
    simp only [isD, bsD, go_sem, Try.results17]
    exact ret_d hbd h
  simp only [isD, bsD, go_sem, List.length_map, decide_eq_false hl10, decide_eq_false hv100, Try.results17]
  refine ex' (.bool (validC f && litsOk f.vars [] lits)) ⟨fun _ => ?_, ?_⟩
  · simp only [go_sem]
    exact ac' (usable23_ac f lits hv h1 h3 hll hl _ _ _ (by rw [usB_eq]; exact ⟨rfl, rfl⟩))
  cases hok : (validC f && litsOk f.vars [] lits) with
  | false =>
    simp only [isD, bsD, go_sem, List.length_map, Try.results17]
    exact ret_d hbd h
  | true =>
  have hvc := (Bool.and_eq_true _ _ ▸ hok : _ ∧ _)
  have hfew2 := hfew
  simp only [fewB, Bool.and_eq_true, Bool.not_eq_true', decide_eq_false_iff_not, List.all_eq_true] at hfew2
  have hn : f.cls.length ≤ 40 := by omega
  have hw : ∀ c ∈ f.cls, c.length ≤ 1000 := fun c hc => by have := hfew2.2 c hc; omega
  have hls := litsOk_spec hvc.2
  have hv0 := (validC_spec hvc.1).1
  have hz := valid_nz hvc.1
  simp only [isD, bsD, go_sem, List.length_map, Try.results17]
  refine ac' (hints24_ac f lits hv hn hw hll hl _ _ _ ?_)
  rw [hintR_eq]
  have hsp := hintS_spec hok
  have hst := fun v => hint_sat (v := v) hok
  obtain ⟨⟨H, e⟩, hhe⟩ : ∃ r, hintS f lits = r := ⟨_, rfl⟩
  rw [hhe] at hsp
  rw [hhe]
  simp only [isD, bsD, go_sem, List.length_map, Try.results17]
  refine ac' (hints_ac f lits hv hn hw hll hl _ _ _ ?_)
  rw [hhe]
  rcases hsp with ⟨hc, he⟩ | ⟨c, S, hc, he, hci, hSl, hHO⟩
  · obtain ⟨rfl, rfl⟩ := Prod.mk.inj he
    simp only [isD, bsD, go_sem, List.length_map, Try.results17]
    exact ⟨fun _ => ret_d hbd h, fun q => absurd q (by decide)⟩
  · obtain ⟨rfl, rfl⟩ := Prod.mk.inj he
    have hstep := hint_step hok hci hHO
    have hnd := hintOk_nodup hz hHO
    have hS40 := nodup_len hnd.1 (hintOk_lt hHO)
    have hdl := distS_len (ls := lits) (out := [])
    have hdm : ∀ x ∈ distS [] lits, -x ∈ lits := fun x hx => (mem_distS.1 hx).resolve_left (by simp)
    simp only [isD, bsD, go_sem, List.length_map, Try.results17]
    refine ⟨fun q => absurd q (by simp), fun _ => ac' (distinct53_ac lits (by omega) (fun l hl => by have := hls l hl; omega) _ _ _ ?_)⟩
    simp only [isD, bsD, go_sem, List.length_map, Try.results17]
    have hf2 : Fine2 f ([] ++ [⟨distS [] lits, (S ++ [c]).map fun n : Nat => (n : Int)⟩]) := by
      refine ⟨⟨hv, by omega, h3, by simp, fun s hs => ?_⟩, fun s hs => ?_⟩
      · have : s = ⟨distS [] lits, (S ++ [c]).map fun n : Nat => (n : Int)⟩ := by simpa using hs
        subst this
        simp only [List.length_nil] at hdl
        refine ⟨by simp only; omega, by simp only [List.length_map, List.length_append, List.length_singleton]; omega, fun x hx => ?_⟩
        have := hls _ (hdm x hx)
        unfold I64; omega
      · have : s = ⟨distS [] lits, (S ++ [c]).map fun n : Nat => (n : Int)⟩ := by simpa using hs
        subst this
        simp only [List.length_nil] at hdl
        simp only; omega
    refine exs ?_
    simp only [isD, bsD, go_sem, List.length_map, beq_self_eq_true, Try.results17]
    refine ac' (ac_weak (Weak.nils (.cons (.refl _) (.cons (.d (.nil 2)) (.cons (.refl _) .nil)))) (step_ac f [] ⟨distS [] lits, (S ++ [c]).map fun n : Nat => (n : Int)⟩ hf2 _ _ _ ?_))
    rw [hstep]
    simp only [isD, bsD, go_sem, List.length_map, Try.results17]
    refine ex' (.bool (validC f && evalC f v)) ⟨fun _ => ?_, ?_⟩
    · simp only [go_sem]
      exact ac' (eval_ac f v hv h1 h3 _ _ _ ⟨rfl, rfl⟩)
    rw [hvc.1, Bool.true_and]
    have hst := hst v (by rw [hc]; omega)
    cases hev : evalC f v with
    | false =>
      simp only [isD, bsD, go_sem, List.length_map, Try.results17]
      refine ex' (.bool true) ⟨fun q => Bool.noConfusion q, ?_⟩
      simp only [isD, bsD, go_sem, Try.results17]
      exact ret_d hbd h
    | true =>
      simp only [isD, bsD, go_sem, List.length_map, Try.results17]
      refine ex' (.bool true) ⟨fun _ => ?_, ?_⟩
      · simp only [go_sem]
        refine ac' (holds_ac (distS [] lits) v (by simp only [reachBytes]; simp only [List.length_nil] at hdl; omega) (fun x hx => by have := hls _ (hdm x hx); omega) _ _ _ ?_)
        rw [hst hev]
        exact ⟨rfl, rfl⟩
      simp only [isD, bsD, go_sem, Try.results17]
      exact ret_d hbd h
end Go.Proofs.Ytpmjdaiboniagaa
end PartV5

section PartV6
/- TopTrimmedRefutes, plain: a trimmed list is good. -/
set_option linter.unusedSimpArgs false
set_option linter.unusedVariables false
namespace Go.Proofs.Ytpmjdaiboniagaa
open Go Go.Ab

theorem gset_bool {b : List Bool} {i j : Nat} (hi : i < b.length) : (b.set j true).getD i false = if i = j then true else b.getD i false := by
  simp only [List.getD_eq_getElem?_getD]
  split
  · rename_i e; subst e; rw [List.getElem?_set_self hi]; rfl
  · rename_i e; rw [List.getElem?_set_ne fun k => e k.symm]
theorem markH_get {n : Nat} : ∀ {hs : List Int} {b : List Bool} {i : Nat}, i < b.length → ((markH n hs b).getD i false = true ↔ b.getD i false = true ∨ ∃ h ∈ hs, (n : Int) ≤ h ∧ (h - n).toNat = i)
  | [], b, i, hi => by simp [markH]
  | h :: hs, b, i, hi => by
    rw [markH]
    have hl : (if (n : Int) ≤ h then b.set (h - n).toNat true else b).length = b.length := by split <;> simp
    rw [markH_get (by rw [hl]; exact hi)]
    by_cases g : (n : Int) ≤ h
    · rw [if_pos g, gset_bool hi]
      constructor
      · rintro (k | ⟨x, a, b, c⟩)
        · by_cases e : i = (h - n).toNat
          · exact .inr ⟨h, by simp, g, e.symm⟩
          · rw [if_neg e] at k; exact .inl k
        · exact .inr ⟨x, List.mem_cons_of_mem _ a, b, c⟩
      · rintro (k | ⟨x, a, b, c⟩)
        · left; split
          · rfl
          · exact k
        · rcases List.mem_cons.1 a with e | a
          · subst e; left; rw [if_pos c.symm]
          · exact .inr ⟨x, a, b, c⟩
    · rw [if_neg g]
      refine or_congr Iff.rfl ⟨fun ⟨x, a, b, c⟩ => ⟨x, List.mem_cons_of_mem _ a, b, c⟩, fun ⟨x, a, b, c⟩ => ?_⟩
      rcases List.mem_cons.1 a with e | a
      · subst e; exact absurd b g
      · exact ⟨x, a, b, c⟩
theorem markL_get {l : List Stp} {k i : Nat} {b : List Bool} (hi : i < b.length) : (markL l k b).getD i false = true ↔ b.getD i false = true ∨ (k + 1 = l.length ∧ i = k) := by
  unfold markL
  by_cases g : k + 1 = l.length
  · rw [if_pos g, gset_bool hi]
    split
    · rename_i e; simp [g, e]
    · rename_i e; simp [e]
  · rw [if_neg g]; simp [g]
section
variable {n : Nat} {l : List Stp} (hv : ∀ k, k < l.length → ∀ h ∈ (l.getD k ⟨[], []⟩).hints, 0 ≤ h ∧ h < ((n + k : Nat) : Int))
theorem markS_mono {k i : Nat} {b : List Bool} (hb : b.length = l.length) (hi : i < l.length) (h : b.getD i false = true) : (markS n l k b).getD i false = true := by
  have h1 : (markL l k b).getD i false = true := (markL_get (by omega)).2 (.inl h)
  unfold markS
  split
  · exact (markH_get (by rw [markL_len]; omega)).2 (.inl h1)
  · exact h1
include hv in
theorem markS_up {k i : Nat} {b : List Bool} (hb : b.length = l.length) (hk : k < l.length) (hi : i < l.length) (hki : k ≤ i) (h : (markS n l k b).getD i false = true) : (markL l k b).getD i false = true := by
  unfold markS at h
  split at h
  · rcases (markH_get (by rw [markL_len]; omega)).1 h with h | ⟨x, a, c, d⟩
    · exact h
    · have := hv k hk x a; omega
  · exact h
theorem marks_mono {i : Nat} (hi : i < l.length) {j m : Nat} (hjm : j ≤ m) (h : (marks n l j).getD i false = true) : (marks n l m).getD i false = true := by
  induction m with
  | zero => have : j = 0 := by omega
            subst this; exact h
  | succ m ih =>
    by_cases e : j = m + 1
    · subst e; exact h
    · exact markS_mono (marks_len n l m) hi (ih (by omega))
include hv in
theorem marks_closed : ∀ {j : Nat}, j ≤ l.length → ∀ k, l.length - j ≤ k → k < l.length → (marks n l j).getD k false = true → ∀ h ∈ (l.getD k ⟨[], []⟩).hints, (n : Int) ≤ h → (marks n l j).getD (h - n).toNat false = true
  | 0, _, k, h1, h2, _, _, _, _ => by omega
  | j + 1, hj, k, h1, h2, hk, h, hh, hn => by
    have hlen := marks_len n l j
    have hb := hv k h2 h hh
    have hi : (h - (n : Int)).toNat < l.length := by omega
    have hup := markS_up hv hlen (show l.length - 1 - j < l.length by omega) h2 (by omega) hk
    by_cases e : k = l.length - 1 - j
    · subst e
      rw [marks, markS, if_pos hup]
      exact (markH_get (by rw [markL_len]; omega)).2 (.inr ⟨h, hh, hn, rfl⟩)
    · have h3 : (marks n l j).getD k false = true := ((markL_get (by omega)).1 hup).resolve_right fun q => e q.2
      exact markS_mono hlen hi (marks_closed (j := j) (by omega) k (by omega) h2 h3 h hh hn)
theorem marks_last (h0 : 0 < l.length) : (marks n l l.length).getD (l.length - 1) false = true := by
  refine marks_mono (j := 1) (by omega) (by omega) ?_
  have h1 : (markL l (l.length - 1 - 0) (marks n l 0)).getD (l.length - 1) false = true := (markL_get (by rw [marks_len]; omega)).2 (.inr ⟨by omega, rfl⟩)
  rw [marks, markS]
  split
  · exact (markH_get (by rw [markL_len, marks_len]; omega)).2 (.inl h1)
  · exact h1
end
theorem justR_map {p q : Nat → List Int} {g : Int → Int} : ∀ {H T : List Int}, (∀ h ∈ H, p (g h).toNat = q h.toNat) → justR p T (H.map g) = justR q T H
  | [], _, _ => rfl
  | [h], T, e => by rw [List.map_cons, List.map_nil, justR, justR, e h (by simp)]
  | h :: y :: r, T, e => by
    rw [List.map_cons, List.map_cons, justR_two, justR_two, e h (by simp)]
    split
    · rfl
    · rw [← List.map_cons]; exact justR_map fun z hz => e z (List.mem_cons_of_mem _ hz)
/-- What trimming keeps, step by step. -/
structure TrI (f : Cnf) (l : List Stp) (nb : List Bool) (k : Nat) (nums : List Int) (res : List Stp) : Prop where
  len : res.length ≤ k
  num : nums.length = l.length
  at_ : ∀ i, i < k → nb.getD i false = true → ∃ r, r < res.length ∧ nums.getD i 0 = ((f.cls.length + r : Nat) : Int) ∧ (res.getD r stp0).lits = (l.getD i stp0).lits
  good : ∀ m, m < res.length → goodR f (res.take m) (res.getD m stp0) = true
  last : 0 < k → nb.getD (k - 1) false = true → 0 < res.length ∧ (res.getD (res.length - 1) stp0).lits = (l.getD (k - 1) stp0).lits
theorem trim_inv {f : Cnf} {l : List Stp} {nb : List Bool} (hnb : ∀ k, k < l.length → nb.getD k false = true → ∀ h ∈ (l.getD k stp0).hints, (f.cls.length : Int) ≤ h → nb.getD (h - f.cls.length).toNat false = true) (hg : ∀ i, i < l.length → goodR f (l.take i) (l.getD i stp0) = true) :
    ∀ {m k : Nat} {nums : List Int} {res : List Stp}, m = l.length - k → k ≤ l.length → TrI f l nb k nums res → ∃ nums', TrI f l nb l.length nums' (trimS f.cls.length nb (l.drop k) k nums res)
  | 0, k, nums, res, hm, hk, h => by
    have : k = l.length := by omega
    subst this
    rw [List.drop_length, trimS]
    exact ⟨nums, h⟩
  | m + 1, k, nums, res, hm, hk, h => by
    have hlt : k < l.length := by omega
    rw [drop_getD stp0 hlt, trimS]
    have hgk := hg k hlt
    have hbk := hnb k hlt
    obtain ⟨s, hs⟩ : ∃ s, l.getD k stp0 = s := ⟨_, rfl⟩
    rw [hs] at hgk hbk ⊢
    by_cases hn : nb.getD k false = true
    · rw [if_pos hn]
      refine trim_inv (m := m) hnb hg (by omega) hlt ?_
      have hb := hbk hn
      obtain ⟨nums', hne⟩ : ∃ nums', nums.set k ((f.cls.length : Int) + res.length) = nums' := ⟨_, rfl⟩
      rw [hne]
      have hget : ∀ i, i < k → nums'.getD i 0 = nums.getD i 0 := fun i hi => by rw [← hne]; simp only [List.getD_eq_getElem?_getD]; rw [List.getElem?_set_ne (by omega)]
      have hgetk : nums'.getD k 0 = ((f.cls.length + res.length : Nat) : Int) := by
        rw [← hne]; simp only [List.getD_eq_getElem?_getD]; rw [List.getElem?_set_self (by rw [h.num]; exact hlt)]; simp
      simp only [goodR, stepOk, Bool.and_eq_true] at hgk
      obtain ⟨⟨g1, g2⟩, g3⟩ := hgk
      rw [List.length_take, Nat.min_eq_left hk] at g2
      have hho : ∀ x ∈ s.hints, 0 ≤ x ∧ x < ((f.cls.length + k : Nat) : Int) := fun x hx => by
        have := List.all_eq_true.1 g2 x hx
        simp only [Bool.not_eq_true', Bool.or_eq_false_iff, decide_eq_false_iff_not] at this
        omega
      have hren : ∀ x ∈ s.hints, 0 ≤ renH f.cls.length nums' x ∧ renH f.cls.length nums' x < ((f.cls.length + res.length : Nat) : Int) ∧ clauseAt f.cls res (renH f.cls.length nums' x).toNat = clauseAt f.cls (l.take k) x.toNat := fun x hx => by
        have h0 := hho x hx
        unfold renH
        by_cases q : x < (f.cls.length : Int)
        · rw [if_pos q]
          refine ⟨h0.1, by omega, ?_⟩
          rw [clauseAt, clauseAt, if_pos (by omega), if_pos (by omega)]
        · rw [if_neg q]
          have hik : (x - (f.cls.length : Int)).toNat < k := by omega
          obtain ⟨r, r1, r2, r3⟩ := h.at_ _ hik (hb x hx (by omega))
          rw [hget _ hik, r2]
          refine ⟨by omega, by omega, ?_⟩
          rw [clauseAt, clauseAt, if_neg (by omega), if_neg (by omega)]
          have e1 : ((f.cls.length + r : Nat) : Int).toNat - f.cls.length = r := by omega
          have e2 : x.toNat - f.cls.length = (x - (f.cls.length : Int)).toNat := by omega
          rw [e1, e2]
          have e3 : (l.take k).getD (x - (f.cls.length : Int)).toNat ⟨[], []⟩ = l.getD (x - (f.cls.length : Int)).toNat stp0 := by
            simp only [List.getD_eq_getElem?_getD]; rw [List.getElem?_take, if_pos hik]
          rw [e3]; exact r3
      have hnew : (res ++ [(⟨s.lits, s.hints.map (renH f.cls.length nums')⟩ : Stp)]).getD res.length stp0 = ⟨s.lits, s.hints.map (renH f.cls.length nums')⟩ := by
        simp only [List.getD_eq_getElem?_getD]; rw [List.getElem?_append_right (Nat.le_refl _), Nat.sub_self]; rfl
      have hold : ∀ r, r < res.length → (res ++ [(⟨s.lits, s.hints.map (renH f.cls.length nums')⟩ : Stp)]).getD r stp0 = res.getD r stp0 := fun r hr => by
        simp only [List.getD_eq_getElem?_getD]; rw [List.getElem?_append_left hr]
      have hll : (res ++ [(⟨s.lits, s.hints.map (renH f.cls.length nums')⟩ : Stp)]).length = res.length + 1 := by simp
      have hlen := h.len
      refine ⟨by omega, by rw [← hne, List.length_set]; exact h.num, fun i hi hni => ?_, fun m hm => ?_, fun _ _ => ?_⟩
      · by_cases e : i = k
        · subst e
          exact ⟨res.length, by omega, hgetk, by rw [hnew, hs]⟩
        · obtain ⟨r, r1, r2, r3⟩ := h.at_ i (by omega) hni
          exact ⟨r, by omega, by rw [hget i (by omega)]; exact r2, by rw [hold r r1]; exact r3⟩
      · by_cases e : m = res.length
        · subst e
          rw [hnew, List.take_left']
          · simp only [goodR, stepOk, Bool.and_eq_true]
            refine ⟨⟨g1, ?_⟩, ?_⟩
            · unfold hintsOk
              rw [List.all_eq_true]
              intro y hy
              obtain ⟨x, hx, rfl⟩ := List.mem_map.1 hy
              have := hren x hx
              simp only [Bool.not_eq_true', Bool.or_eq_false_iff, decide_eq_false_iff_not]
              omega
            · rw [justR_map (q := clauseAt f.cls (l.take k)) fun x hx => (hren x hx).2.2]
              exact g3
          · rfl
        · have hm' : m < res.length := by omega
          rw [hold m hm', List.take_append_of_le_length (by omega)]
          exact h.good m hm'
      · rw [hll]
        exact ⟨by omega, by rw [Nat.add_sub_cancel, Nat.add_sub_cancel, hnew, hs]⟩
    · rw [if_neg hn]
      refine trim_inv (m := m) hnb hg (by omega) hlt ⟨by have := h.len; omega, h.num, fun i hi hni => ?_, h.good, fun _ q => ?_⟩
      · by_cases e : i = k
        · subst e; exact absurd hni hn
        · exact h.at_ i (by omega) hni
      · rw [Nat.add_sub_cancel] at q; exact absurd q hn
/-- The trimmed list. -/
theorem trim_good {f : Cnf} {l : List Stp} (hvf : validC f = true) (hl : l.length ≤ 20000) (h0 : 0 < l.length) (hst : stepsOk f.vars f.cls.length l = true) (hc : ∀ i, i < l.length → goodR f (l.take i) (l.getD i stp0) = true) :
    (trimL f l).length ≤ l.length ∧ 0 < (trimL f l).length ∧ chk (goodR f) f (trimL f l) = (-1, 0) ∧ ((trimL f l).getD ((trimL f l).length - 1) stp0).lits = (l.getD (l.length - 1) stp0).lits := by
  have hv := hints_of hst
  obtain ⟨nums, hI⟩ := trim_inv (nb := marks f.cls.length l l.length) (fun k hk hn h hh hle => marks_closed hv (Nat.le_refl _) k (by omega) hk hn h hh hle) hc (m := l.length) (k := 0) (nums := List.replicate l.length 0) (res := []) (by omega) (by omega)
    ⟨by simp, by simp, fun i hi => by omega, fun m hm => by simp at hm, fun h => by omega⟩
  rw [List.drop_zero] at hI
  change TrI f l _ l.length nums (trimL f l) at hI
  obtain ⟨hp, hlast⟩ := hI.last h0 (marks_last h0)
  refine ⟨hI.len, hp, ?_, hlast⟩
  rcases chk_cases (l := trimL f l) hvf (by have := hI.len; omega) with h | ⟨n, _, h2, h3, _⟩
  · exact h.1
  · rw [hI.good n h2] at h3; cases h3
end Go.Proofs.Ytpmjdaiboniagaa
end PartV6
