import Derived.Test.YtnanofipjiclfaaZ48

section PartX3
/- head. -/
set_option linter.unusedSimpArgs false
set_option linter.unusedVariables false
set_option maxRecDepth 100000
namespace Go.Proofs.Ytnanofipjiclfaa
open Go Go.Ab
variable {I : Sl → Nat} {S : Sv} {σ : St}

theorem nilA_asm {r : A} {F : Int} : NilAL [r, .d .nils, di F] [r, .d (isD []), di F] := NilAL.cons (.refl _) (NilAL.cons (.d (.nil 1)) (NilAL.cons (.refl _) .nil))
/-- A solver beside what was there; u, s bound the fuel used and the steps. -/
structure Hed (σ : St) (n M : Nat) (C : List (List Int)) (u s : Nat) (I : Sl → Nat) (S : Sv) (st : St) : Prop where
  hs : Hs σ.length I S st
  old : Old σ st
  cls : Cls M n C S
  used : S.used ≤ u
  steps : S.steps.length ≤ s
theorem Hed.step {n M M' : Nat} {C C' : List (List Int)} {u s u' s' : Nat} {X : Sl → Prop} {I' : Sl → Nat} {S' : Sv} {st st' : St} (h : Hed σ n M C u s I S st) (k : Stp X I S st I' st') (hs : Sol I' S' st') (hc : Cls M' n C' S') (hu : S'.used ≤ u') (hst : S'.steps.length ≤ s') : Hed σ n M' C' u' s' I' S' st' :=
  ⟨h.hs.step h.old.len k hs (h.cls.has hc), k.cut h.hs.low h.old, hc, hu, hst⟩
theorem hed_solveG {n M : Nat} {C : List (List Int)} {u s : Nat} {st : St} (hH : Hed σ n M C u s I S st) (hM : M ≤ 900000) (hu : u ≤ 100000000000) (hn : n ≤ 12) (asm : List Int) (hal : asm.length ≤ 1000000) (hv : ∀ l ∈ asm, LitV n l) (F : Nat) (hF : F ≤ 1000000) (G : Glob) (R : A → St → Prop)
    (h : ∀ m r, m = pot n (S.head asm F) false + 1 + 8000000 → Sv.srch (S.start asm F).2 m (S.head asm F) 0 0 = some r → Slv n M asm F S (r.1.finish F) r.2 → ∀ I' st', Hed σ n (M + 1) C (u + F) (s + 2 ^ n) I' (r.1.finish F) st' → Stp Any I S st I' st' → R (.tup [di r.2, di 0]) st') : AC Try.prog G 13 [.ref (I .st) 0, .d (isD asm), dn F] st R := by
  have hvs := hH.cls.vars
  refine solve_rest hH.hs.sol hH.cls hM (by have := hH.used; omega) hn (by have := inp_all S; rw [hvs] at this; exact this) asm hal (fun l _ hl => by unfold LitV at hl; unfold vr; omega) F G R (fun e => by omega) (fun e => ?_) fun F' hF' _ hval m r hm hr k1 k2 I' st' k3 k4 => ?_
  · rw [(valid_all hvs).2 hv] at e; cases e
  · obtain rfl : F = F' := by omega
    exact h m r hm hr k1 I' st' (hH.step k4 k3 k2 (by have := k1.used2; have := hH.used; omega) (by have := k1.steps; have := hH.steps; omega)) k4
theorem hed_solve {n M : Nat} {C : List (List Int)} {u s : Nat} {st : St} (hH : Hed σ n M C u s I S st) (hM : M ≤ 900000) (hu : u ≤ 100000000000) (hn : n ≤ 12) (asm : List Int) (hal : asm.length ≤ 1000000) (hv : ∀ l ∈ asm, LitV n l) (F : Nat) (hF : F ≤ 1000000) (G : Glob) (R : A → St → Prop)
    (h : ∀ m r, Sv.srch (S.start asm F).2 m (S.head asm F) 0 0 = some r → Slv n M asm F S (r.1.finish F) r.2 → ∀ I' st', Hed σ n (M + 1) C (u + F) (s + 2 ^ n) I' (r.1.finish F) st' → Stp Any I S st I' st' → R (.tup [di r.2, di 0]) st') : AC Try.prog G 13 [.ref (I .st) 0, .d (isD asm), dn F] st R :=
  hed_solveG hH hM hu hn asm hal hv F hF G R fun m r _ => h m r
theorem hed_add {n M : Nat} {C : List (List Int)} {u s : Nat} {st : St} (hH : Hed σ n M C u s I S st) (hM : M ≤ 1000000) (c : List Int) (hc : c.length ≤ 1000000) (hC : C.length < 40000) (hv : ∀ l ∈ c, LitV n l) (G : Glob) (R : A → St → Prop)
    (h : ∀ I' st', Hed σ n (M + 1) (C ++ [c]) u s I' (S.add c) st' → Stp Any I S st I' st' → R (di 0) st') : AC Try.prog G 12 [.ref (I .st) 0, .d (isD c)] st R := by
  have hvs := hH.cls.vars
  refine add_rest hH.hs.sol hH.cls hM c hc hC G R (fun e => ?_) fun _ I' st' k1 k2 => ?_
  · rw [(valid_all hvs).2 hv] at e; cases e
  · obtain ⟨h1, h2, h3⟩ := hH.cls.add hv hc hC
    exact h I' st' (hH.step k2 k1 h1 (by rw [h2]; exact hH.used) (by rw [h3]; exact hH.steps)) k2
/-- More objects behind. -/
theorem Hed.app {n M : Nat} {C : List (List Int)} {u s : Nat} {st : St} (h : Hed σ n M C u s I S st) (l : St) : Hed σ n M C u s I S (st ++ l) := ⟨⟨h.hs.sol.app l, h.hs.low⟩, h.old.trans (old_app st l), h.cls, h.used, h.steps⟩
theorem hd0_ok : ∀ c ∈ hd0, (∀ l ∈ c, LitV 2 l) ∧ c.length ≤ 1000000 := by
  unfold hd0 LitV; decide
set_option maxHeartbeats 4000000 in
theorem head_ac (σ : St) (G : Glob) (R : A → St → Prop) (h : R (db true) σ) : AC Try.prog G 9 [] σ R := by
  refine ac_enterC [2, 3, 4, 6, 7, 8, 10, 11, 12, 13, 14, 15] mixed Try.func9 rfl Try.ntmps9 (by simp only [go_sem]) fun hbd => ?_
  simp only [List.length_cons, List.length_nil, Nat.reduceAdd, Nat.reduceSub, List.replicate_succ, List.replicate_zero, List.cons_append, List.nil_append]
  simp only [go_sem]
  refine aw_cut (fun fr st => ∃ I S, fr = [.any, .ref (I .st) 0, .any, .any, .any, .any, .any, .any, .any, .any, .any, .any, .any, .any, .any, .any, .any, .any, .any, .any, .any, .any, .any, .any, .any, .any, .any, .any, .any, .any, .any, .any, .any, .any, .any, .any, .any, .any, .any, .any, .any, .any, .any, .any, .any, .any, .any, .any, .any, .any, .any, .any, .any, .any, .any, .any, .any, .any, .any, .any, .any, .any, .any, .any, .any, .any, .any, .any, .any, .any, .any, .any, .any, .any, .any, .any, .any, .any, .any, .any, .any, .any, .any, .any, .any, .any, .any, .any, .any, .any, .any, .any, .any, .any, .any, .any, .any, .any, .any, .any, .any, .any, .any, .any, .any, .any, .any, .any, .any, .any, .any, .any, .any, .any, .any, .any, .any, .any, .any, .any, .any, .any, .any, .any, .any, .any, .any, .any, .any, .any, .any, .any, .any, .any, .any, .any, .any, .any, .any, .any, .any, .any, .any, .any, .any, .any, .any, .any, .any, .any, .any, .any, .any, .any] ∧ Hed σ 2 3 hd0 0 0 I S st) ?_ ?_
  · simp only [go_sem]
    refine ac' (ac_weak (Weak.deep [0, 1, 2, 3] 5) ?_)
    simp only [go_sem]
    refine with_ac 2 (by decide) hd0 (by decide) hd0_ok _ _ _ fun I σ' k1 k2 => ?_
    obtain ⟨a1, a2, a3⟩ := addAll_cls 2 (by decide) hd0 (by decide) hd0_ok
    exact Wk.mask [1] ⟨I, _, rfl, k1.weak (by simp), (old_app σ _).trans k2, a1, by rw [a2]; exact Nat.le_refl _, by rw [a3]; exact Nat.le_refl _⟩
  rintro fr st ⟨I, S, rfl, hH⟩
  simp only [go_sem]
  refine aw_cut (fun fr st => ∃ I S, fr = [.any, .ref (I .st) 0, di 1, di 0, .any, .any, .any, .any, .any, .any, .any, .any, .any, .any, .any, .any, .any, .any, .any, .any, .any, .any, .any, .any, .any, .any, .any, .any, .any, .any, .any, .any, .any, .any, .any, .any, .any, .any, .any, .any, .any, .any, .any, .any, .any, .any, .any, .any, .any, .any, .any, .any, .any, .any, .any, .any, .any, .any, .any, .any, .any, .any, .any, .any, .any, .any, .any, .any, .any, .any, .any, .any, .any, .any, .any, .any, .any, .any, .any, .any, .any, .any, .any, .any, .any, .any, .any, .any, .any, .any, .any, .any, .any, .any, .any, .any, .any, .any, .any, .any, .any, .any, .any, .any, .any, .any, .any, .any, .any, .any, .any, .any, .any, .any, .any, .any, .any, .any, .any, .any, .any, .any, .any, .any, .any, .any, .any, .any, .any, .any, .any, .any, .any, .any, .any, .any, .any, .any, .any, .any, .any, .any, .any, .any, .any, .any, .any, .any, .any, .any, .any, .any, .any, .any] ∧ Hed σ 2 4 hd0 200000 4 I S st ∧ S.refuted = false ∧ S.satisfied = true ∧ S.values.length = 2 ∧ SatC (βV S.values) hd0) ?_ ?_
  · simp only [go_sem]
    refine ac' (ac_weak (Weak.nils nilA_asm) ?_)
    refine hed_solve hH (by decide) (by decide) (by decide) [] (by decide) (fun l hl => by cases hl) 200000 (by decide) _ _ fun m r hr k1 I' st' k2 k3 => ?_
    have hv1 : r.2 = 1 := k1.isYes (k1.done (by rw [hH.cls.vars]; decide) (by have := k2.steps; simp only [pmax]; omega)) (by rw [hH.cls.cls]; exact hd0_yes)
    obtain ⟨y1, y2, y3, y4, -⟩ := k1.yes hv1
    rw [hH.cls.vars] at y3
    rw [hH.cls.cls] at y4
    rw [hv1, ← k3.st]
    simp only [go_sem]
    exact Wk.mask [1, 2, 3] ⟨I', _, rfl, k2, y1, y2, y3, y4⟩
  clear hH
  rintro fr st ⟨I, S, rfl, hH, y1, y2, y3, y4⟩
  have hv : valsM S = [true, true] := by
    unfold valsM
    rw [y2, if_pos rfl]
    obtain ⟨h1, h2⟩ := hd0_iff.1 y4
    unfold βV at h1 h2
    match hvs : S.values, y3 with
    | [a, b], _ =>
      rw [hvs] at h1 h2
      have e1 : a = true := h1
      have e2 : b = true := h2
      rw [e1, e2]
  have hcr : coreM S = [] := by unfold coreM; rw [y1]; rfl
  simp only [go_sem]
  refine aw_cut (fun fr st' => fr = [.any, .ref (I .st) 0, di 1, di 0, .d (.sl 1 [.bool true, .bool true]), .any, .any, .any, .any, .any, .any, .any, .any, .any, .any, .any, .any, .any, .any, .any, .any, .any, .any, .any, .any, .any, .any, .any, .any, .any, .any, .any, .any, .any, .any, .any, .any, .any, .any, .any, .any, .any, .any, .any, .any, .any, .any, .any, .any, .any, .any, .any, .any, .any, .any, .any, .any, .any, .any, .any, .any, .any, .any, .any, .any, .any, .any, .any, .any, .any, .any, .any, .any, .any, .any, .any, .any, .any, .any, .any, .any, .any, .any, .any, .any, .any, .any, .any, .any, .any, .any, .any, .any, .any, .any, .any, .any, .any, .any, .any, .any, .any, .any, .any, .any, .any, .any, .any, .any, .any, .any, .any, .any, .any, .any, .any, .any, .any, .any, .any, .any, .any, .any, .any, .any, .any, .any, .any, .any, .any, .any, .any, .any, .any, .any, .any, .any, .any, .any, .any, .any, .any, .any, .any, .any, .any, .any, .any, .any, .any, .any, .any, .any, .any] ∧ st' = st) ?_ ?_
  · simp only [go_sem]
    refine ac' (values_ac hH.hs.sol (fun _ => by omega) _ _ ?_)
    rw [hv]
    simp only [go_sem]
    exact Wk.mask [1, 2, 3, 4] ⟨rfl, rfl⟩
  rintro fr st' ⟨rfl, rfl⟩
  have q1 : ((1 : Int) != 1) = false := rfl
  have q0 : ((0 : Int) != 0) = false := rfl
  have q2 : (((2 : Nat) : Int) != 2) = false := rfl
  have e1 : List.getD [D.bool true, D.bool true] (Int.toNat 0) default = .bool true := rfl
  have e2 : List.getD [D.bool true, D.bool true] (Int.toNat 1) default = .bool true := rfl
  simp only [go_sem]
  refine aw_cut (fun fr st => fr = [.any, .ref (I .st) 0, .any, .any, .any, .any, .any, .any, .any, .any, .any, .any, .any, .any, .any, .any, .any, .any, .any, .any, .any, .any, .any, .any, .any, .any, .any, .any, .any, .any, .any, .any, .any, .any, .any, .any, .any, .any, .any, .any, .any, .any, .any, .any, .any, .any, .any, .any, .any, .any, .any, .any, .any, .any, .any, .any, .any, .any, .any, .any, .any, .any, .any, .any, .any, .any, .any, .any, .any, .any, .any, .any, .any, .any, .any, .any, .any, .any, .any, .any, .any, .any, .any, .any, .any, .any, .any, .any, .any, .any, .any, .any, .any, .any, .any, .any, .any, .any, .any, .any, .any, .any, .any, .any, .any, .any, .any, .any, .any, .any, .any, .any, .any, .any, .any, .any, .any, .any, .any, .any, .any, .any, .any, .any, .any, .any, .any, .any, .any, .any, .any, .any, .any, .any, .any, .any, .any, .any, .any, .any, .any, .any, .any, .any, .any, .any, .any, .any, .any, .any, .any, .any, .any, .any] ∧ st = st') ?_ ?_
  · simp only [go_sem, q1, q0, q2, e1, e2]
    refine ⟨⟨by omega, by omega⟩, ⟨by omega, by omega⟩, ex' (isD []) ⟨fun q => ?_, ?_⟩⟩
    · simp only [go_sem]
      refine ac' (core_ac hH.hs.sol (fun e => by rw [y1] at e; cases e) _ _ ?_)
      rw [hcr]
      exact And.intro rfl rfl
    have q3 : (((0 : Nat) : Int) != 0) = false := rfl
    simp only [isD, List.map_nil, go_sem, q1, q0, q2, q3, e1, e2]
    exact Wk.mask [1] ⟨rfl, rfl⟩
  clear hv hcr y1 y2 y3 y4
  rintro fr st ⟨rfl, rfl⟩
  simp only [go_sem]
  refine aw_cut (fun fr st => ∃ I S, fr = [.any, .ref (I .st) 0, .any, di 0, .any, di 2, .any, .any, .any, .any, .any, .any, .any, .any, .any, .any, .any, .any, .any, .any, .any, .any, .any, .any, .any, .any, .any, .any, .any, .any, .any, .any, .any, .any, .any, .any, .any, .any, .any, .any, .any, .any, .any, .any, .any, .any, .any, .any, .any, .any, .any, .any, .any, .any, .any, .any, .any, .any, .any, .any, .any, .any, .any, .any, .any, .any, .any, .any, .any, .any, .any, .any, .any, .any, .any, .any, .any, .any, .any, .any, .any, .any, .any, .any, .any, .any, .any, .any, .any, .any, .any, .any, .any, .any, .any, .any, .any, .any, .any, .any, .any, .any, .any, .any, .any, .any, .any, .any, .any, .any, .any, .any, .any, .any, .any, .any, .any, .any, .any, .any, .any, .any, .any, .any, .any, .any, .any, .any, .any, .any, .any, .any, .any, .any, .any, .any, .any, .any, .any, .any, .any, .any, .any, .any, .any, .any, .any, .any, .any, .any, .any, .any, .any, .any] ∧ Hed σ 2 5 hd0 400000 8 I S st ∧ S.refuted = true ∧ S.satisfied = false ∧ S.core.length ≤ 13 ∧ S.core.Nodup ∧ S.core ≠ []) ?_ ?_
  · simp only [go_sem]
    refine ac' (ac_weak (Weak.deep [0] 3) ?_)
    simp only [go_sem]
    refine hed_solve (hH.app [none]) (by decide) (by decide) (by decide) [-2, 1, -2] (by decide) (by unfold LitV; decide) 200000 (by decide) _ _ fun m r hr k1 I' st' k2 k3 => ?_
    have hv1 : r.2 = 2 := k1.isNo (k1.done (by rw [hH.cls.vars]; decide) (by have := k2.steps; simp only [pmax]; omega)) (by rw [hH.cls.cls]; exact hd0_no)
    obtain ⟨y1, y2, y3, y4, y5, y6, y7⟩ := k1.no hv1
    rw [hH.cls.cls] at y6
    rw [hv1, ← k3.st]
    simp only [go_sem]
    exact Wk.mask [1, 3, 5] ⟨I', _, rfl, k2, y1, y2, y4, y5, fun e => y6 (by rw [e]; exact hd0_yes)⟩
  clear hH
  rintro fr st ⟨I, S, rfl, hH, y1, y2, y3, y4, y5⟩
  have hcr : coreM S = S.core := by unfold coreM; rw [y1]; rfl
  have hv : valsM S = [] := by unfold valsM; rw [y2]; rfl
  simp only [go_sem]
  refine aw_cut (fun fr st' => fr = [.any, .ref (I .st) 0, .any, di 0, .any, di 2, .d (isD S.core), .any, .any, .any, .any, .any, .any, .any, .any, .any, .any, .any, .any, .any, .any, .any, .any, .any, .any, .any, .any, .any, .any, .any, .any, .any, .any, .any, .any, .any, .any, .any, .any, .any, .any, .any, .any, .any, .any, .any, .any, .any, .any, .any, .any, .any, .any, .any, .any, .any, .any, .any, .any, .any, .any, .any, .any, .any, .any, .any, .any, .any, .any, .any, .any, .any, .any, .any, .any, .any, .any, .any, .any, .any, .any, .any, .any, .any, .any, .any, .any, .any, .any, .any, .any, .any, .any, .any, .any, .any, .any, .any, .any, .any, .any, .any, .any, .any, .any, .any, .any, .any, .any, .any, .any, .any, .any, .any, .any, .any, .any, .any, .any, .any, .any, .any, .any, .any, .any, .any, .any, .any, .any, .any, .any, .any, .any, .any, .any, .any, .any, .any, .any, .any, .any, .any, .any, .any, .any, .any, .any, .any, .any, .any, .any, .any, .any, .any] ∧ st' = st) ?_ ?_
  · simp only [go_sem]
    refine ac' (core_ac hH.hs.sol (fun _ => by omega) _ _ ?_)
    rw [hcr]
    simp only [go_sem]
    exact Wk.mask [1, 3, 5, 6] ⟨rfl, rfl⟩
  rintro fr st' ⟨rfl, rfl⟩
  simp only [go_sem]
  refine aw_cut (fun fr st => fr = [.any, .ref (I .st) 0, .any, .any, .any, .any, .any, .any, .any, .any, .any, .any, .any, .any, .any, .any, .any, .any, .any, .any, .any, .any, .any, .any, .any, .any, .any, .any, .any, .any, .any, .any, .any, .any, .any, .any, .any, .any, .any, .any, .any, .any, .any, .any, .any, .any, .any, .any, .any, .any, .any, .any, .any, .any, .any, .any, .any, .any, .any, .any, .any, .any, .any, .any, .any, .any, .any, .any, .any, .any, .any, .any, .any, .any, .any, .any, .any, .any, .any, .any, .any, .any, .any, .any, .any, .any, .any, .any, .any, .any, .any, .any, .any, .any, .any, .any, .any, .any, .any, .any, .any, .any, .any, .any, .any, .any, .any, .any, .any, .any, .any, .any, .any, .any, .any, .any, .any, .any, .any, .any, .any, .any, .any, .any, .any, .any, .any, .any, .any, .any, .any, .any, .any, .any, .any, .any, .any, .any, .any, .any, .any, .any, .any, .any, .any, .any, .any, .any, .any, .any, .any, .any, .any, .any] ∧ st = st') ?_ ?_
  · have q4 : ((S.core.length : Int) == 0) = false := by
      rw [beq_eq_false_iff_ne]
      intro e
      exact y5 (List.eq_nil_of_length_eq_zero (by omega))
    have q5 : ((2 : Int) != 2) = false := rfl
    unfold isD
    simp only [go_sem, q0, q4, q5, List.length_map]
    refine ex' (.bool true) ⟨fun q => ?_, ?_⟩
    · simp only [go_sem]
      refine ac' (distinct_ac S.core (by omega) _ _ _ ?_)
      rw [decide_eq_true y4]
      exact And.intro rfl rfl
    simp only [go_sem, q0, q4, q5, List.length_map]
    refine ex' (bsD []) ⟨fun q => ?_, ?_⟩
    · simp only [go_sem]
      refine ac' (values_ac hH.hs.sol (fun e => by rw [y2] at e; cases e) _ _ ?_)
      rw [hv]
      exact And.intro rfl rfl
    have q3 : (((0 : Nat) : Int) != 0) = false := rfl
    simp only [bsD, List.map_nil, go_sem, q0, q3, q4, q5, List.length_map]
    exact Wk.mask [1] ⟨rfl, rfl⟩
  clear hv hcr y1 y2 y3 y4 y5
  rintro fr st ⟨rfl, rfl⟩
  simp only [go_sem]
  refine aw_cut (fun fr st => ∃ I S, fr = [.any, .ref (I .st) 0, .any, .any, .any, .any, .any, di 0, .any, .any, .any, .any, .any, .any, .any, .any, .any, .any, .any, .any, .any, .any, .any, .any, .any, .any, .any, .any, .any, .any, .any, .any, .any, .any, .any, .any, .any, .any, .any, .any, .any, .any, .any, .any, .any, .any, .any, .any, .any, .any, .any, .any, .any, .any, .any, .any, .any, .any, .any, .any, .any, .any, .any, .any, .any, .any, .any, .any, .any, .any, .any, .any, .any, .any, .any, .any, .any, .any, .any, .any, .any, .any, .any, .any, .any, .any, .any, .any, .any, .any, .any, .any, .any, .any, .any, .any, .any, .any, .any, .any, .any, .any, .any, .any, .any, .any, .any, .any, .any, .any, .any, .any, .any, .any, .any, .any, .any, .any, .any, .any, .any, .any, .any, .any, .any, .any, .any, .any, .any, .any, .any, .any, .any, .any, .any, .any, .any, .any, .any, .any, .any, .any, .any, .any, .any, .any, .any, .any, .any, .any, .any, .any, .any, .any] ∧ Hed σ 2 6 hd1 400000 8 I S st) ?_ ?_
  · simp only [go_sem]
    refine ac' (ac_weak (Weak.deep [0] 3) ?_)
    simp only [go_sem]
    refine hed_add (hH.app [none]) (by decide) [-1, -2, -1] (by decide) (by decide) (by unfold LitV; decide) _ _ fun I' st' k2 k3 => ?_
    rw [← k3.st]
    exact Wk.mask [1, 7] ⟨I', _, rfl, k2⟩
  clear hH
  rintro fr st ⟨I, S, rfl, hH⟩
  simp only [go_sem]
  refine aw_cut (fun fr st => fr = [.any, .ref (I .st) 0, .any, .any, .any, .any, .any, di 0, di 210, .any, .any, .any, .any, .any, .any, .any, .any, .any, .any, .any, .any, .any, .any, .any, .any, .any, .any, .any, .any, .any, .any, .any, .any, .any, .any, .any, .any, .any, .any, .any, .any, .any, .any, .any, .any, .any, .any, .any, .any, .any, .any, .any, .any, .any, .any, .any, .any, .any, .any, .any, .any, .any, .any, .any, .any, .any, .any, .any, .any, .any, .any, .any, .any, .any, .any, .any, .any, .any, .any, .any, .any, .any, .any, .any, .any, .any, .any, .any, .any, .any, .any, .any, .any, .any, .any, .any, .any, .any, .any, .any, .any, .any, .any, .any, .any, .any, .any, .any, .any, .any, .any, .any, .any, .any, .any, .any, .any, .any, .any, .any, .any, .any, .any, .any, .any, .any, .any, .any, .any, .any, .any, .any, .any, .any, .any, .any, .any, .any, .any, .any, .any, .any, .any, .any, .any, .any, .any, .any, .any, .any, .any, .any, .any, .any] ∧ Hed σ 2 6 hd1 400000 8 I S st) ?_ ?_
  · simp only [go_sem]
    refine ac' (ac_weak (Weak.deep [0] 3) ?_)
    simp only [go_sem]
    refine add_rest (hH.app [none]).hs.sol hH.cls (by decide) [3] (by decide) (by decide) _ _ (fun e => ?_) fun e => ?_
    · exact Wk.mask [1, 7, 8] ⟨rfl, hH.app [none]⟩
    · have := (valid_all hH.cls.vars).1 e 3 (by simp)
      unfold LitV at this; omega
  rintro fr st ⟨rfl, hH⟩
  simp only [go_sem]
  refine aw_cut (fun fr st => ∃ I S, fr = [.any, .ref (I .st) 0, .any, di 0, .any, .any, .any, di 0, di 210, di 2, .any, .any, .any, .any, .any, .any, .any, .any, .any, .any, .any, .any, .any, .any, .any, .any, .any, .any, .any, .any, .any, .any, .any, .any, .any, .any, .any, .any, .any, .any, .any, .any, .any, .any, .any, .any, .any, .any, .any, .any, .any, .any, .any, .any, .any, .any, .any, .any, .any, .any, .any, .any, .any, .any, .any, .any, .any, .any, .any, .any, .any, .any, .any, .any, .any, .any, .any, .any, .any, .any, .any, .any, .any, .any, .any, .any, .any, .any, .any, .any, .any, .any, .any, .any, .any, .any, .any, .any, .any, .any, .any, .any, .any, .any, .any, .any, .any, .any, .any, .any, .any, .any, .any, .any, .any, .any, .any, .any, .any, .any, .any, .any, .any, .any, .any, .any, .any, .any, .any, .any, .any, .any, .any, .any, .any, .any, .any, .any, .any, .any, .any, .any, .any, .any, .any, .any, .any, .any, .any, .any, .any, .any, .any, .any] ∧ Hed σ 2 7 hd1 600000 12 I S st ∧ S.refuted = true ∧ S.core = [] ∧ 0 < S.steps.length ∧ (S.steps.getD (S.steps.length - 1) ([], [])).1 = []) ?_ ?_
  · simp only [go_sem]
    refine ac' (ac_weak (Weak.nils nilA_asm) ?_)
    refine hed_solve hH (by decide) (by decide) (by decide) [] (by decide) (fun l hl => by cases hl) 200000 (by decide) _ _ fun m r hr k1 I' st' k2 k3 => ?_
    have hv1 : r.2 = 2 := k1.isNo (k1.done (by rw [hH.cls.vars]; decide) (by have := k2.steps; simp only [pmax]; omega)) (by rw [hH.cls.cls]; exact hd1_no)
    obtain ⟨y1, y2, y3, y4, y5, y6, y7⟩ := k1.no hv1
    have hc : (r.1.finish 200000).core = [] := List.eq_nil_iff_forall_not_mem.2 fun x hx => by cases y3 x hx
    rw [hc] at y7
    rcases y7 with ⟨l, hl, -⟩ | ⟨y7, y8⟩
    · cases hl
    rw [hv1, ← k3.st]
    simp only [go_sem]
    exact Wk.mask [1, 3, 7, 8, 9] ⟨I', _, rfl, k2, y1, hc, y7, List.perm_nil.1 y8⟩
  clear hH
  rintro fr st ⟨I, S, rfl, hH, y1, y2, y3, y4⟩
  have hz := hH.cls.rest.szs
  simp only [go_sem]
  refine aw_cut (fun fr st' => fr = [.any, .ref (I .st) 0, .any, di 0, .any, .any, .any, di 0, di 210, di 2, .d (prfD (proofM S)), .any, .any, .any, .any, .any, .any, .any, .any, .any, .any, .any, .any, .any, .any, .any, .any, .any, .any, .any, .any, .any, .any, .any, .any, .any, .any, .any, .any, .any, .any, .any, .any, .any, .any, .any, .any, .any, .any, .any, .any, .any, .any, .any, .any, .any, .any, .any, .any, .any, .any, .any, .any, .any, .any, .any, .any, .any, .any, .any, .any, .any, .any, .any, .any, .any, .any, .any, .any, .any, .any, .any, .any, .any, .any, .any, .any, .any, .any, .any, .any, .any, .any, .any, .any, .any, .any, .any, .any, .any, .any, .any, .any, .any, .any, .any, .any, .any, .any, .any, .any, .any, .any, .any, .any, .any, .any, .any, .any, .any, .any, .any, .any, .any, .any, .any, .any, .any, .any, .any, .any, .any, .any, .any, .any, .any, .any, .any, .any, .any, .any, .any, .any, .any, .any, .any, .any, .any, .any, .any, .any, .any, .any, .any] ∧ st' = st) ?_ ?_
  · simp only [go_sem]
    refine ac' (proof_ac hH.hs.sol hz.1 hz.2.1 hz.2.2 _ _ ?_)
    simp only [go_sem]
    exact Wk.mask [1, 3, 7, 8, 9, 10] ⟨rfl, rfl⟩
  rintro fr st' ⟨rfl, rfl⟩
  simp only [go_sem]
  refine aw_cut (fun fr st => fr = [.any, .ref (I .st) 0, .any, di 0, .any, .any, .any, di 0, di 210, di 2, .d (prfD (proofM S)), di 1, di 0, .any, .any, .any, .any, .any, .any, .any, .any, .any, .any, .any, .any, .any, .any, .any, .any, .any, .any, .any, .any, .any, .any, .any, .any, .any, .any, .any, .any, .any, .any, .any, .any, .any, .any, .any, .any, .any, .any, .any, .any, .any, .any, .any, .any, .any, .any, .any, .any, .any, .any, .any, .any, .any, .any, .any, .any, .any, .any, .any, .any, .any, .any, .any, .any, .any, .any, .any, .any, .any, .any, .any, .any, .any, .any, .any, .any, .any, .any, .any, .any, .any, .any, .any, .any, .any, .any, .any, .any, .any, .any, .any, .any, .any, .any, .any, .any, .any, .any, .any, .any, .any, .any, .any, .any, .any, .any, .any, .any, .any, .any, .any, .any, .any, .any, .any, .any, .any, .any, .any, .any, .any, .any, .any, .any, .any, .any, .any, .any, .any, .any, .any, .any, .any, .any, .any, .any, .any, .any, .any, .any, .any] ∧ Hed σ 2 7 hd1 600000 12 I S st) ?_ ?_
  · simp only [go_sem]
    refine ac' (ac_weak (Weak.nils (show NilAL [di ((0 : Nat) : Int), .d .nils] [di ((0 : Nat) : Int), .d (csD [])] from NilAL.cons (.refl _) (NilAL.cons (.d (.nil 1)) .nil))) ?_)
    refine with_ac 0 (by decide) [] (by decide) (fun c hc => by cases hc) _ _ _ fun J st2 k1 k2 => ?_
    obtain ⟨a1, a2, a3⟩ := addAll_cls 0 (by decide) [] (by decide) (fun c hc => by cases hc)
    have hT : Two J (addAll 0 []) I S st2 := ⟨k1.sol, ⟨fun s hs => by rw [k2.eq _ (hH.hs.sol.lt s hs)]; exact hH.hs.sol.get s hs, hH.hs.sol.inj⟩, fun s t hs ht e => by have := k1.low s hs; have := hH.hs.sol.lt t ht; omega⟩
    have hJ : Hed st' 0 0 [] 0 0 J (addAll 0 []) st2 := ⟨k1, k2, a1, by rw [a2]; exact Nat.le_refl _, by rw [a3]; exact Nat.le_refl _⟩
    simp only [go_sem]
    refine ac' (ac_weak (Weak.nils nilA_asm) ?_)
    refine hed_solve hJ (by decide) (by decide) (by decide) [] (by decide) (fun l hl => by cases hl) 200000 (by decide) _ _ fun m r hr k3 J' st3 k4 k5 => ?_
    have hv1 : r.2 = 1 := k3.isYes (k3.done (by rw [a1.vars]; decide) (by have := k4.steps; simp only [pmax]; omega)) (by rw [a1.cls]; exact nil_yes)
    rw [hv1]
    have hT2 := hT.fst k5 k4.hs.sol (a1.has k4.cls)
    simp only [go_sem]
    exact Wk.mask [1, 3, 7, 8, 9, 10, 11, 12] ⟨rfl, ⟨hT2.b, hH.hs.low⟩, hH.old.trans k4.old, hH.cls, hH.used, hH.steps⟩
  rintro fr st ⟨rfl, hH⟩
  have hcr : coreM S = [] := by unfold coreM; rw [y1]; exact y2
  have hpl : (proofM S).length = S.steps.length := by unfold proofM; simp
  have hpe : (proofM S).getD (S.steps.length - 1) ([], []) = ([], ((S.steps.getD (S.steps.length - 1) ([], [])).2.map (shiftH S.added.length))) := by
    unfold proofM
    rw [List.getD_eq_getElem?_getD, List.getElem?_map, List.getElem?_eq_getElem (by omega)]
    have := y4
    rw [List.getD_eq_getElem?_getD, List.getElem?_eq_getElem (by omega)] at this ⊢
    simp only [Option.map_some, Option.getD_some] at this ⊢
    rw [this]
  have g0 : List.getD ((proofM S).map lnD) (S.steps.length - 1) default = lnD ((proofM S).getD (S.steps.length - 1) ([], [])) := getD_mapD (by omega)
  rw [hpe] at g0
  have hle := hz.1
  have w1 : IntKind.i64.wrap ((S.steps.length : Int) - 1) = ((S.steps.length - 1 : Nat) : Int) := by rw [wrap64_id _ (by omega) (by omega)]; omega
  have z0 : ((0 : Int) == 0) = true := rfl
  have z1 : ((210 : Int) == 210) = true := rfl
  have z2 : ((2 : Int) == 2) = true := rfl
  have z3 : (((0 : Nat) : Int) == 0) = true := rfl
  have z4 : decide ((0 : Int) < (S.steps.length : Int)) = true := decide_eq_true (by omega)
  have z5 : ((1 : Int) == 1) = true := rfl
  unfold prfD
  simp only [go_sem, z0, z1, z2, z3, z4, z5]
  refine ex' (isD []) ⟨fun q => ?_, ?_⟩
  · simp only [go_sem]
    refine ac' (core_ac hH.hs.sol (fun _ => by rw [y2]; decide) _ _ ?_)
    rw [hcr]
    exact And.intro rfl rfl
  simp only [isD, List.map_nil, go_sem, List.length_map, hpl, g0, lnD, w1, z0, z1, z2, z3, z4, z5]
  refine ⟨⟨by omega, by omega⟩, ex' .nilp ⟨fun q => ?_, ?_⟩⟩
  · simp only [go_sem]
    refine ac' (new_nil (-1) (Or.inl (by decide)) _ _ _ ?_)
    exact And.intro rfl rfl
  simp only [isD, List.map_nil, go_sem, List.length_map, hpl, g0, lnD, w1, z0, z1, z2, z3, z4, z5]
  refine ex' .nilp ⟨fun q => ?_, ?_⟩
  · simp only [go_sem]
    refine ac' (new_nil 8001 (Or.inr (by decide)) _ _ _ ?_)
    exact And.intro rfl rfl
  simp only [isD, List.map_nil, go_sem, List.length_map, hpl, g0, lnD, w1, z0, z1, z2, z3, z4, z5, Try.results9]
  exact ret_old hbd hH.old h
end Go.Proofs.Ytnanofipjiclfaa
end PartX3

section PartX4
/- SolverIncrements. -/
set_option linter.unusedSimpArgs false
set_option linter.unusedVariables false
set_option maxRecDepth 100000
namespace Go.Proofs.Ytnanofipjiclfaa
open Go Go.Ab
variable {I : Sl → Nat} {S : Sv} {σ : St}

/-- What a verdict says; L bounds the steps from below when it is open. -/
structure Vx (C : List (List Int)) (asm : List Int) (x : Int) (L : Nat) : Prop where
  v3 : x = 0 ∨ x = 1 ∨ x = 2
  z : x = 0 → pmax ≤ L
  y : x = 1 → SatA C asm
  n : x = 2 → ¬ SatA C asm
theorem Slv.vx {b M F : Nat} {asm : List Int} {S N : Sv} {v : Int} (h : Slv b M asm F S N v) (hF : 2 ^ b * (S.vars + 1) ≤ F) : Vx S.cls asm v N.steps.length :=
  ⟨h.v3, fun e => by obtain ⟨-, -, h1⟩ := h.und e; rcases h1 with h1 | h1 <;> omega, h.sat, h.unsat⟩
theorem Vx.mono {C : List (List Int)} {asm : List Int} {x : Int} {L L' : Nat} (h : Vx C asm x L) (hl : L ≤ L') : Vx C asm x L' := ⟨h.v3, fun e => Nat.le_trans (h.z e) hl, h.y, h.n⟩
theorem Vx.yes {C : List (List Int)} {asm : List Int} {x : Int} {L : Nat} (h : Vx C asm x L) (h0 : x ≠ 0) (hs : SatA C asm) : x = 1 := by
  rcases h.v3 with e | e | e
  · exact absurd e h0
  · exact e
  · exact absurd hs (h.n e)
theorem Vx.no {C : List (List Int)} {asm : List Int} {x : Int} {L : Nat} (h : Vx C asm x L) (h0 : x ≠ 0) (hs : ¬ SatA C asm) : x = 2 := by
  rcases h.v3 with e | e | e
  · exact absurd e h0
  · exact absurd (h.y e) hs
  · exact e
theorem Vx.eq {C : List (List Int)} {asm : List Int} {x y : Int} {L L' : Nat} (h : Vx C asm x L) (k : Vx C asm y L') (hx : x ≠ 0) (hy : y ≠ 0) : x = y := by
  rcases h.v3 with e | e | e
  · exact absurd e hx
  · rw [e, k.yes hy (h.y e)]
  · rw [e, k.no hy (h.n e)]
theorem SatA.less {C D : List (List Int)} {a : List Int} (h : SatA (C ++ D) a) : SatA C a := by
  obtain ⟨β, h1, h2⟩ := h
  exact ⟨β, fun c hc => h1 c (List.mem_append_left _ hc), h2⟩
theorem Hed.mono {n M M' : Nat} {C : List (List Int)} {u s u' s' : Nat} {st : St} (h : Hed σ n M C u s I S st) (hM : M ≤ M') (hu : u ≤ u') (hs : s ≤ s') : Hed σ n M' C u' s' I S st := ⟨h.hs, h.old, ⟨h.cls.rest.mono hM, h.cls.vars, h.cls.cls⟩, Nat.le_trans h.used hu, Nat.le_trans h.steps hs⟩
/-- Two solvers beside what was there. -/
structure Duo (σ : St) (n M : Nat) (C : List (List Int)) (u s : Nat) (I : Sl → Nat) (S : Sv) (M' : Nat) (C' : List (List Int)) (u' s' : Nat) (J : Sl → Nat) (T : Sv) (st : St) : Prop where
  a : Hed σ n M C u s I S st
  b : Hed σ n M' C' u' s' J T st
  d : ∀ x t, has S x → has T t → I x ≠ J t
theorem Duo.symm {n M M' : Nat} {C C' : List (List Int)} {u s u' s' : Nat} {J : Sl → Nat} {T : Sv} {st : St} (h : Duo σ n M C u s I S M' C' u' s' J T st) : Duo σ n M' C' u' s' J T M C u s I S st := ⟨h.b, h.a, fun x t hx ht e => h.d t x ht hx e.symm⟩
theorem Duo.fst {n M M' M1 : Nat} {C C' C1 : List (List Int)} {u s u' s' u1 s1 : Nat} {X : Sl → Prop} {I' J : Sl → Nat} {S' T : Sv} {st st' : St} (h : Duo σ n M C u s I S M' C' u' s' J T st) (k : Stp X I S st I' st') (a : Hed σ n M1 C1 u1 s1 I' S' st') : Duo σ n M1 C1 u1 s1 I' S' M' C' u' s' J T st' := by
  have t : Two I S J T st := ⟨h.a.hs.sol, h.b.hs.sol, h.d⟩
  have t' := t.fst k a.hs.sol (h.a.cls.has a.cls)
  exact ⟨a, ⟨⟨t'.b, h.b.hs.low⟩, a.old, h.b.cls, h.b.used, h.b.steps⟩, t'.d⟩
theorem Duo.app {n M M' : Nat} {C C' : List (List Int)} {u s u' s' : Nat} {J : Sl → Nat} {T : Sv} {st : St} (h : Duo σ n M C u s I S M' C' u' s' J T st) (l : St) : Duo σ n M C u s I S M' C' u' s' J T (st ++ l) := ⟨h.a.app l, h.b.app l, h.d⟩
/-- A second solver, made behind the first. -/
theorem duo_new {n M : Nat} {C : List (List Int)} {u s : Nat} {st st' : St} (h : Hed σ n M C u s I S st) {M' : Nat} {C' : List (List Int)} {J : Sl → Nat} {T : Sv} (hJ : Hs st.length J T st') (ho : Old st st') (hc : Cls M' n C' T) {u' s' : Nat} (hu : T.used ≤ u') (hs : T.steps.length ≤ s') : Duo σ n M C u s I S M' C' u' s' J T st' :=
  ⟨⟨⟨⟨fun x hx => by rw [ho.eq _ (h.hs.sol.lt x hx)]; exact h.hs.sol.get x hx, h.hs.sol.inj⟩, h.hs.low⟩, h.old.trans ho, h.cls, h.used, h.steps⟩, ⟨hJ.weak h.old.len, h.old.trans ho, hc, hu, hs⟩, fun x t hx ht e => by have := h.hs.sol.lt x hx; have := hJ.low t ht; omega⟩
/-- What the tests of a formula say. -/
theorem fits_of {n : Int} {C : List (List Int)} (h : fitsB n C = true) : ∃ m : Nat, n = m ∧ m ≤ 12 ∧ C.length ≤ 60 ∧ ∀ c ∈ C, (∀ l ∈ c, LitV m l) ∧ c.length ≤ 20 := by
  unfold fitsB fitsC at h
  simp only [Bool.and_eq_true, Bool.not_eq_true', Bool.or_eq_false_iff, decide_eq_false_iff_not, List.all_eq_true, Bool.not_eq_false'] at h
  obtain ⟨⟨⟨h1, h2⟩, h3⟩, h4⟩ := h
  refine ⟨n.toNat, by omega, by omega, by omega, fun c hc => ?_⟩
  obtain ⟨h5, h6⟩ := h4 c hc
  have e : n = (n.toNat : Int) := by omega
  rw [e] at h6
  exact ⟨validB_iff.1 h6, by omega⟩
theorem pow12 {n : Nat} (h : n ≤ 12) : 2 ^ n ≤ 4096 ∧ 2 ^ n * (n + 1) ≤ 53248 := by
  have h1 : 2 ^ n ≤ 2 ^ 12 := Nat.pow_le_pow_right (by decide) h
  refine ⟨h1, ?_⟩
  calc 2 ^ n * (n + 1) ≤ 2 ^ 12 * (12 + 1) := Nat.mul_le_mul h1 (by omega)
    _ = 53248 := by decide
set_option maxHeartbeats 8000000 in
theorem law4_ac (n : Int) (C : List (List Int)) (hC : C.length ≤ 1000000000000000) (hCc : ∀ c ∈ C, c.length ≤ 1000000000000000) (asm : List Int) (hA : asm.length ≤ 1000000000000000) (σ : St) (G : Glob) (R : A → St → Prop) (h : ∀ s, R (db true) s) : AC Try.prog G 4 [di n, .d (csD C), .d (isD asm)] σ R := by
  refine ac_enterC [3, 5, 6, 10, 12, 13, 14, 15, 16, 17, 19, 21, 22, 23, 24, 25] mixed Try.func4 rfl Try.ntmps4 (by simp only [go_sem]) fun hbd => ?_
  simp only [List.length_cons, List.length_nil, Nat.reduceAdd, Nat.reduceSub, List.replicate_succ, List.replicate_zero, List.cons_append, List.nil_append]
  simp only [go_sem, Try.results4]
  refine aw_cut (fun fr st => fr = [di n, .d (csD C), .d (isD asm), .any, .any, .any, .any, .any, .any, .any, .any, .any, .any, .any, .any, .any, .any, .any, .any, .any, .any, .any, .any, .any, .any, .any, .any, .any, .any, .any, .any, .any, .any, .any, .any, .any, .any, .any, .any, .any, .any, .any, .any, .any, .any, .any, .any, .any, .any, .any, .any, .any, .any, .any, .any, .any, .any, .any, .any, .any, .any, .any, .any, .any, .any, .any, .any, .any, .any, .any, .any, .any, .any, .any, .any, .any, .any, .any, .any, .any, .any, .any, .any, .any, .any, .any, .any, .any, .any, .any, .any, .any, .any, .any, .any, .any, .any, .any, .any, .any, .any, .any, .any, .any, .any, .any, .any, .any, .any, .any, .any, .any, .any, .any, .any, .any, .any, .any, .any, .any, .any, .any, .any, .any, .any, .any, .any, .any, .any, .any, .any, .any, .any, .any, .any, .any, .any, .any, .any, .any, .any, .any, .any, .any, .any, .any, .any, .any, .any, .any, .any, .any, .any, .any, .any] ∧ st = σ) ?_ ?_
  · simp only [go_sem, Try.results4]
    refine ac' (head_ac _ _ _ ?_)
    simp only [go_sem, Try.results4]
    exact Wk.mask [0, 1, 2] ⟨rfl, rfl⟩
  rintro fr st ⟨rfl, rfl⟩
  simp only [go_sem, Try.results4]
  refine aw_cut (fun fr st' => fitsB n C = true ∧ asm.length ≤ 20 ∧ validB n asm = true ∧ fr = [di n, .d (csD C), .d (isD asm), .any, .any, .any, .any, .any, .any, .any, .any, .any, .any, .any, .any, .any, .any, .any, .any, .any, .any, .any, .any, .any, .any, .any, .any, .any, .any, .any, .any, .any, .any, .any, .any, .any, .any, .any, .any, .any, .any, .any, .any, .any, .any, .any, .any, .any, .any, .any, .any, .any, .any, .any, .any, .any, .any, .any, .any, .any, .any, .any, .any, .any, .any, .any, .any, .any, .any, .any, .any, .any, .any, .any, .any, .any, .any, .any, .any, .any, .any, .any, .any, .any, .any, .any, .any, .any, .any, .any, .any, .any, .any, .any, .any, .any, .any, .any, .any, .any, .any, .any, .any, .any, .any, .any, .any, .any, .any, .any, .any, .any, .any, .any, .any, .any, .any, .any, .any, .any, .any, .any, .any, .any, .any, .any, .any, .any, .any, .any, .any, .any, .any, .any, .any, .any, .any, .any, .any, .any, .any, .any, .any, .any, .any, .any, .any, .any, .any, .any, .any, .any, .any, .any, .any] ∧ st' = st) ?_ ?_
  · simp only [go_sem, Try.results4]
    refine ac' (fits_ac n C hC hCc _ _ _ ?_)
    cases hf : fitsB n C with
    | false =>
      unfold isD
      simp only [go_sem, Try.results4]
      refine ex' (.bool true) ⟨fun q => Bool.noConfusion q, ?_⟩
      simp only [go_sem, Try.results4]
      exact ⟨_, _, Weak.refl _ _ _ _, h _⟩
    | true =>
      obtain ⟨m, rfl, hm, -, -⟩ := fits_of hf
      unfold isD
      simp only [go_sem, List.length_map, Try.results4]
      refine ex' (.bool (validB m asm)) ⟨fun q => ?_, ?_⟩
      · simp only [go_sem]
        exact ⟨q, ac' (validR_ac m (by omega) asm (by omega) _ _ _ (And.intro rfl rfl))⟩
      simp only [go_sem, List.length_map, Try.results4]
      refine ⟨fun e => ⟨_, _, Weak.refl _ _ _ _, h _⟩, fun e => ?_⟩
      simp only [Bool.or_eq_false_iff, decide_eq_false_iff_not, Bool.not_eq_false'] at e
      exact Wk.mask [0, 1, 2] ⟨by omega, e.2, rfl, rfl⟩
  rintro fr st' ⟨hf, hal, hva, rfl, rfl⟩
  obtain ⟨m, rfl, hm, hCl, hCv⟩ := fits_of hf
  have hav := validB_iff.1 hva
  obtain ⟨hp1, hp2⟩ := pow12 hm
  simp only [go_sem, Try.results4]
  refine aw_cut (fun fr st => ∃ I, fr = [dn m, .d (csD C), .d (isD asm), .any, .any, .any, .any, .ref (I .st) 0, .any, .any, .any, .any, .any, .any, .any, .any, .any, .any, .any, .any, .any, .any, .any, .any, .any, .any, .any, .any, .any, .any, .any, .any, .any, .any, .any, .any, .any, .any, .any, .any, .any, .any, .any, .any, .any, .any, .any, .any, .any, .any, .any, .any, .any, .any, .any, .any, .any, .any, .any, .any, .any, .any, .any, .any, .any, .any, .any, .any, .any, .any, .any, .any, .any, .any, .any, .any, .any, .any, .any, .any, .any, .any, .any, .any, .any, .any, .any, .any, .any, .any, .any, .any, .any, .any, .any, .any, .any, .any, .any, .any, .any, .any, .any, .any, .any, .any, .any, .any, .any, .any, .any, .any, .any, .any, .any, .any, .any, .any, .any, .any, .any, .any, .any, .any, .any, .any, .any, .any, .any, .any, .any, .any, .any, .any, .any, .any, .any, .any, .any, .any, .any, .any, .any, .any, .any, .any, .any, .any, .any, .any, .any, .any, .any, .any, .any] ∧ Hed st' m 0 [] 0 0 I (newS m) st) ?_ ?_
  · simp only [go_sem, Try.results4]
    refine ac' (new_ac m (by omega) _ _ _ fun I σ' k1 k2 k3 k4 => ?_)
    simp only [go_sem, Try.results4]
    exact Wk.mask [0, 1, 2, 7] ⟨I, rfl, ⟨k1, k2⟩, ⟨k4, k3⟩, ⟨new_rest m (by omega), rfl, rfl⟩, Nat.le_refl _, Nat.le_refl _⟩
  rintro fr st ⟨I0, rfl, hH0⟩
  unfold csD
  simp only [go_sem, List.length_map, Try.results4]
  refine aw_loop (fun q fr st => ∃ (j : Nat) (I : Sl → Nat) (S : Sv) (rf : Bool), j ≤ C.length ∧ q = C.length - j ∧ fr = [dn m, .d (csD C), .d (isD asm), .any, .any, .any, .any, .ref (I .st) 0, db rf, .any, .any, .any, .any, .any, .any, .any, .any, .any, .any, .any, .any, .any, .any, .any, .any, .any, .any, .any, .any, .any, .any, .any, .any, .any, .any, .any, .any, .any, .any, .any, .any, .any, .d (csD C), dn C.length, dn j, .any, .any, .any, .any, .any, .any, .any, .any, .any, .any, .any, .any, .any, .any, .any, .any, .any, .any, .any, .any, .any, .any, .any, .any, .any, .any, .any, .any, .any, .any, .any, .any, .any, .any, .any, .any, .any, .any, .any, .any, .any, .any, .any, .any, .any, .any, .any, .any, .any, .any, .any, .any, .any, .any, .any, .any, .any, .any, .any, .any, .any, .any, .any, .any, .any, .any, .any, .any, .any, .any, .any, .any, .any, .any, .any, .any, .any, .any, .any, .any, .any, .any, .any, .any, .any, .any, .any, .any, .any, .any, .any, .any, .any, .any, .any, .any, .any, .any, .any, .any, .any, .any, .any, .any, .any, .any, .any, .any, .any, .any] ∧ Hed st' m (5 * j) (C.take j) (1000000 * j) (1000000 * j) I S st ∧ (rf = true → ¬ SatA (C.take j) [])) C.length _
    (Wk.mask [0, 1, 2, 7, 8, 42, 43, 44] ⟨0, I0, newS m, false, by omega, by omega, rfl, hH0, fun e => by cases e⟩) ?_
  clear hH0
  rintro q fr st ⟨j, I, S, rf, hj, rfl, rfl, hH, hrf⟩
  have hout : ∀ s : St, ∃ r σ', Weak G st'.length [db true] s [r] σ' ∧ R r σ' := fun s => ⟨_, _, Weak.refl _ _ _ _, h _⟩
  rcases Nat.lt_or_ge j C.length with hlt | hge
  · have hd : decide ((j : Int) < (C.length : Int)) = true := by simp; omega
    have w2 := wrapS j (by omega)
    have g0 : List.getD (C.map isD) j default = isD (C.getD j []) := getD_mapD hlt
    obtain ⟨hcv, hcl⟩ := hCv _ (getD_mem [] hlt)
    have htk : C.take (j + 1) = C.take j ++ [C.getD j []] := take_getD [] hlt
    have hlen : (C.take j).length = j := by rw [List.length_take]; omega
    generalize hce : C.getD j [] = c at g0 hcv hcl htk
    unfold csD
    simp only [go_sem, List.length_map, hd, g0, w2, isD, Try.results4]
    refine aw_cut (fun fr s => fr = [dn m, .d (csD C), .d (isD asm), .any, .any, .any, .any, .ref (I .st) 0, db rf, dn j, .d (isD c), .any, .any, .any, .any, .any, .any, .any, .any, .any, .any, .any, .any, .any, .any, .any, .any, .any, .any, .any, .any, .any, .any, .any, .any, .any, .any, .any, .any, .any, .any, .any, .d (csD C), dn C.length, dn j, .any, .any, .any, .any, .any, .any, .any, .any, .any, .any, .any, .any, .any, .any, .any, .any, .any, .any, .any, .any, .any, .any, .any, .any, .any, .any, .any, .any, .any, .any, .any, .any, .any, .any, .any, .any, .any, .any, .any, .any, .any, .any, .any, .any, .any, .any, .any, .any, .any, .any, .any, .any, .any, .any, .any, .any, .any, .any, .any, .any, .any, .any, .any, .any, .any, .any, .any, .any, .any, .any, .any, .any, .any, .any, .any, .any, .any, .any, .any, .any, .any, .any, .any, .any, .any, .any, .any, .any, .any, .any, .any, .any, .any, .any, .any, .any, .any, .any, .any, .any, .any, .any, .any, .any, .any, .any, .any, .any, .any, .any] ∧ s = st) ?_ ?_
    · simp only [go_sem, List.length_map, hd, g0, w2, isD, Try.results4]
      exact ⟨⟨by omega, by omega⟩, Wk.mask [0, 1, 2, 7, 8, 9, 10, 42, 43, 44] ⟨rfl, rfl⟩⟩
    rintro fr s ⟨rfl, rfl⟩
    simp only [go_sem, Try.results4]
    refine aw_cut (fun fr s => ∃ I S, fr = [dn m, .d (csD C), .d (isD asm), .any, .any, .any, .any, .ref (I .st) 0, db rf, dn j, .any, .any, .any, .any, .any, .any, .any, .any, .any, .any, .any, .any, .any, .any, .any, .any, .any, .any, .any, .any, .any, .any, .any, .any, .any, .any, .any, .any, .any, .any, .any, .any, .d (csD C), dn C.length, dn j, .any, .any, .any, .any, .any, .any, .any, .any, .any, .any, .any, .any, .any, .any, .any, .any, .any, .any, .any, .any, .any, .any, .any, .any, .any, .any, .any, .any, .any, .any, .any, .any, .any, .any, .any, .any, .any, .any, .any, .any, .any, .any, .any, .any, .any, .any, .any, .any, .any, .any, .any, .any, .any, .any, .any, .any, .any, .any, .any, .any, .any, .any, .any, .any, .any, .any, .any, .any, .any, .any, .any, .any, .any, .any, .any, .any, .any, .any, .any, .any, .any, .any, .any, .any, .any, .any, .any, .any, .any, .any, .any, .any, .any, .any, .any, .any, .any, .any, .any, .any, .any, .any, .any, .any, .any, .any, .any, .any, .any, .any] ∧ Hed st' m (5 * j + 1) (C.take (j + 1)) (1000000 * j) (1000000 * j) I S s) ?_ ?_
    · simp only [go_sem, Try.results4]
      refine ac' (hed_add hH (by omega) c (by omega) (by omega) hcv _ _ fun I' s' k1 k2 => ?_)
      have z0 : ((0 : Int) != 0) = false := rfl
      simp only [go_sem, z0, Try.results4]
      rw [← k2.st]
      exact Wk.mask [0, 1, 2, 7, 8, 9, 42, 43, 44] ⟨I', _, rfl, by rw [htk]; exact k1⟩
    clear hH I S
    rintro fr s ⟨I, S, rfl, hH⟩
    simp only [go_sem, Try.results4]
    refine aw_cut (fun fr s => ∃ J T, fr = [dn m, .d (csD C), .d (isD asm), .any, .any, .any, .any, .ref (I .st) 0, db rf, .any, .any, .ref (J .st) 0, .any, .any, .any, .any, .any, .any, .any, .any, .any, .any, .any, .any, .any, .any, .any, .any, .any, .any, .any, .any, .any, .any, .any, .any, .any, .any, .any, .any, .any, .any, .d (csD C), dn C.length, dn j, .any, .any, .any, .any, .any, .any, .any, .any, .any, .any, .any, .any, .any, .any, .any, .any, .any, .any, .any, .any, .any, .any, .any, .any, .any, .any, .any, .any, .any, .any, .any, .any, .any, .any, .any, .any, .any, .any, .any, .any, .any, .any, .any, .any, .any, .any, .any, .any, .any, .any, .any, .any, .any, .any, .any, .any, .any, .any, .any, .any, .any, .any, .any, .any, .any, .any, .any, .any, .any, .any, .any, .any, .any, .any, .any, .any, .any, .any, .any, .any, .any, .any, .any, .any, .any, .any, .any, .any, .any, .any, .any, .any, .any, .any, .any, .any, .any, .any, .any, .any, .any, .any, .any, .any, .any, .any, .any, .any, .any, .any] ∧ Duo st' m (5 * j + 1) (C.take (j + 1)) (1000000 * j) (1000000 * j) I S 100 (C.take (j + 1)) 0 0 J T s) ?_ ?_
    · unfold csD
      have g1 : ((C.map isD).take (Int.toNat ((j + 1 : Nat) : Int))).drop (Int.toNat 0) = (C.take (j + 1)).map isD := by rw [Int.toNat_natCast]; simp [List.map_take]
      simp only [go_sem, List.length_map, w2, g1, Try.results4]
      rw [← List.map_take]
      refine ⟨⟨by omega, by omega, by omega⟩, ac' (with_ac m (by omega) (C.take (j + 1)) (by rw [List.length_take]; omega) (fun c hc => ?_) _ _ _ fun J s' k1 k2 => ?_)⟩
      · have := hCv c (List.mem_of_mem_take hc)
        exact ⟨this.1, by omega⟩
      · obtain ⟨a1, a2, a3⟩ := addAll_cls m (by omega) (C.take (j + 1)) (by rw [List.length_take]; omega) (fun c hc => by
          have := hCv c (List.mem_of_mem_take hc)
          exact ⟨this.1, by omega⟩)
        simp only [go_sem, Try.results4]
        exact Wk.mask [0, 1, 2, 7, 8, 11, 42, 43, 44] ⟨J, _, rfl, duo_new hH k1 k2 ⟨a1.rest.mono (by rw [List.length_take]; omega), a1.vars, a1.cls⟩ (by rw [a2]; exact Nat.le_refl _) (by rw [a3]; exact Nat.le_refl _)⟩
    clear hH
    rintro fr s ⟨J, T, rfl, hD⟩
    simp only [go_sem, Try.results4]
    refine aw_cut (fun fr s => ∃ I S x, fr = [dn m, .d (csD C), .d (isD asm), .any, .any, .any, .any, .ref (I .st) 0, db rf, .any, .any, .ref (J .st) 0, di x, .any, .any, .any, .any, .any, .any, .any, .any, .any, .any, .any, .any, .any, .any, .any, .any, .any, .any, .any, .any, .any, .any, .any, .any, .any, .any, .any, .any, .any, .d (csD C), dn C.length, dn j, .any, .any, .any, .any, .any, .any, .any, .any, .any, .any, .any, .any, .any, .any, .any, .any, .any, .any, .any, .any, .any, .any, .any, .any, .any, .any, .any, .any, .any, .any, .any, .any, .any, .any, .any, .any, .any, .any, .any, .any, .any, .any, .any, .any, .any, .any, .any, .any, .any, .any, .any, .any, .any, .any, .any, .any, .any, .any, .any, .any, .any, .any, .any, .any, .any, .any, .any, .any, .any, .any, .any, .any, .any, .any, .any, .any, .any, .any, .any, .any, .any, .any, .any, .any, .any, .any, .any, .any, .any, .any, .any, .any, .any, .any, .any, .any, .any, .any, .any, .any, .any, .any, .any, .any, .any, .any, .any, .any, .any, .any] ∧ Duo st' m (5 * j + 2) (C.take (j + 1)) (1000000 * j + 200000) (1000000 * j + 4096) I S 100 (C.take (j + 1)) 0 0 J T s ∧ Vx (C.take (j + 1)) asm x S.steps.length ∧ (S.refuted = true → S.core.length ≤ 13) ∧ (coreM S).length ≤ 13 ∧ (x = 2 → (∀ l ∈ coreM S, l ∈ asm) ∧ ¬ SatA (C.take (j + 1)) (coreM S))) ?_ ?_
    · simp only [go_sem, Try.results4]
      refine ac' (hed_solve hD.a (by omega) (by omega) (by omega) asm (by omega) hav 200000 (by decide) _ _ fun _ r _ k1 I' s' k2 k3 => ?_)
      have hvx := k1.vx (by rw [hD.a.cls.vars]; omega)
      rw [hD.a.cls.cls] at hvx
      have hD2 := hD.fst k3 k2
      have hco : ((r.1.finish 200000).refuted = true → (r.1.finish 200000).core.length ≤ 13) ∧ (coreM (r.1.finish 200000)).length ≤ 13 ∧ (r.2 = 2 → (∀ l ∈ coreM (r.1.finish 200000), l ∈ asm) ∧ ¬ SatA (C.take (j + 1)) (coreM (r.1.finish 200000))) := by
        rcases k1.v3 with e | e | e
        · have := (k1.und e).1
          unfold coreM
          rw [this]
          exact ⟨fun e => (by cases e), by simp, fun e' => (by rw [e] at e'; cases e')⟩
        · have := (k1.yes e).1
          unfold coreM
          rw [this]
          exact ⟨fun e => (by cases e), by simp, fun e' => (by rw [e] at e'; cases e')⟩
        · obtain ⟨y1, y2, y3, y4, y5, y6, y7⟩ := k1.no e
          rw [hD.a.cls.cls] at y6
          unfold coreM
          rw [y1, if_pos rfl]
          exact ⟨fun _ => y4, y4, fun _ => ⟨y3, y6⟩⟩
      rw [← k3.st]
      simp only [go_sem, Try.results4]
      exact Wk.mask [0, 1, 2, 7, 8, 11, 12, 42, 43, 44] ⟨I', _, r.2, rfl, ⟨⟨hD2.a.hs, hD2.a.old, hD2.a.cls, hD2.a.used, by have := hD2.a.steps; omega⟩, hD2.b, hD2.d⟩, hvx, hco⟩
    clear hD I S
    rintro fr s ⟨I, S, x, rfl, hD, hx, hc1, hc2, hc3⟩
    simp only [go_sem, Try.results4]
    obtain ⟨K, hK⟩ : ∃ K, K = coreM S := ⟨_, rfl⟩
    rw [← hK] at hc2 hc3
    refine aw_cut (fun fr s' => fr = [dn m, .d (csD C), .d (isD asm), .any, .any, .any, .any, .ref (I .st) 0, db rf, .any, .any, .ref (J .st) 0, di x, .any, .d (isD K), .any, .any, .any, .any, .any, .any, .any, .any, .any, .any, .any, .any, .any, .any, .any, .any, .any, .any, .any, .any, .any, .any, .any, .any, .any, .any, .any, .d (csD C), dn C.length, dn j, .any, .any, .any, .any, .any, .any, .any, .any, .any, .any, .any, .any, .any, .any, .any, .any, .any, .any, .any, .any, .any, .any, .any, .any, .any, .any, .any, .any, .any, .any, .any, .any, .any, .any, .any, .any, .any, .any, .any, .any, .any, .any, .any, .any, .any, .any, .any, .any, .any, .any, .any, .any, .any, .any, .any, .any, .any, .any, .any, .any, .any, .any, .any, .any, .any, .any, .any, .any, .any, .any, .any, .any, .any, .any, .any, .any, .any, .any, .any, .any, .any, .any, .any, .any, .any, .any, .any, .any, .any, .any, .any, .any, .any, .any, .any, .any, .any, .any, .any, .any, .any, .any, .any, .any, .any, .any, .any, .any, .any, .any] ∧ s' = s) ?_ ?_
    · simp only [go_sem, Try.results4]
      refine ac' (core_ac hD.a.hs.sol (fun e => by have := hc1 e; omega) _ _ ?_)
      rw [← hK]
      simp only [go_sem, Try.results4]
      exact Wk.mask [0, 1, 2, 7, 8, 11, 12, 14, 42, 43, 44] ⟨rfl, rfl⟩
    clear hK hc1
    rintro fr s' ⟨rfl, rfl⟩
    simp only [go_sem, Try.results4]
    refine aw_cut (fun fr s => ∃ J T y, fr = [dn m, .d (csD C), .d (isD asm), .any, .any, .any, .any, .ref (I .st) 0, db rf, .any, .any, .ref (J .st) 0, di x, .any, .d (isD K), di y, .any, .any, .any, .any, .any, .any, .any, .any, .any, .any, .any, .any, .any, .any, .any, .any, .any, .any, .any, .any, .any, .any, .any, .any, .any, .any, .d (csD C), dn C.length, dn j, .any, .any, .any, .any, .any, .any, .any, .any, .any, .any, .any, .any, .any, .any, .any, .any, .any, .any, .any, .any, .any, .any, .any, .any, .any, .any, .any, .any, .any, .any, .any, .any, .any, .any, .any, .any, .any, .any, .any, .any, .any, .any, .any, .any, .any, .any, .any, .any, .any, .any, .any, .any, .any, .any, .any, .any, .any, .any, .any, .any, .any, .any, .any, .any, .any, .any, .any, .any, .any, .any, .any, .any, .any, .any, .any, .any, .any, .any, .any, .any, .any, .any, .any, .any, .any, .any, .any, .any, .any, .any, .any, .any, .any, .any, .any, .any, .any, .any, .any, .any, .any, .any, .any, .any, .any, .any, .any, .any, .any, .any] ∧ Duo st' m (5 * j + 2) (C.take (j + 1)) (1000000 * j + 200000) (1000000 * j + 4096) I S 101 (C.take (j + 1)) 200000 4096 J T s ∧ Vx (C.take (j + 1)) asm y T.steps.length ∧ y ≠ 0) ?_ ?_
    · simp only [go_sem, Try.results4]
      refine ac' (hed_solve hD.b (by omega) (by omega) (by omega) asm (by omega) hav 200000 (by decide) _ _ fun _ r _ k1 I' s' k2 k3 => ?_)
      have hvx := k1.vx (by rw [hD.b.cls.vars]; omega)
      rw [hD.b.cls.cls] at hvx
      have hD2 := (hD.symm.fst k3 k2).symm
      have hst := hD2.b.steps
      have hy : r.2 ≠ 0 := fun e => by
        have := hvx.z e
        simp only [pmax] at this
        omega
      rw [← k3.st]
      simp only [go_sem, Try.results4]
      exact Wk.mask [0, 1, 2, 7, 8, 11, 12, 14, 15, 42, 43, 44] ⟨I', _, r.2, rfl, ⟨hD2.a, ⟨hD2.b.hs, hD2.b.old, hD2.b.cls, by have := hD2.b.used; omega, by omega⟩, hD2.d⟩, hvx, hy⟩
    clear hD J T
    rintro fr s ⟨J, T, y, rfl, hD, hy, hy0⟩
    simp only [go_sem, Try.results4]
    refine aw_cut (fun fr s => ∃ I S z, fr = [dn m, .d (csD C), .d (isD asm), .any, .any, .any, .any, .ref (I .st) 0, db rf, .any, .any, .ref (J .st) 0, di x, .any, .d (isD K), di y, .any, di z, .any, .any, .any, .any, .any, .any, .any, .any, .any, .any, .any, .any, .any, .any, .any, .any, .any, .any, .any, .any, .any, .any, .any, .any, .d (csD C), dn C.length, dn j, .any, .any, .any, .any, .any, .any, .any, .any, .any, .any, .any, .any, .any, .any, .any, .any, .any, .any, .any, .any, .any, .any, .any, .any, .any, .any, .any, .any, .any, .any, .any, .any, .any, .any, .any, .any, .any, .any, .any, .any, .any, .any, .any, .any, .any, .any, .any, .any, .any, .any, .any, .any, .any, .any, .any, .any, .any, .any, .any, .any, .any, .any, .any, .any, .any, .any, .any, .any, .any, .any, .any, .any, .any, .any, .any, .any, .any, .any, .any, .any, .any, .any, .any, .any, .any, .any, .any, .any, .any, .any, .any, .any, .any, .any, .any, .any, .any, .any, .any, .any, .any, .any, .any, .any, .any, .any, .any, .any, .any, .any] ∧ Duo st' m (5 * j + 3) (C.take (j + 1)) (1000000 * j + 400000) (1000000 * j + 8192) I S 101 (C.take (j + 1)) 200000 4096 J T s ∧ Vx (C.take (j + 1)) asm x S.steps.length ∧ Vx (C.take (j + 1)) [] z S.steps.length) ?_ ?_
    · simp only [go_sem, Try.results4]
      refine ac' (ac_weak (Weak.nils nilA_asm) ?_)
      refine hed_solve hD.a (by omega) (by omega) (by omega) [] (by simp) (fun l hl => by cases hl) 200000 (by decide) _ _ fun _ r _ k1 I' s' k2 k3 => ?_
      have hvx := k1.vx (by rw [hD.a.cls.vars]; omega)
      rw [hD.a.cls.cls] at hvx
      have hD2 := hD.fst k3 k2
      have hgr : S.steps.length ≤ (r.1.finish 200000).steps.length := by
        obtain ⟨t, ht⟩ := k1.gw.steps
        rw [ht, List.length_append]; omega
      rw [← k3.st]
      simp only [go_sem, Try.results4]
      exact Wk.mask [0, 1, 2, 7, 8, 11, 12, 14, 15, 17, 42, 43, 44] ⟨I', _, r.2, rfl, ⟨⟨hD2.a.hs, hD2.a.old, hD2.a.cls, by have := hD2.a.used; omega, by have := hD2.a.steps; omega⟩, hD2.b, hD2.d⟩, hx.mono hgr, hvx⟩
    clear hD hx I S
    rintro fr s ⟨I, S, z, rfl, hD, hx, hz⟩
    have hSz := hD.a.cls.rest.szs
    have hTz := hD.b.cls.rest.szs
    simp only [go_sem, Try.results4]
    refine aw_cut (fun fr s' => x ≠ 0 ∧ z ≠ 0 ∧ fr = [dn m, .d (csD C), .d (isD asm), .any, .any, .any, .any, .ref (I .st) 0, db rf, .any, .any, .ref (J .st) 0, di x, .any, .d (isD K), di y, .any, di z, .any, .any, .any, .any, .any, .any, .any, .any, .any, .any, .any, .any, .any, .any, .any, .any, .any, .any, .any, .any, .any, .any, .any, .any, .d (csD C), dn C.length, dn j, .any, .any, .any, .any, .any, .any, .any, .any, .any, .any, .any, .any, .any, .any, .any, .any, .any, .any, .any, .any, .any, .any, .any, .any, .any, .any, .any, .any, .any, .any, .any, .any, .any, .any, .any, .any, .any, .any, .any, .any, .any, .any, .any, .any, .any, .any, .any, .any, .any, .any, .any, .any, .any, .any, .any, .any, .any, .any, .any, .any, .any, .any, .any, .any, .any, .any, .any, .any, .any, .any, .any, .any, .any, .any, .any, .any, .any, .any, .any, .any, .any, .any, .any, .any, .any, .any, .any, .any, .any, .any, .any, .any, .any, .any, .any, .any, .any, .any, .any, .any, .any, .any, .any, .any, .any, .any, .any, .any, .any, .any] ∧ s' = s) ?_ ?_
    · simp only [go_sem, Try.results4]
      refine ex' (.bool (decide (10000 ≤ S.steps.length))) ⟨fun q => ?_, ?_⟩
      · simp only [go_sem]
        exact ⟨q, ac' (full_ac hD.a.hs.sol hSz _ _ (And.intro rfl rfl))⟩
      simp only [go_sem, Try.results4]
      refine ex' (.bool (decide (10000 ≤ T.steps.length))) ⟨fun q => ?_, ?_⟩
      · simp only [go_sem]
        exact ⟨q, ac' (full_ac hD.b.hs.sol hTz _ _ (And.intro rfl rfl))⟩
      simp only [go_sem, Try.results4]
      refine ⟨fun e => ⟨e, fun e1 => by rw [e, e1]; rfl⟩, fun e => hout _, fun e => ?_⟩
      have hf0 : 10000 ≤ S.steps.length → (x == 0 || y == 0 || z == 0) = false := fun hl => by
        rw [decide_eq_true hl, Bool.true_or, Bool.and_true] at e
        exact e
      have hx0 : x ≠ 0 := fun e0 => by
        have h1 := hf0 (by have := hx.z e0; simp only [pmax] at this; omega)
        rw [e0] at h1
        simp at h1
      have hz0 : z ≠ 0 := fun e0 => by
        have h1 := hf0 (by have := hz.z e0; simp only [pmax] at this; omega)
        rw [e0] at h1
        simp at h1
      exact Wk.mask [0, 1, 2, 7, 8, 11, 12, 14, 15, 17, 42, 43, 44] ⟨hx0, hz0, rfl, rfl⟩
    rintro fr s' ⟨hx0, hz0, rfl, rfl⟩
    have hxy : x = y := hx.eq hy hx0 hy0
    have hrz : rf = true → z = 2 := fun e => hz.no hz0 fun hs => hrf e (by rw [htk] at hs; exact hs.less)
    have hzx : z = 2 → x = 2 := fun e => hx.no hx0 fun hs => hz.n e (hs.mono fun l hl => by cases hl)
    have hz12 : z = 1 ∨ z = 2 := hz.v3.resolve_left hz0
    have hx12 : x = 1 ∨ x = 2 := hx.v3.resolve_left hx0
    simp only [go_sem, Try.results4]
    refine aw_cut (fun fr s => fr = [dn m, .d (csD C), .d (isD asm), .any, .any, .any, .any, .ref (I .st) 0, db rf, .any, .any, .ref (J .st) 0, di x, .any, .d (isD K), di y, .any, di z, .any, .any, .any, .any, .any, .any, .any, .any, .any, .any, .any, .any, .any, .any, .any, .any, .any, .any, .any, .any, .any, .any, .any, .any, .d (csD C), dn C.length, dn j, .any, .any, .any, .any, .any, .any, .any, .any, .any, .any, .any, .any, .any, .any, .any, .any, .any, .any, .any, .any, .any, .any, .any, .any, .any, .any, .any, .any, .any, .any, .any, .any, .any, .any, .any, .any, .any, .any, .any, .any, .any, .any, .any, .any, .any, .any, .any, .any, .any, .any, .any, .any, .any, .any, .any, .any, .any, .any, .any, .any, .any, .any, .any, .any, .any, .any, .any, .any, .any, .any, .any, .any, .any, .any, .any, .any, .any, .any, .any, .any, .any, .any, .any, .any, .any, .any, .any, .any, .any, .any, .any, .any, .any, .any, .any, .any, .any, .any, .any, .any, .any, .any, .any, .any, .any, .any, .any, .any, .any, .any] ∧ s = s') ?_ ?_
    · simp only [go_sem, Try.results4]
      refine ⟨fun e => ⟨e, fun e1 => by rw [e, e1]; rfl⟩, fun e => ⟨e, fun e1 => by rw [e, e1]; rfl⟩, fun e => ?_, fun _ => Wk.mask [0, 1, 2, 7, 8, 11, 12, 14, 15, 17, 42, 43, 44] ⟨rfl, rfl⟩⟩
      exfalso
      have f1 : (x != y) = false := by rw [hxy]; simp
      have f2 : (x == 0) = false := by simpa using hx0
      have f3 : (rf && z != 2) = false := by
        cases rf with
        | false => rfl
        | true => rw [hrz rfl]; rfl
      have f4 : (z == 2 && x != 2) = false := by
        rcases hz12 with e | e
        · rw [e]; rfl
        · rw [e, hzx e]; rfl
      rw [f1, f2, f3, f4] at e
      cases e
    rintro fr s ⟨rfl, rfl⟩
    have hrf' : (z == 2) = true → ¬ SatA (C.take (j + 1)) [] := fun e => hz.n (by simpa using e)
    simp only [go_sem, Try.results4]
    refine aw_cut (fun fr s' => fr = [dn m, .d (csD C), .d (isD asm), .any, .any, .any, .any, .ref (I .st) 0, db (z == 2), .any, .any, .ref (J .st) 0, di x, .any, .d (isD K), .any, .any, .any, .any, .any, .any, .any, .any, .any, .any, .any, .any, .any, .any, .any, .any, .any, .any, .any, .any, .any, .any, .any, .any, .any, .any, .any, .d (csD C), dn C.length, dn j, .any, .any, .any, .any, .any, .any, .any, .any, .any, .any, .any, .any, .any, .any, .any, .any, .any, .any, .any, .any, .any, .any, .any, .any, .any, .any, .any, .any, .any, .any, .any, .any, .any, .any, .any, .any, .any, .any, .any, .any, .any, .any, .any, .any, .any, .any, .any, .any, .any, .any, .any, .any, .any, .any, .any, .any, .any, .any, .any, .any, .any, .any, .any, .any, .any, .any, .any, .any, .any, .any, .any, .any, .any, .any, .any, .any, .any, .any, .any, .any, .any, .any, .any, .any, .any, .any, .any, .any, .any, .any, .any, .any, .any, .any, .any, .any, .any, .any, .any, .any, .any, .any, .any, .any, .any, .any, .any, .any, .any, .any] ∧ s' = s) ?_ ?_
    · simp only [go_sem, Try.results4]
      exact Wk.mask [0, 1, 2, 7, 8, 11, 12, 14, 42, 43, 44] ⟨rfl, rfl⟩
    rintro fr s' ⟨rfl, rfl⟩
    simp only [go_sem, Try.results4]
    refine aw_cut (fun fr s => x = 2 ∧ fr = [dn m, .d (csD C), .d (isD asm), .any, .any, .any, .any, .ref (I .st) 0, db (z == 2), .any, .any, .ref (J .st) 0, .any, .any, .d (isD K), .any, .any, .any, .any, .any, .any, .any, .any, .any, .any, .any, .any, .any, .any, .any, .any, .any, .any, .any, .any, .any, .any, .any, .any, .any, .any, .any, .d (csD C), dn C.length, dn j, .any, .any, .any, .any, .any, .any, .any, .any, .any, .any, .any, .any, .any, .any, .any, .any, .any, .any, .any, .any, .any, .any, .any, .any, .any, .any, .any, .any, .any, .any, .any, .any, .any, .any, .any, .any, .any, .any, .any, .any, .any, .any, .any, .any, .any, .any, .any, .any, .any, .any, .any, .any, .any, .any, .any, .any, .any, .any, .any, .any, .any, .any, .any, .any, .any, .any, .any, .any, .any, .any, .any, .any, .any, .any, .any, .any, .any, .any, .any, .any, .any, .any, .any, .any, .any, .any, .any, .any, .any, .any, .any, .any, .any, .any, .any, .any, .any, .any, .any, .any, .any, .any, .any, .any, .any, .any, .any, .any, .any, .any] ∧ s = s') ?_ ?_
    · have w2 := wrapS j (by omega)
      simp only [go_sem, w2, Try.results4]
      refine ⟨fun _ => Wk.mask [0, 1, 2, 7, 8, 42, 43, 44] ⟨C.length - (j + 1), by omega, j + 1, I, S, z == 2, by omega, rfl, rfl, hD.a.mono (by omega) (by omega) (by omega), hrf'⟩, fun e => Wk.mask [0, 1, 2, 7, 8, 11, 14, 42, 43, 44] ⟨by simpa using e, rfl, rfl⟩⟩
    rintro fr s ⟨rfl, rfl, rfl⟩
    obtain ⟨hK1, hK2⟩ := hc3 rfl
    simp only [go_sem, Try.results4]
    refine aw_cut (fun fr s => ∃ J T, fr = [dn m, .d (csD C), .d (isD asm), .any, .any, .any, .any, .ref (I .st) 0, db (z == 2), .any, .any, .ref (J .st) 0, .any, .any, .d (isD K), .any, .any, .any, .any, di 2, .any, .any, .any, .any, .any, .any, .any, .any, .any, .any, .any, .any, .any, .any, .any, .any, .any, .any, .any, .any, .any, .any, .d (csD C), dn C.length, dn j, .any, .any, .any, .any, .any, .any, .any, .any, .any, .any, .any, .any, .any, .any, .any, .any, .any, .any, .any, .any, .any, .any, .any, .any, .any, .any, .any, .any, .any, .any, .any, .any, .any, .any, .any, .any, .any, .any, .any, .any, .any, .any, .any, .any, .any, .any, .any, .any, .any, .any, .any, .any, .any, .any, .any, .any, .any, .any, .any, .any, .any, .any, .any, .any, .any, .any, .any, .any, .any, .any, .any, .any, .any, .any, .any, .any, .any, .any, .any, .any, .any, .any, .any, .any, .any, .any, .any, .any, .any, .any, .any, .any, .any, .any, .any, .any, .any, .any, .any, .any, .any, .any, .any, .any, .any, .any, .any, .any, .any, .any] ∧ Duo st' m (5 * j + 3) (C.take (j + 1)) (1000000 * j + 400000) (1000000 * j + 8192) I S 102 (C.take (j + 1)) 400000 8192 J T s) ?_ ?_
    · simp only [go_sem, Try.results4]
      refine ac' (hed_solve hD.b (by omega) (by omega) (by omega) K (by omega) (fun l hl => hav l (hK1 l hl)) 200000 (by decide) _ _ fun _ r _ k1 I' s' k2 k3 => ?_)
      have hvx := k1.vx (by rw [hD.b.cls.vars]; omega)
      rw [hD.b.cls.cls] at hvx
      have hD2 := (hD.symm.fst k3 k2).symm
      have hst := hD2.b.steps
      have hy : r.2 ≠ 0 := fun e => by
        have := hvx.z e
        simp only [pmax] at this
        omega
      rw [← k3.st, hvx.no hy hK2]
      simp only [go_sem, Try.results4]
      exact Wk.mask [0, 1, 2, 7, 8, 11, 14, 19, 42, 43, 44] ⟨I', _, rfl, hD2.a, ⟨hD2.b.hs, hD2.b.old, hD2.b.cls, by have := hD2.b.used; omega, by omega⟩, hD2.d⟩
    clear hD hy hTz J T
    rintro fr s ⟨J, T, rfl, hD⟩
    simp only [go_sem, Try.results4]
    refine aw_cut (fun fr s => ∃ I S w, fr = [dn m, .d (csD C), .d (isD asm), .any, .any, .any, .any, .ref (I .st) 0, db (z == 2), .any, .any, .ref (J .st) 0, .any, .any, .any, .any, .any, .any, .any, di 2, .any, di w, .any, .any, .any, .any, .any, .any, .any, .any, .any, .any, .any, .any, .any, .any, .any, .any, .any, .any, .any, .any, .d (csD C), dn C.length, dn j, .any, .any, .any, .any, .any, .any, .any, .any, .any, .any, .any, .any, .any, .any, .any, .any, .any, .any, .any, .any, .any, .any, .any, .any, .any, .any, .any, .any, .any, .any, .any, .any, .any, .any, .any, .any, .any, .any, .any, .any, .any, .any, .any, .any, .any, .any, .any, .any, .any, .any, .any, .any, .any, .any, .any, .any, .any, .any, .any, .any, .any, .any, .any, .any, .any, .any, .any, .any, .any, .any, .any, .any, .any, .any, .any, .any, .any, .any, .any, .any, .any, .any, .any, .any, .any, .any, .any, .any, .any, .any, .any, .any, .any, .any, .any, .any, .any, .any, .any, .any, .any, .any, .any, .any, .any, .any, .any, .any, .any, .any] ∧ Duo st' m (5 * j + 4) (C.take (j + 1)) (1000000 * j + 600000) (1000000 * j + 12288) I S 102 (C.take (j + 1)) 400000 8192 J T s ∧ Vx (C.take (j + 1)) (asm ++ K) w S.steps.length) ?_ ?_
    · unfold isD
      simp only [go_sem, Try.results4]
      have e1 : flat (asm.map iD) ++ flat (K.map iD) = intsA (asm ++ K) := by rw [flat_ints, flat_ints, intsA, intsA, intsA, List.map_append]
      have e2 : (asm.map iD).length + (K.map iD).length = ((asm ++ K).map iD).length := by simp
      have e3 : ((asm ++ K).map iD).length = asm.length + K.length := by simp
      rw [e1, e2, e3, flat_ints, intsA_len, List.length_map]
      refine ⟨⟨by simp only [maxLen]; omega, by omega⟩, ⟨by omega, by simp only [maxLen]; omega, by omega⟩, ac' (ac_frz (σ := s) (l := [none, none, some (Ob.cells (intsA (asm ++ K)))]) 2 1 0 ((asm ++ K).map iD) rfl (lies_ints _) ?_)⟩
      simp only [frzL, A.frz, e3, and_self, if_true, List.set_cons_succ, List.set_cons_zero]
      have hD3 := hD.app [none, none, none]
      refine hed_solve hD3.a (by omega) (by omega) (by omega) (asm ++ K) (by rw [List.length_append]; omega) (fun l hl => by
        rcases List.mem_append.1 hl with hl | hl
        · exact hav l hl
        · exact hav l (hK1 l hl)) 200000 (by decide) _ _ fun _ r _ k1 I' s' k2 k3 => ?_
      have hvx := k1.vx (by rw [hD.a.cls.vars]; omega)
      rw [hD.a.cls.cls] at hvx
      have hD2 := hD3.fst k3 k2
      rw [← k3.st]
      simp only [go_sem, Try.results4]
      exact Wk.mask [0, 1, 2, 7, 8, 11, 19, 21, 42, 43, 44] ⟨I', _, r.2, rfl, ⟨⟨hD2.a.hs, hD2.a.old, hD2.a.cls, by have := hD2.a.used; omega, by have := hD2.a.steps; omega⟩, hD2.b, hD2.d⟩, hvx⟩
    clear hD hx hz hSz I S
    rintro fr s ⟨I, S, w, rfl, hD, hw⟩
    have hSz := hD.a.cls.rest.szs
    have hTz := hD.b.cls.rest.szs
    have hKn : ¬ SatA (C.take (j + 1)) (asm ++ K) := fun e => hK2 (e.mono fun l hl => List.mem_append_right _ hl)
    have z2 : ((2 : Int) != 2) = false := rfl
    have w2 := wrapS j (by omega)
    simp only [go_sem, z2, w2, Try.results4]
    refine ex' (.bool (decide (10000 ≤ S.steps.length))) ⟨fun q => ?_, ?_⟩
    · simp only [go_sem]
      exact ⟨q, ac' (full_ac hD.a.hs.sol hSz _ _ (And.intro rfl rfl))⟩
    simp only [go_sem, z2, w2, Try.results4]
    refine ex' (.bool (decide (10000 ≤ T.steps.length))) ⟨fun q => ?_, ?_⟩
    · simp only [go_sem]
      exact ⟨q, ac' (full_ac hD.b.hs.sol hTz _ _ (And.intro rfl rfl))⟩
    simp only [go_sem, z2, w2, Try.results4]
    refine ⟨fun e => ?_, fun _ => Wk.mask [0, 1, 2, 7, 8, 42, 43, 44] ⟨C.length - (j + 1), by omega, j + 1, I, S, z == 2, by omega, rfl, rfl, hD.a.mono (by omega) (by omega) (by omega), hrf'⟩⟩
    exfalso
    rcases hw.v3 with e0 | e0 | e0
    · have := hw.z e0
      rw [decide_eq_true (show 10000 ≤ S.steps.length by simp only [pmax] at this; omega)] at e
      simp at e
    · exact hKn (hw.y e0)
    · rw [e0] at e
      simp at e
  · have hd : decide ((j : Int) < (C.length : Int)) = false := by simp; omega
    unfold csD
    simp only [go_sem, List.length_map, hd, Try.results4]
    exact hout _
end Go.Proofs.Ytnanofipjiclfaa
end PartX4
