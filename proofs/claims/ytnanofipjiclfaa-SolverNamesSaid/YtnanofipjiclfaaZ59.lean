import Derived.Test.YtnanofipjiclfaaZ58
import Derived.Test.YtnanofipjiclfaaZ51

section PartX3
/- head. -/
set_option linter.unusedSimpArgs false
set_option linter.unusedVariables false
set_option maxRecDepth 100000
namespace Go.Proofs.Ytnanofipjiclfaa
open Go Go.Ab
variable {I : Sl → Nat} {S : Sv} {σ : St}

theorem nilA_asm {r : A} {F : Int} : NilAL [r, .d .nils, di F] [r, .d (isD []), di F] := NilAL.cons (.refl _) (NilAL.cons (.d (.nil 1)) (NilAL.cons (.refl _) .nil))
/-- A solver beside what was there; u, s bound the fuel used and the steps. -/
structure Hed (σ : St) (n M : Nat) (C : List (List Int)) (u s : Nat) (I : Sl → Nat) (S : Sv) (st : St) : Prop where
  hs : Hs σ.length I S st
  old : Old σ st
  cls : Cls M n C S
  used : S.used ≤ u
  steps : S.steps.length ≤ s
theorem Hed.step {n M M' : Nat} {C C' : List (List Int)} {u s u' s' : Nat} {X : Sl → Prop} {I' : Sl → Nat} {S' : Sv} {st st' : St} (h : Hed σ n M C u s I S st) (k : Stp X I S st I' st') (hs : Sol I' S' st') (hc : Cls M' n C' S') (hu : S'.used ≤ u') (hst : S'.steps.length ≤ s') : Hed σ n M' C' u' s' I' S' st' :=
  ⟨h.hs.step h.old.len k hs (h.cls.has hc), k.cut h.hs.low h.old, hc, hu, hst⟩
theorem hed_solveG {n M : Nat} {C : List (List Int)} {u s : Nat} {st : St} (hH : Hed σ n M C u s I S st) (hM : M ≤ 900000) (hu : u ≤ 100000000000) (hn : n ≤ 12) (asm : List Int) (hal : asm.length ≤ 1000000) (hv : ∀ l ∈ asm, LitV n l) (F : Nat) (hF : F ≤ 1000000) (G : Glob) (R : A → St → Prop)
    (h : ∀ m r, m = pot n (S.head asm F) false + 1 + 8000000 → Sv.srch (S.start asm F).2 m (S.head asm F) 0 0 = some r → Slv n M asm F S (r.1.finish F) r.2 → ∀ I' st', Hed σ n (M + 1) C (u + F) (s + 2 ^ n) I' (r.1.finish F) st' → Stp Any I S st I' st' → R (.tup [di r.2, di 0]) st') : AC Try.prog G 13 [.ref (I .st) 0, .d (isD asm), dn F] st R := by
  have hvs := hH.cls.vars
  refine solve_rest hH.hs.sol hH.cls hM (by have := hH.used; omega) hn (by have := inp_all S; rw [hvs] at this; exact this) asm hal (fun l _ hl => by unfold LitV at hl; unfold vr; omega) F G R (fun e => by omega) (fun e => ?_) fun F' hF' _ hval m r hm hr k1 k2 I' st' k3 k4 => ?_
  · rw [(valid_all hvs).2 hv] at e; cases e
  · obtain rfl : F = F' := by omega
    exact h m r hm hr k1 I' st' (hH.step k4 k3 k2 (by have := k1.used2; have := hH.used; omega) (by have := k1.steps; have := hH.steps; omega)) k4
theorem hed_solve {n M : Nat} {C : List (List Int)} {u s : Nat} {st : St} (hH : Hed σ n M C u s I S st) (hM : M ≤ 900000) (hu : u ≤ 100000000000) (hn : n ≤ 12) (asm : List Int) (hal : asm.length ≤ 1000000) (hv : ∀ l ∈ asm, LitV n l) (F : Nat) (hF : F ≤ 1000000) (G : Glob) (R : A → St → Prop)
    (h : ∀ m r, Sv.srch (S.start asm F).2 m (S.head asm F) 0 0 = some r → Slv n M asm F S (r.1.finish F) r.2 → ∀ I' st', Hed σ n (M + 1) C (u + F) (s + 2 ^ n) I' (r.1.finish F) st' → Stp Any I S st I' st' → R (.tup [di r.2, di 0]) st') : AC Try.prog G 13 [.ref (I .st) 0, .d (isD asm), dn F] st R :=
  hed_solveG hH hM hu hn asm hal hv F hF G R fun m r _ => h m r
theorem hed_add {n M : Nat} {C : List (List Int)} {u s : Nat} {st : St} (hH : Hed σ n M C u s I S st) (hM : M ≤ 1000000) (c : List Int) (hc : c.length ≤ 1000000) (hC : C.length < 40000) (hv : ∀ l ∈ c, LitV n l) (G : Glob) (R : A → St → Prop)
    (h : ∀ I' st', Hed σ n (M + 1) (C ++ [c]) u s I' (S.add c) st' → Stp Any I S st I' st' → R (di 0) st') : AC Try.prog G 12 [.ref (I .st) 0, .d (isD c)] st R := by
  have hvs := hH.cls.vars
  refine add_rest hH.hs.sol hH.cls hM c hc hC G R (fun e => ?_) fun _ I' st' k1 k2 => ?_
  · rw [(valid_all hvs).2 hv] at e; cases e
  · obtain ⟨h1, h2, h3⟩ := hH.cls.add hv hc hC
    exact h I' st' (hH.step k2 k1 h1 (by rw [h2]; exact hH.used) (by rw [h3]; exact hH.steps)) k2
/-- More objects behind. -/
theorem Hed.app {n M : Nat} {C : List (List Int)} {u s : Nat} {st : St} (h : Hed σ n M C u s I S st) (l : St) : Hed σ n M C u s I S (st ++ l) := ⟨⟨h.hs.sol.app l, h.hs.low⟩, h.old.trans (old_app st l), h.cls, h.used, h.steps⟩
theorem hd0_ok : ∀ c ∈ hd0, (∀ l ∈ c, LitV 2 l) ∧ c.length ≤ 1000000 := by
  unfold hd0 LitV; decide
set_option maxHeartbeats 4000000 in
theorem head_ac (σ : St) (G : Glob) (R : A → St → Prop) (h : R (db true) σ) : AC Try.prog G 9 [] σ R := by
  refine ac_enterC [2, 3, 4, 6, 7, 8, 10, 11, 12, 13, 14, 15] mixed Try.func9 rfl Try.ntmps9 (by simp only [go_sem]) fun hbd => ?_
  simp only [List.length_cons, List.length_nil, Nat.reduceAdd, Nat.reduceSub, List.replicate_succ, List.replicate_zero, List.cons_append, List.nil_append]
  simp only [go_sem]
  refine aw_cut (fun fr st => ∃ I S, fr = [.any, .ref (I .st) 0, .any, .any, .any, .any, .any, .any, .any, .any, .any, .any, .any, .any, .any, .any, .any, .any, .any, .any, .any, .any, .any, .any, .any, .any, .any, .any, .any, .any, .any, .any, .any, .any, .any, .any, .any, .any, .any, .any, .any, .any, .any, .any, .any, .any, .any, .any, .any, .any, .any, .any, .any, .any, .any, .any, .any, .any, .any, .any, .any, .any, .any, .any, .any, .any, .any, .any, .any, .any, .any, .any, .any, .any, .any, .any, .any, .any, .any, .any, .any, .any, .any, .any, .any, .any, .any, .any, .any, .any, .any, .any, .any, .any, .any, .any, .any, .any, .any, .any, .any, .any, .any, .any, .any, .any, .any, .any, .any, .any, .any, .any, .any, .any, .any, .any, .any, .any, .any, .any, .any, .any, .any, .any, .any, .any, .any, .any, .any, .any, .any, .any, .any, .any, .any, .any, .any, .any, .any, .any, .any, .any, .any, .any, .any, .any, .any, .any, .any, .any, .any, .any, .any, .any] ∧ Hed σ 2 3 hd0 0 0 I S st) ?_ ?_
  · simp only [go_sem]
    refine ac' (ac_weak (Weak.deep [0, 1, 2, 3] 5) ?_)
    simp only [go_sem]
    refine with_ac 2 (by decide) hd0 (by decide) hd0_ok _ _ _ fun I σ' k1 k2 => ?_
    obtain ⟨a1, a2, a3⟩ := addAll_cls 2 (by decide) hd0 (by decide) hd0_ok
    exact Wk.mask [1] ⟨I, _, rfl, k1.weak (by simp), (old_app σ _).trans k2, a1, by rw [a2]; exact Nat.le_refl _, by rw [a3]; exact Nat.le_refl _⟩
  rintro fr st ⟨I, S, rfl, hH⟩
  simp only [go_sem]
  refine aw_cut (fun fr st => ∃ I S, fr = [.any, .ref (I .st) 0, di 1, di 0, .any, .any, .any, .any, .any, .any, .any, .any, .any, .any, .any, .any, .any, .any, .any, .any, .any, .any, .any, .any, .any, .any, .any, .any, .any, .any, .any, .any, .any, .any, .any, .any, .any, .any, .any, .any, .any, .any, .any, .any, .any, .any, .any, .any, .any, .any, .any, .any, .any, .any, .any, .any, .any, .any, .any, .any, .any, .any, .any, .any, .any, .any, .any, .any, .any, .any, .any, .any, .any, .any, .any, .any, .any, .any, .any, .any, .any, .any, .any, .any, .any, .any, .any, .any, .any, .any, .any, .any, .any, .any, .any, .any, .any, .any, .any, .any, .any, .any, .any, .any, .any, .any, .any, .any, .any, .any, .any, .any, .any, .any, .any, .any, .any, .any, .any, .any, .any, .any, .any, .any, .any, .any, .any, .any, .any, .any, .any, .any, .any, .any, .any, .any, .any, .any, .any, .any, .any, .any, .any, .any, .any, .any, .any, .any, .any, .any, .any, .any, .any, .any] ∧ Hed σ 2 4 hd0 200000 4 I S st ∧ S.refuted = false ∧ S.satisfied = true ∧ S.values.length = 2 ∧ SatC (βV S.values) hd0) ?_ ?_
  · simp only [go_sem]
    refine ac' (ac_weak (Weak.nils nilA_asm) ?_)
    refine hed_solve hH (by decide) (by decide) (by decide) [] (by decide) (fun l hl => by cases hl) 200000 (by decide) _ _ fun m r hr k1 I' st' k2 k3 => ?_
    have hv1 : r.2 = 1 := k1.isYes (k1.done (by rw [hH.cls.vars]; decide) (by have := k2.steps; simp only [pmax]; omega)) (by rw [hH.cls.cls]; exact hd0_yes)
    obtain ⟨y1, y2, y3, y4, -⟩ := k1.yes hv1
    rw [hH.cls.vars] at y3
    rw [hH.cls.cls] at y4
    rw [hv1, ← k3.st]
    simp only [go_sem]
    exact Wk.mask [1, 2, 3] ⟨I', _, rfl, k2, y1, y2, y3, y4⟩
  clear hH
  rintro fr st ⟨I, S, rfl, hH, y1, y2, y3, y4⟩
  have hv : valsM S = [true, true] := by
    unfold valsM
    rw [y2, if_pos rfl]
    obtain ⟨h1, h2⟩ := hd0_iff.1 y4
    unfold βV at h1 h2
    match hvs : S.values, y3 with
    | [a, b], _ =>
      rw [hvs] at h1 h2
      have e1 : a = true := h1
      have e2 : b = true := h2
      rw [e1, e2]
  have hcr : coreM S = [] := by unfold coreM; rw [y1]; rfl
  simp only [go_sem]
  refine aw_cut (fun fr st' => fr = [.any, .ref (I .st) 0, di 1, di 0, .d (.sl 1 [.bool true, .bool true]), .any, .any, .any, .any, .any, .any, .any, .any, .any, .any, .any, .any, .any, .any, .any, .any, .any, .any, .any, .any, .any, .any, .any, .any, .any, .any, .any, .any, .any, .any, .any, .any, .any, .any, .any, .any, .any, .any, .any, .any, .any, .any, .any, .any, .any, .any, .any, .any, .any, .any, .any, .any, .any, .any, .any, .any, .any, .any, .any, .any, .any, .any, .any, .any, .any, .any, .any, .any, .any, .any, .any, .any, .any, .any, .any, .any, .any, .any, .any, .any, .any, .any, .any, .any, .any, .any, .any, .any, .any, .any, .any, .any, .any, .any, .any, .any, .any, .any, .any, .any, .any, .any, .any, .any, .any, .any, .any, .any, .any, .any, .any, .any, .any, .any, .any, .any, .any, .any, .any, .any, .any, .any, .any, .any, .any, .any, .any, .any, .any, .any, .any, .any, .any, .any, .any, .any, .any, .any, .any, .any, .any, .any, .any, .any, .any, .any, .any, .any, .any] ∧ st' = st) ?_ ?_
  · simp only [go_sem]
    refine ac' (values_ac hH.hs.sol (fun _ => by omega) _ _ ?_)
    rw [hv]
    simp only [go_sem]
    exact Wk.mask [1, 2, 3, 4] ⟨rfl, rfl⟩
  rintro fr st' ⟨rfl, rfl⟩
  have q1 : ((1 : Int) != 1) = false := rfl
  have q0 : ((0 : Int) != 0) = false := rfl
  have q2 : (((2 : Nat) : Int) != 2) = false := rfl
  have e1 : List.getD [D.bool true, D.bool true] (Int.toNat 0) default = .bool true := rfl
  have e2 : List.getD [D.bool true, D.bool true] (Int.toNat 1) default = .bool true := rfl
  simp only [go_sem]
  refine aw_cut (fun fr st => fr = [.any, .ref (I .st) 0, .any, .any, .any, .any, .any, .any, .any, .any, .any, .any, .any, .any, .any, .any, .any, .any, .any, .any, .any, .any, .any, .any, .any, .any, .any, .any, .any, .any, .any, .any, .any, .any, .any, .any, .any, .any, .any, .any, .any, .any, .any, .any, .any, .any, .any, .any, .any, .any, .any, .any, .any, .any, .any, .any, .any, .any, .any, .any, .any, .any, .any, .any, .any, .any, .any, .any, .any, .any, .any, .any, .any, .any, .any, .any, .any, .any, .any, .any, .any, .any, .any, .any, .any, .any, .any, .any, .any, .any, .any, .any, .any, .any, .any, .any, .any, .any, .any, .any, .any, .any, .any, .any, .any, .any, .any, .any, .any, .any, .any, .any, .any, .any, .any, .any, .any, .any, .any, .any, .any, .any, .any, .any, .any, .any, .any, .any, .any, .any, .any, .any, .any, .any, .any, .any, .any, .any, .any, .any, .any, .any, .any, .any, .any, .any, .any, .any, .any, .any, .any, .any, .any, .any] ∧ st = st') ?_ ?_
  · simp only [go_sem, q1, q0, q2, e1, e2]
    refine ⟨⟨by omega, by omega⟩, ⟨by omega, by omega⟩, ex' (isD []) ⟨fun q => ?_, ?_⟩⟩
    · simp only [go_sem]
      refine ac' (core_ac hH.hs.sol (fun e => by rw [y1] at e; cases e) _ _ ?_)
      rw [hcr]
      exact And.intro rfl rfl
    have q3 : (((0 : Nat) : Int) != 0) = false := rfl
    simp only [isD, List.map_nil, go_sem, q1, q0, q2, q3, e1, e2]
    exact Wk.mask [1] ⟨rfl, rfl⟩
  clear hv hcr y1 y2 y3 y4
  rintro fr st ⟨rfl, rfl⟩
  simp only [go_sem]
  refine aw_cut (fun fr st => ∃ I S, fr = [.any, .ref (I .st) 0, .any, di 0, .any, di 2, .any, .any, .any, .any, .any, .any, .any, .any, .any, .any, .any, .any, .any, .any, .any, .any, .any, .any, .any, .any, .any, .any, .any, .any, .any, .any, .any, .any, .any, .any, .any, .any, .any, .any, .any, .any, .any, .any, .any, .any, .any, .any, .any, .any, .any, .any, .any, .any, .any, .any, .any, .any, .any, .any, .any, .any, .any, .any, .any, .any, .any, .any, .any, .any, .any, .any, .any, .any, .any, .any, .any, .any, .any, .any, .any, .any, .any, .any, .any, .any, .any, .any, .any, .any, .any, .any, .any, .any, .any, .any, .any, .any, .any, .any, .any, .any, .any, .any, .any, .any, .any, .any, .any, .any, .any, .any, .any, .any, .any, .any, .any, .any, .any, .any, .any, .any, .any, .any, .any, .any, .any, .any, .any, .any, .any, .any, .any, .any, .any, .any, .any, .any, .any, .any, .any, .any, .any, .any, .any, .any, .any, .any, .any, .any, .any, .any, .any, .any] ∧ Hed σ 2 5 hd0 400000 8 I S st ∧ S.refuted = true ∧ S.satisfied = false ∧ S.core.length ≤ 13 ∧ S.core.Nodup ∧ S.core ≠ []) ?_ ?_
  · simp only [go_sem]
    refine ac' (ac_weak (Weak.deep [0] 3) ?_)
    simp only [go_sem]
    refine hed_solve (hH.app [none]) (by decide) (by decide) (by decide) [-2, 1, -2] (by decide) (by unfold LitV; decide) 200000 (by decide) _ _ fun m r hr k1 I' st' k2 k3 => ?_
    have hv1 : r.2 = 2 := k1.isNo (k1.done (by rw [hH.cls.vars]; decide) (by have := k2.steps; simp only [pmax]; omega)) (by rw [hH.cls.cls]; exact hd0_no)
    obtain ⟨y1, y2, y3, y4, y5, y6, y7⟩ := k1.no hv1
    rw [hH.cls.cls] at y6
    rw [hv1, ← k3.st]
    simp only [go_sem]
    exact Wk.mask [1, 3, 5] ⟨I', _, rfl, k2, y1, y2, y4, y5, fun e => y6 (by rw [e]; exact hd0_yes)⟩
  clear hH
  rintro fr st ⟨I, S, rfl, hH, y1, y2, y3, y4, y5⟩
  have hcr : coreM S = S.core := by unfold coreM; rw [y1]; rfl
  have hv : valsM S = [] := by unfold valsM; rw [y2]; rfl
  simp only [go_sem]
  refine aw_cut (fun fr st' => fr = [.any, .ref (I .st) 0, .any, di 0, .any, di 2, .d (isD S.core), .any, .any, .any, .any, .any, .any, .any, .any, .any, .any, .any, .any, .any, .any, .any, .any, .any, .any, .any, .any, .any, .any, .any, .any, .any, .any, .any, .any, .any, .any, .any, .any, .any, .any, .any, .any, .any, .any, .any, .any, .any, .any, .any, .any, .any, .any, .any, .any, .any, .any, .any, .any, .any, .any, .any, .any, .any, .any, .any, .any, .any, .any, .any, .any, .any, .any, .any, .any, .any, .any, .any, .any, .any, .any, .any, .any, .any, .any, .any, .any, .any, .any, .any, .any, .any, .any, .any, .any, .any, .any, .any, .any, .any, .any, .any, .any, .any, .any, .any, .any, .any, .any, .any, .any, .any, .any, .any, .any, .any, .any, .any, .any, .any, .any, .any, .any, .any, .any, .any, .any, .any, .any, .any, .any, .any, .any, .any, .any, .any, .any, .any, .any, .any, .any, .any, .any, .any, .any, .any, .any, .any, .any, .any, .any, .any, .any, .any] ∧ st' = st) ?_ ?_
  · simp only [go_sem]
    refine ac' (core_ac hH.hs.sol (fun _ => by omega) _ _ ?_)
    rw [hcr]
    simp only [go_sem]
    exact Wk.mask [1, 3, 5, 6] ⟨rfl, rfl⟩
  rintro fr st' ⟨rfl, rfl⟩
  simp only [go_sem]
  refine aw_cut (fun fr st => fr = [.any, .ref (I .st) 0, .any, .any, .any, .any, .any, .any, .any, .any, .any, .any, .any, .any, .any, .any, .any, .any, .any, .any, .any, .any, .any, .any, .any, .any, .any, .any, .any, .any, .any, .any, .any, .any, .any, .any, .any, .any, .any, .any, .any, .any, .any, .any, .any, .any, .any, .any, .any, .any, .any, .any, .any, .any, .any, .any, .any, .any, .any, .any, .any, .any, .any, .any, .any, .any, .any, .any, .any, .any, .any, .any, .any, .any, .any, .any, .any, .any, .any, .any, .any, .any, .any, .any, .any, .any, .any, .any, .any, .any, .any, .any, .any, .any, .any, .any, .any, .any, .any, .any, .any, .any, .any, .any, .any, .any, .any, .any, .any, .any, .any, .any, .any, .any, .any, .any, .any, .any, .any, .any, .any, .any, .any, .any, .any, .any, .any, .any, .any, .any, .any, .any, .any, .any, .any, .any, .any, .any, .any, .any, .any, .any, .any, .any, .any, .any, .any, .any, .any, .any, .any, .any, .any, .any] ∧ st = st') ?_ ?_
  · have q4 : ((S.core.length : Int) == 0) = false := by
      rw [beq_eq_false_iff_ne]
      intro e
      exact y5 (List.eq_nil_of_length_eq_zero (by omega))
    have q5 : ((2 : Int) != 2) = false := rfl
    unfold isD
    simp only [go_sem, q0, q4, q5, List.length_map]
    refine ex' (.bool true) ⟨fun q => ?_, ?_⟩
    · simp only [go_sem]
      refine ac' (distinct_ac S.core (by omega) _ _ _ ?_)
      rw [decide_eq_true y4]
      exact And.intro rfl rfl
    simp only [go_sem, q0, q4, q5, List.length_map]
    refine ex' (bsD []) ⟨fun q => ?_, ?_⟩
    · simp only [go_sem]
      refine ac' (values_ac hH.hs.sol (fun e => by rw [y2] at e; cases e) _ _ ?_)
      rw [hv]
      exact And.intro rfl rfl
    have q3 : (((0 : Nat) : Int) != 0) = false := rfl
    simp only [bsD, List.map_nil, go_sem, q0, q3, q4, q5, List.length_map]
    exact Wk.mask [1] ⟨rfl, rfl⟩
  clear hv hcr y1 y2 y3 y4 y5
  rintro fr st ⟨rfl, rfl⟩
  simp only [go_sem]
  refine aw_cut (fun fr st => ∃ I S, fr = [.any, .ref (I .st) 0, .any, .any, .any, .any, .any, di 0, .any, .any, .any, .any, .any, .any, .any, .any, .any, .any, .any, .any, .any, .any, .any, .any, .any, .any, .any, .any, .any, .any, .any, .any, .any, .any, .any, .any, .any, .any, .any, .any, .any, .any, .any, .any, .any, .any, .any, .any, .any, .any, .any, .any, .any, .any, .any, .any, .any, .any, .any, .any, .any, .any, .any, .any, .any, .any, .any, .any, .any, .any, .any, .any, .any, .any, .any, .any, .any, .any, .any, .any, .any, .any, .any, .any, .any, .any, .any, .any, .any, .any, .any, .any, .any, .any, .any, .any, .any, .any, .any, .any, .any, .any, .any, .any, .any, .any, .any, .any, .any, .any, .any, .any, .any, .any, .any, .any, .any, .any, .any, .any, .any, .any, .any, .any, .any, .any, .any, .any, .any, .any, .any, .any, .any, .any, .any, .any, .any, .any, .any, .any, .any, .any, .any, .any, .any, .any, .any, .any, .any, .any, .any, .any, .any, .any] ∧ Hed σ 2 6 hd1 400000 8 I S st) ?_ ?_
  · simp only [go_sem]
    refine ac' (ac_weak (Weak.deep [0] 3) ?_)
    simp only [go_sem]
    refine hed_add (hH.app [none]) (by decide) [-1, -2, -1] (by decide) (by decide) (by unfold LitV; decide) _ _ fun I' st' k2 k3 => ?_
    rw [← k3.st]
    exact Wk.mask [1, 7] ⟨I', _, rfl, k2⟩
  clear hH
  rintro fr st ⟨I, S, rfl, hH⟩
  simp only [go_sem]
  refine aw_cut (fun fr st => fr = [.any, .ref (I .st) 0, .any, .any, .any, .any, .any, di 0, di 210, .any, .any, .any, .any, .any, .any, .any, .any, .any, .any, .any, .any, .any, .any, .any, .any, .any, .any, .any, .any, .any, .any, .any, .any, .any, .any, .any, .any, .any, .any, .any, .any, .any, .any, .any, .any, .any, .any, .any, .any, .any, .any, .any, .any, .any, .any, .any, .any, .any, .any, .any, .any, .any, .any, .any, .any, .any, .any, .any, .any, .any, .any, .any, .any, .any, .any, .any, .any, .any, .any, .any, .any, .any, .any, .any, .any, .any, .any, .any, .any, .any, .any, .any, .any, .any, .any, .any, .any, .any, .any, .any, .any, .any, .any, .any, .any, .any, .any, .any, .any, .any, .any, .any, .any, .any, .any, .any, .any, .any, .any, .any, .any, .any, .any, .any, .any, .any, .any, .any, .any, .any, .any, .any, .any, .any, .any, .any, .any, .any, .any, .any, .any, .any, .any, .any, .any, .any, .any, .any, .any, .any, .any, .any, .any, .any] ∧ Hed σ 2 6 hd1 400000 8 I S st) ?_ ?_
  · simp only [go_sem]
    refine ac' (ac_weak (Weak.deep [0] 3) ?_)
    simp only [go_sem]
    refine add_rest (hH.app [none]).hs.sol hH.cls (by decide) [3] (by decide) (by decide) _ _ (fun e => ?_) fun e => ?_
    · exact Wk.mask [1, 7, 8] ⟨rfl, hH.app [none]⟩
    · have := (valid_all hH.cls.vars).1 e 3 (by simp)
      unfold LitV at this; omega
  rintro fr st ⟨rfl, hH⟩
  simp only [go_sem]
  refine aw_cut (fun fr st => ∃ I S, fr = [.any, .ref (I .st) 0, .any, di 0, .any, .any, .any, di 0, di 210, di 2, .any, .any, .any, .any, .any, .any, .any, .any, .any, .any, .any, .any, .any, .any, .any, .any, .any, .any, .any, .any, .any, .any, .any, .any, .any, .any, .any, .any, .any, .any, .any, .any, .any, .any, .any, .any, .any, .any, .any, .any, .any, .any, .any, .any, .any, .any, .any, .any, .any, .any, .any, .any, .any, .any, .any, .any, .any, .any, .any, .any, .any, .any, .any, .any, .any, .any, .any, .any, .any, .any, .any, .any, .any, .any, .any, .any, .any, .any, .any, .any, .any, .any, .any, .any, .any, .any, .any, .any, .any, .any, .any, .any, .any, .any, .any, .any, .any, .any, .any, .any, .any, .any, .any, .any, .any, .any, .any, .any, .any, .any, .any, .any, .any, .any, .any, .any, .any, .any, .any, .any, .any, .any, .any, .any, .any, .any, .any, .any, .any, .any, .any, .any, .any, .any, .any, .any, .any, .any, .any, .any, .any, .any, .any, .any] ∧ Hed σ 2 7 hd1 600000 12 I S st ∧ S.refuted = true ∧ S.core = [] ∧ 0 < S.steps.length ∧ (S.steps.getD (S.steps.length - 1) ([], [])).1 = []) ?_ ?_
  · simp only [go_sem]
    refine ac' (ac_weak (Weak.nils nilA_asm) ?_)
    refine hed_solve hH (by decide) (by decide) (by decide) [] (by decide) (fun l hl => by cases hl) 200000 (by decide) _ _ fun m r hr k1 I' st' k2 k3 => ?_
    have hv1 : r.2 = 2 := k1.isNo (k1.done (by rw [hH.cls.vars]; decide) (by have := k2.steps; simp only [pmax]; omega)) (by rw [hH.cls.cls]; exact hd1_no)
    obtain ⟨y1, y2, y3, y4, y5, y6, y7⟩ := k1.no hv1
    have hc : (r.1.finish 200000).core = [] := List.eq_nil_iff_forall_not_mem.2 fun x hx => by cases y3 x hx
    rw [hc] at y7
    rcases y7 with ⟨l, hl, -⟩ | ⟨y7, y8⟩
    · cases hl
    rw [hv1, ← k3.st]
    simp only [go_sem]
    exact Wk.mask [1, 3, 7, 8, 9] ⟨I', _, rfl, k2, y1, hc, y7, List.perm_nil.1 y8⟩
  clear hH
  rintro fr st ⟨I, S, rfl, hH, y1, y2, y3, y4⟩
  have hz := hH.cls.rest.szs
  simp only [go_sem]
  refine aw_cut (fun fr st' => fr = [.any, .ref (I .st) 0, .any, di 0, .any, .any, .any, di 0, di 210, di 2, .d (prfD (proofM S)), .any, .any, .any, .any, .any, .any, .any, .any, .any, .any, .any, .any, .any, .any, .any, .any, .any, .any, .any, .any, .any, .any, .any, .any, .any, .any, .any, .any, .any, .any, .any, .any, .any, .any, .any, .any, .any, .any, .any, .any, .any, .any, .any, .any, .any, .any, .any, .any, .any, .any, .any, .any, .any, .any, .any, .any, .any, .any, .any, .any, .any, .any, .any, .any, .any, .any, .any, .any, .any, .any, .any, .any, .any, .any, .any, .any, .any, .any, .any, .any, .any, .any, .any, .any, .any, .any, .any, .any, .any, .any, .any, .any, .any, .any, .any, .any, .any, .any, .any, .any, .any, .any, .any, .any, .any, .any, .any, .any, .any, .any, .any, .any, .any, .any, .any, .any, .any, .any, .any, .any, .any, .any, .any, .any, .any, .any, .any, .any, .any, .any, .any, .any, .any, .any, .any, .any, .any, .any, .any, .any, .any, .any, .any] ∧ st' = st) ?_ ?_
  · simp only [go_sem]
    refine ac' (proof_ac hH.hs.sol hz.1 hz.2.1 hz.2.2 _ _ ?_)
    simp only [go_sem]
    exact Wk.mask [1, 3, 7, 8, 9, 10] ⟨rfl, rfl⟩
  rintro fr st' ⟨rfl, rfl⟩
  simp only [go_sem]
  refine aw_cut (fun fr st => fr = [.any, .ref (I .st) 0, .any, di 0, .any, .any, .any, di 0, di 210, di 2, .d (prfD (proofM S)), di 1, di 0, .any, .any, .any, .any, .any, .any, .any, .any, .any, .any, .any, .any, .any, .any, .any, .any, .any, .any, .any, .any, .any, .any, .any, .any, .any, .any, .any, .any, .any, .any, .any, .any, .any, .any, .any, .any, .any, .any, .any, .any, .any, .any, .any, .any, .any, .any, .any, .any, .any, .any, .any, .any, .any, .any, .any, .any, .any, .any, .any, .any, .any, .any, .any, .any, .any, .any, .any, .any, .any, .any, .any, .any, .any, .any, .any, .any, .any, .any, .any, .any, .any, .any, .any, .any, .any, .any, .any, .any, .any, .any, .any, .any, .any, .any, .any, .any, .any, .any, .any, .any, .any, .any, .any, .any, .any, .any, .any, .any, .any, .any, .any, .any, .any, .any, .any, .any, .any, .any, .any, .any, .any, .any, .any, .any, .any, .any, .any, .any, .any, .any, .any, .any, .any, .any, .any, .any, .any, .any, .any, .any, .any] ∧ Hed σ 2 7 hd1 600000 12 I S st) ?_ ?_
  · simp only [go_sem]
    refine ac' (ac_weak (Weak.nils (show NilAL [di ((0 : Nat) : Int), .d .nils] [di ((0 : Nat) : Int), .d (csD [])] from NilAL.cons (.refl _) (NilAL.cons (.d (.nil 1)) .nil))) ?_)
    refine with_ac 0 (by decide) [] (by decide) (fun c hc => by cases hc) _ _ _ fun J st2 k1 k2 => ?_
    obtain ⟨a1, a2, a3⟩ := addAll_cls 0 (by decide) [] (by decide) (fun c hc => by cases hc)
    have hT : Two J (addAll 0 []) I S st2 := ⟨k1.sol, ⟨fun s hs => by rw [k2.eq _ (hH.hs.sol.lt s hs)]; exact hH.hs.sol.get s hs, hH.hs.sol.inj⟩, fun s t hs ht e => by have := k1.low s hs; have := hH.hs.sol.lt t ht; omega⟩
    have hJ : Hed st' 0 0 [] 0 0 J (addAll 0 []) st2 := ⟨k1, k2, a1, by rw [a2]; exact Nat.le_refl _, by rw [a3]; exact Nat.le_refl _⟩
    simp only [go_sem]
    refine ac' (ac_weak (Weak.nils nilA_asm) ?_)
    refine hed_solve hJ (by decide) (by decide) (by decide) [] (by decide) (fun l hl => by cases hl) 200000 (by decide) _ _ fun m r hr k3 J' st3 k4 k5 => ?_
    have hv1 : r.2 = 1 := k3.isYes (k3.done (by rw [a1.vars]; decide) (by have := k4.steps; simp only [pmax]; omega)) (by rw [a1.cls]; exact nil_yes)
    rw [hv1]
    have hT2 := hT.fst k5 k4.hs.sol (a1.has k4.cls)
    simp only [go_sem]
    exact Wk.mask [1, 3, 7, 8, 9, 10, 11, 12] ⟨rfl, ⟨hT2.b, hH.hs.low⟩, hH.old.trans k4.old, hH.cls, hH.used, hH.steps⟩
  rintro fr st ⟨rfl, hH⟩
  have hcr : coreM S = [] := by unfold coreM; rw [y1]; exact y2
  have hpl : (proofM S).length = S.steps.length := by unfold proofM; simp
  have hpe : (proofM S).getD (S.steps.length - 1) ([], []) = ([], ((S.steps.getD (S.steps.length - 1) ([], [])).2.map (shiftH S.added.length))) := by
    unfold proofM
    rw [List.getD_eq_getElem?_getD, List.getElem?_map, List.getElem?_eq_getElem (by omega)]
    have := y4
    rw [List.getD_eq_getElem?_getD, List.getElem?_eq_getElem (by omega)] at this ⊢
    simp only [Option.map_some, Option.getD_some] at this ⊢
    rw [this]
  have g0 : List.getD ((proofM S).map lnD) (S.steps.length - 1) default = lnD ((proofM S).getD (S.steps.length - 1) ([], [])) := getD_mapD (by omega)
  rw [hpe] at g0
  have hle := hz.1
  have w1 : IntKind.i64.wrap ((S.steps.length : Int) - 1) = ((S.steps.length - 1 : Nat) : Int) := by rw [wrap64_id _ (by omega) (by omega)]; omega
  have z0 : ((0 : Int) == 0) = true := rfl
  have z1 : ((210 : Int) == 210) = true := rfl
  have z2 : ((2 : Int) == 2) = true := rfl
  have z3 : (((0 : Nat) : Int) == 0) = true := rfl
  have z4 : decide ((0 : Int) < (S.steps.length : Int)) = true := decide_eq_true (by omega)
  have z5 : ((1 : Int) == 1) = true := rfl
  unfold prfD
  simp only [go_sem, z0, z1, z2, z3, z4, z5]
  refine ex' (isD []) ⟨fun q => ?_, ?_⟩
  · simp only [go_sem]
    refine ac' (core_ac hH.hs.sol (fun _ => by rw [y2]; decide) _ _ ?_)
    rw [hcr]
    exact And.intro rfl rfl
  simp only [isD, List.map_nil, go_sem, List.length_map, hpl, g0, lnD, w1, z0, z1, z2, z3, z4, z5]
  refine ⟨⟨by omega, by omega⟩, ex' .nilp ⟨fun q => ?_, ?_⟩⟩
  · simp only [go_sem]
    refine ac' (new_nil (-1) (Or.inl (by decide)) _ _ _ ?_)
    exact And.intro rfl rfl
  simp only [isD, List.map_nil, go_sem, List.length_map, hpl, g0, lnD, w1, z0, z1, z2, z3, z4, z5]
  refine ex' .nilp ⟨fun q => ?_, ?_⟩
  · simp only [go_sem]
    refine ac' (new_nil 8001 (Or.inr (by decide)) _ _ _ ?_)
    exact And.intro rfl rfl
  simp only [isD, List.map_nil, go_sem, List.length_map, hpl, g0, lnD, w1, z0, z1, z2, z3, z4, z5, Try.results9]
  exact ret_old hbd hH.old h
end Go.Proofs.Ytnanofipjiclfaa
end PartX3

section PartX4
/- SolverIncrements. -/
set_option linter.unusedSimpArgs false
set_option linter.unusedVariables false
set_option maxRecDepth 100000
namespace Go.Proofs.Ytnanofipjiclfaa
open Go Go.Ab
variable {I : Sl → Nat} {S : Sv} {σ : St}

/-- What a verdict says; L bounds the steps from below when it is open. -/
structure Vx (C : List (List Int)) (asm : List Int) (x : Int) (L : Nat) : Prop where
  v3 : x = 0 ∨ x = 1 ∨ x = 2
  z : x = 0 → pmax ≤ L
  y : x = 1 → SatA C asm
  n : x = 2 → ¬ SatA C asm
theorem Slv.vx {b M F : Nat} {asm : List Int} {S N : Sv} {v : Int} (h : Slv b M asm F S N v) (hF : 2 ^ b * (S.vars + 1) ≤ F) : Vx S.cls asm v N.steps.length :=
  ⟨h.v3, fun e => by obtain ⟨-, -, h1⟩ := h.und e; rcases h1 with h1 | h1 <;> omega, h.sat, h.unsat⟩
theorem Vx.mono {C : List (List Int)} {asm : List Int} {x : Int} {L L' : Nat} (h : Vx C asm x L) (hl : L ≤ L') : Vx C asm x L' := ⟨h.v3, fun e => Nat.le_trans (h.z e) hl, h.y, h.n⟩
theorem Vx.yes {C : List (List Int)} {asm : List Int} {x : Int} {L : Nat} (h : Vx C asm x L) (h0 : x ≠ 0) (hs : SatA C asm) : x = 1 := by
  rcases h.v3 with e | e | e
  · exact absurd e h0
  · exact e
  · exact absurd hs (h.n e)
theorem Vx.no {C : List (List Int)} {asm : List Int} {x : Int} {L : Nat} (h : Vx C asm x L) (h0 : x ≠ 0) (hs : ¬ SatA C asm) : x = 2 := by
  rcases h.v3 with e | e | e
  · exact absurd e h0
  · exact absurd (h.y e) hs
  · exact e
theorem Vx.eq {C : List (List Int)} {asm : List Int} {x y : Int} {L L' : Nat} (h : Vx C asm x L) (k : Vx C asm y L') (hx : x ≠ 0) (hy : y ≠ 0) : x = y := by
  rcases h.v3 with e | e | e
  · exact absurd e hx
  · rw [e, k.yes hy (h.y e)]
  · rw [e, k.no hy (h.n e)]
theorem SatA.less {C D : List (List Int)} {a : List Int} (h : SatA (C ++ D) a) : SatA C a := by
  obtain ⟨β, h1, h2⟩ := h
  exact ⟨β, fun c hc => h1 c (List.mem_append_left _ hc), h2⟩
theorem Hed.mono {n M M' : Nat} {C : List (List Int)} {u s u' s' : Nat} {st : St} (h : Hed σ n M C u s I S st) (hM : M ≤ M') (hu : u ≤ u') (hs : s ≤ s') : Hed σ n M' C u' s' I S st := ⟨h.hs, h.old, ⟨h.cls.rest.mono hM, h.cls.vars, h.cls.cls⟩, Nat.le_trans h.used hu, Nat.le_trans h.steps hs⟩
/-- Two solvers beside what was there. -/
structure Duo (σ : St) (n M : Nat) (C : List (List Int)) (u s : Nat) (I : Sl → Nat) (S : Sv) (M' : Nat) (C' : List (List Int)) (u' s' : Nat) (J : Sl → Nat) (T : Sv) (st : St) : Prop where
  a : Hed σ n M C u s I S st
  b : Hed σ n M' C' u' s' J T st
  d : ∀ x t, has S x → has T t → I x ≠ J t
theorem Duo.symm {n M M' : Nat} {C C' : List (List Int)} {u s u' s' : Nat} {J : Sl → Nat} {T : Sv} {st : St} (h : Duo σ n M C u s I S M' C' u' s' J T st) : Duo σ n M' C' u' s' J T M C u s I S st := ⟨h.b, h.a, fun x t hx ht e => h.d t x ht hx e.symm⟩
theorem Duo.fst {n M M' M1 : Nat} {C C' C1 : List (List Int)} {u s u' s' u1 s1 : Nat} {X : Sl → Prop} {I' J : Sl → Nat} {S' T : Sv} {st st' : St} (h : Duo σ n M C u s I S M' C' u' s' J T st) (k : Stp X I S st I' st') (a : Hed σ n M1 C1 u1 s1 I' S' st') : Duo σ n M1 C1 u1 s1 I' S' M' C' u' s' J T st' := by
  have t : Two I S J T st := ⟨h.a.hs.sol, h.b.hs.sol, h.d⟩
  have t' := t.fst k a.hs.sol (h.a.cls.has a.cls)
  exact ⟨a, ⟨⟨t'.b, h.b.hs.low⟩, a.old, h.b.cls, h.b.used, h.b.steps⟩, t'.d⟩
theorem Duo.app {n M M' : Nat} {C C' : List (List Int)} {u s u' s' : Nat} {J : Sl → Nat} {T : Sv} {st : St} (h : Duo σ n M C u s I S M' C' u' s' J T st) (l : St) : Duo σ n M C u s I S M' C' u' s' J T (st ++ l) := ⟨h.a.app l, h.b.app l, h.d⟩
/-- A second solver, made behind the first. -/
theorem duo_new {n M : Nat} {C : List (List Int)} {u s : Nat} {st st' : St} (h : Hed σ n M C u s I S st) {M' : Nat} {C' : List (List Int)} {J : Sl → Nat} {T : Sv} (hJ : Hs st.length J T st') (ho : Old st st') (hc : Cls M' n C' T) {u' s' : Nat} (hu : T.used ≤ u') (hs : T.steps.length ≤ s') : Duo σ n M C u s I S M' C' u' s' J T st' :=
  ⟨⟨⟨⟨fun x hx => by rw [ho.eq _ (h.hs.sol.lt x hx)]; exact h.hs.sol.get x hx, h.hs.sol.inj⟩, h.hs.low⟩, h.old.trans ho, h.cls, h.used, h.steps⟩, ⟨hJ.weak h.old.len, h.old.trans ho, hc, hu, hs⟩, fun x t hx ht e => by have := h.hs.sol.lt x hx; have := hJ.low t ht; omega⟩
/-- What the tests of a formula say. -/
theorem fits_of {n : Int} {C : List (List Int)} (h : fitsB n C = true) : ∃ m : Nat, n = m ∧ m ≤ 12 ∧ C.length ≤ 60 ∧ ∀ c ∈ C, (∀ l ∈ c, LitV m l) ∧ c.length ≤ 20 := by
  unfold fitsB fitsC at h
  simp only [Bool.and_eq_true, Bool.not_eq_true', Bool.or_eq_false_iff, decide_eq_false_iff_not, List.all_eq_true, Bool.not_eq_false'] at h
  obtain ⟨⟨⟨h1, h2⟩, h3⟩, h4⟩ := h
  refine ⟨n.toNat, by omega, by omega, by omega, fun c hc => ?_⟩
  obtain ⟨h5, h6⟩ := h4 c hc
  have e : n = (n.toNat : Int) := by omega
  rw [e] at h6
  exact ⟨validB_iff.1 h6, by omega⟩
theorem pow12 {n : Nat} (h : n ≤ 12) : 2 ^ n ≤ 4096 ∧ 2 ^ n * (n + 1) ≤ 53248 := by
  have h1 : 2 ^ n ≤ 2 ^ 12 := Nat.pow_le_pow_right (by decide) h
  refine ⟨h1, ?_⟩
  calc 2 ^ n * (n + 1) ≤ 2 ^ 12 * (12 + 1) := Nat.mul_le_mul h1 (by omega)
    _ = 53248 := by decide
end Go.Proofs.Ytnanofipjiclfaa
end PartX4

section PartB1
/- Bits of machine's integers, as the program's operations give them. -/
set_option linter.unusedSimpArgs false
set_option linter.unusedVariables false
namespace Go.Proofs.Ytnanofipjiclfaa
open Go Go.Ab

def bAnd (ik : IntKind) (a b : Int) : Int := ik.wrap ((BitVec.ofInt ik.bits a &&& BitVec.ofInt ik.bits b).toNat : Int)
def bShr (ik : IntKind) (a b : Int) : Int := a.fdiv (2 ^ (min b.toNat ik.bits))
section
variable {P : Program} {t : TypeId} {k : Prop → A → Prop} {a b : Int} {ik jk : IntKind}
@[go_sem high, go_sem ↓ high] theorem rdBin_andB : rdBin P .and t k (.d (.int ik a)) (.d (.int ik b)) = k True (.d (.int ik (bAnd ik a b))) := by simp only [rdBin, rdArith, if_true]; rfl
@[go_sem high, go_sem ↓ high] theorem rdBin_shrB : rdBin P .shr t k (.d (.int ik a)) (.d (.int jk b)) = k (0 ≤ b) (.d (.int ik (bShr ik a b))) := (rfl)
end
/-- A bit of a number. -/
theorem fdiv_pow (x i : Nat) : (x : Int).fdiv (2 ^ i) = ((x / 2 ^ i : Nat) : Int) := by
  rw [Int.fdiv_eq_ediv_of_nonneg _ (by exact_mod_cast Nat.zero_le (2 ^ i))]
  have e : (2 : Int) ^ i = ((2 ^ i : Nat) : Int) := by simp
  rw [e]; rfl
theorem bit16 {x i : Nat} (hx : x ≤ 65535) (hi : i ≤ 16) : (bAnd .u16 (bShr .u16 (x : Int) (i : Int)) 1 == 1) = x.testBit i := by
  have e1 : bShr .u16 (x : Int) (i : Int) = ((x / 2 ^ i : Nat) : Int) := by
    unfold bShr
    rw [Int.toNat_natCast, show min i IntKind.u16.bits = i from Nat.min_eq_left hi, fdiv_pow]
  have hle : x / 2 ^ i ≤ 65535 := Nat.le_trans (Nat.div_le_self _ _) hx
  rw [e1, Nat.testBit_eq_decide_div_mod_eq]
  generalize x / 2 ^ i = y at hle
  have e2 : bAnd .u16 (y : Int) 1 = ((y % 2 : Nat) : Int) := by
    unfold bAnd
    have h1 : (BitVec.ofInt IntKind.u16.bits (y : Int) &&& BitVec.ofInt IntKind.u16.bits 1).toNat = y % 2 := by
      rw [BitVec.toNat_and]
      have h2 : (BitVec.ofInt IntKind.u16.bits (y : Int)).toNat = y := by
        simp only [IntKind.bits, BitVec.toNat_ofInt]
        omega
      have h3 : (BitVec.ofInt IntKind.u16.bits 1).toNat = 1 := by decide
      rw [h2, h3]
      exact Nat.and_one_is_mod y
    rw [h1]
    simp only [IntKind.wrap, IntKind.bits, IntKind.signed, Bool.false_and, Bool.false_eq_true, if_false]
    show ((y % 2 : Nat) : Int) % 65536 = _
    omega
  rw [e2, Bool.eq_iff_iff, beq_iff_eq, decide_eq_true_eq]
  omega
end Go.Proofs.Ytnanofipjiclfaa
end PartB1

section PartQ28
/- Plain facts on the solver: other names for the variables. -/
set_option linter.unusedSimpArgs false
set_option linter.unusedVariables false
namespace Go.Proofs.Ytnanofipjiclfaa
open Go Go.Ab

def permV (n turn i : Nat) : Nat := (i + turn) % n + 1
def permL (n turn : Nat) : List Int := (List.range n).map fun i => (permV n turn i : Int)
/-- A literal under other names. -/
def ren1 (n turn sg : Nat) (x : Int) : Int := (if decide (x < 0) != sg.testBit (vr x - 1) then (-1 : Int) else 1) * (permV n turn (vr x - 1) : Int)
theorem permV_inj {n turn a b : Nat} (ha : a < n) (hb : b < n) (h : permV n turn a = permV n turn b) : a = b := by
  unfold permV at h
  have h0 : (a + turn) % n = (b + turn) % n := by omega
  have h1 := Nat.div_add_mod (a + turn) n
  have h2 := Nat.div_add_mod (b + turn) n
  rw [h0] at h1
  generalize (a + turn) / n = q1 at h1
  generalize (b + turn) / n = q2 at h2
  generalize (b + turn) % n = r at h1 h2
  rcases Nat.lt_trichotomy q1 q2 with h | h | h
  · have := Nat.mul_le_mul_left n (show q1 + 1 ≤ q2 by omega)
    rw [Nat.mul_add, Nat.mul_one] at this
    omega
  · subst h; omega
  · have := Nat.mul_le_mul_left n (show q2 + 1 ≤ q1 by omega)
    rw [Nat.mul_add, Nat.mul_one] at this
    omega
theorem permV_bd {n turn i : Nat} (hn : 0 < n) : 1 ≤ permV n turn i ∧ permV n turn i ≤ n := by
  unfold permV
  have := Nat.mod_lt (i + turn) hn
  omega
theorem ren1_lit {n turn sg : Nat} (hn : 0 < n) {x : Int} : LitV n (ren1 n turn sg x) := by
  have := permV_bd (n := n) (turn := turn) (i := vr x - 1) hn
  unfold LitV ren1
  split <;> omega
theorem ren1_vr {n turn sg : Nat} {x : Int} : vr (ren1 n turn sg x) = permV n turn (vr x - 1) := by
  unfold ren1 vr
  split <;> omega
theorem ren1_pos {n turn sg : Nat} (hn : 0 < n) {x : Int} : decide (0 < ren1 n turn sg x) = !(decide (x < 0) != sg.testBit (vr x - 1)) := by
  have := permV_bd (n := n) (turn := turn) (i := vr x - 1) hn
  unfold ren1
  cases (decide (x < 0) != sg.testBit (vr x - 1))
  · rw [if_neg (by simp)]
    have : (0 : Int) < 1 * (permV n turn (vr x - 1) : Int) := by omega
    rw [decide_eq_true this]; rfl
  · rw [if_pos rfl]
    have : ¬ (0 : Int) < -1 * (permV n turn (vr x - 1) : Int) := by omega
    rw [decide_eq_false this]; rfl
/-- Assignments that say the same of the names. -/
def Twin (n turn sg : Nat) (β γ : Nat → Bool) : Prop := ∀ v, 1 ≤ v → v ≤ n → γ (permV n turn (v - 1)) = (β v != sg.testBit (v - 1))
theorem Twin.tt {n turn sg : Nat} {β γ : Nat → Bool} (h : Twin n turn sg β γ) {x : Int} (hx : LitV n x) : TT γ (ren1 n turn sg x) ↔ TT β x := by
  have hx' := hx
  unfold LitV at hx'
  have hn : 0 < n := by omega
  have hv : 1 ≤ vr x ∧ vr x ≤ n := by unfold vr; omega
  unfold TT
  rw [ren1_vr, ren1_pos hn, h (vr x) hv.1 hv.2]
  have h0 := (ren1_lit (turn := turn) (sg := sg) hn (x := x)).1
  have hneg : decide (x < 0) = !decide (0 < x) := by
    by_cases hp : 0 < x
    · rw [decide_eq_true hp, decide_eq_false (by omega)]; rfl
    · rw [decide_eq_false hp, decide_eq_true (by omega)]; rfl
  rw [hneg]
  cases β (vr x) <;> cases sg.testBit (vr x - 1) <;> cases decide (0 < x) <;> simp [h0, hx'.1]
theorem twin_to {n : Nat} (turn sg : Nat) (β : Nat → Bool) : ∃ γ, Twin n turn sg β γ := by
  refine ⟨fun w => (List.range n).any fun i => permV n turn i == w && (β (i + 1) != sg.testBit i), fun v h1 h2 => ?_⟩
  cases hb : (β v != sg.testBit (v - 1)) with
  | true =>
    rw [List.any_eq_true]
    refine ⟨v - 1, List.mem_range.2 (by omega), ?_⟩
    rw [Nat.sub_add_cancel h1, hb]
    simp
  | false =>
    rw [Bool.eq_false_iff]
    intro h
    obtain ⟨i, hi, h⟩ := List.any_eq_true.1 h
    rw [List.mem_range] at hi
    rw [Bool.and_eq_true, beq_iff_eq] at h
    have := permV_inj hi (show v - 1 < n by omega) h.1
    subst this
    rw [Nat.sub_add_cancel h1, hb] at h
    cases h.2
theorem twin_from {n : Nat} (turn sg : Nat) (γ : Nat → Bool) : ∃ β, Twin n turn sg β γ :=
  ⟨fun v => γ (permV n turn (v - 1)) != sg.testBit (v - 1), fun v _ _ => by show _ = ((γ (permV n turn (v - 1)) != sg.testBit (v - 1)) != sg.testBit (v - 1)); cases γ (permV n turn (v - 1)) <;> cases sg.testBit (v - 1) <;> rfl⟩
def revRen (n turn sg : Nat) (l : List Int) : List Int := (l.map (ren1 n turn sg)).reverse
def otherC (n turn sg : Nat) (C : List (List Int)) : List (List Int) := (C.map (revRen n turn sg)).reverse
theorem Twin.sat {n turn sg : Nat} {β γ : Nat → Bool} (h : Twin n turn sg β γ) {C : List (List Int)} {asm : List Int} (hC : ∀ c ∈ C, ∀ l ∈ c, LitV n l) (ha : ∀ l ∈ asm, LitV n l) : (SatC γ (otherC n turn sg C) ∧ ∀ l ∈ revRen n turn sg asm, TT γ l) ↔ (SatC β C ∧ ∀ l ∈ asm, TT β l) := by
  refine and_congr ?_ ?_
  · constructor
    · intro hs c hc
      obtain ⟨m, hm, hm2⟩ := hs (revRen n turn sg c) (List.mem_reverse.2 (List.mem_map_of_mem hc))
      obtain ⟨x, hx, rfl⟩ := List.mem_map.1 (List.mem_reverse.1 hm)
      exact ⟨x, hx, (h.tt (hC c hc x hx)).1 hm2⟩
    · intro hs d hd
      obtain ⟨c, hc, rfl⟩ := List.mem_map.1 (List.mem_reverse.1 hd)
      obtain ⟨x, hx, hx2⟩ := hs c hc
      exact ⟨_, List.mem_reverse.2 (List.mem_map_of_mem hx), (h.tt (hC c hc x hx)).2 hx2⟩
  · constructor
    · intro hs x hx
      exact (h.tt (ha x hx)).1 (hs _ (List.mem_reverse.2 (List.mem_map_of_mem hx)))
    · intro hs y hy
      obtain ⟨x, hx, rfl⟩ := List.mem_map.1 (List.mem_reverse.1 hy)
      exact (h.tt (ha x hx)).2 (hs x hx)
theorem names_iff {n : Nat} (turn sg : Nat) {C : List (List Int)} {asm : List Int} (hC : ∀ c ∈ C, ∀ l ∈ c, LitV n l) (ha : ∀ l ∈ asm, LitV n l) : SatA (otherC n turn sg C) (revRen n turn sg asm) ↔ SatA C asm := by
  constructor
  · rintro ⟨γ, hs⟩
    obtain ⟨β, hT⟩ := twin_from (n := n) turn sg γ
    exact ⟨β, (hT.sat hC ha).1 hs⟩
  · rintro ⟨β, hs⟩
    obtain ⟨γ, hT⟩ := twin_to (n := n) turn sg β
    exact ⟨γ, (hT.sat hC ha).2 hs⟩
end Go.Proofs.Ytnanofipjiclfaa
end PartQ28

section PartX5
/- SolverNames: the functions that rename and reverse. -/
set_option linter.unusedSimpArgs false
set_option linter.unusedVariables false
set_option maxRecDepth 100000
namespace Go.Proofs.Ytnanofipjiclfaa
open Go Go.Ab
variable {I : Sl → Nat} {S : Sv} {σ : St}

theorem ren_ints (n0 : Nat) (p : List Nat) (l : List Int) : renL n0 p (intsA l) = intsA l := by
  unfold intsA
  induction l with
  | nil => rfl
  | cons x l ih => simp only [List.map_cons, renL, A.ren, ih]
/-- renamed. -/
theorem renamed_ac (n turn sg : Nat) (hn : 0 < n ∧ n ≤ 12) (hsg : sg ≤ 65535) (c : List Int) (hc : c.length ≤ 1000000) (hv : ∀ x ∈ c, LitV n x) (σ : St) (G : Glob) (R : A → St → Prop) (h : R (.d (isD (c.map (ren1 n turn sg)))) σ) : AC Try.prog G 24 [.d (isD c), .d (isD (permL n turn)), .d (.int .u16 sg)] σ R := by
  unfold isD
  refine ac_enter mixed Try.func24 rfl Try.ntmps24 (by simp only [go_sem]) fun hbd => ?_
  simp only [List.length_cons, List.length_nil, Nat.reduceAdd, Nat.reduceSub, List.replicate_succ, List.replicate_zero, List.cons_append, List.nil_append]
  simp only [go_sem, List.length_map, Try.results24]
  refine aw_loop (fun m fr st => ∃ j : Nat, j ≤ c.length ∧ m = c.length - j ∧ fr = [.d (isD c), .d (isD (permL n turn)), .d (.int .u16 sg), .any, .any, .any, .any, .rs σ.length 1 0 j (some 3), .any, .any, .any, .any, .d (isD c), dn c.length, dn j, .any, .any, .any, .any, .any, .any, .any, .any, .any, .any, .any, .any, .any, .any, .any, .any, .any, .any, .any, .any, .any, .any, .any, .any, .any, .any, .any, .any] ∧ st = σ ++ [some (.cells (intsA ((c.take j).map (ren1 n turn sg))))]) c.length _
    ⟨_, _, (Weak.mask [0, 1, 2, 7, 12, 13, 14]).trans (Weak.empty 7 1 (some 3) rfl), 0, by omega, by omega, rfl, rfl⟩ ?_
  rintro m fr st ⟨j, hj, hm, rfl, rfl⟩
  unfold isD
  rcases Nat.lt_or_ge j c.length with hlt | hge
  · have hd : decide ((j : Int) < (c.length : Int)) = true := by simp; omega
    have w2 := wrapS j (by omega)
    have g0 : List.getD (c.map iD) j default = iD (c.getD j 0) := getD_mapD hlt
    have hx := hv _ (getD_mem 0 hlt)
    have htk : (c.take (j + 1)).map (ren1 n turn sg) = (c.take j).map (ren1 n turn sg) ++ [ren1 n turn sg (c.getD j 0)] := by rw [take_getD 0 hlt, List.map_append]; rfl
    generalize c.getD j 0 = x at g0 hx htk
    have hx' := hx
    unfold LitV at hx'
    have hi : vr x - 1 < n := by unfold vr; omega
    have hpl : (permL n turn).length = n := by unfold permL; simp
    have g1 : List.getD ((permL n turn).map iD) (vr x - 1) default = iD (permV n turn (vr x - 1)) := by
      rw [getD_mapD (d := 0) (by omega)]
      unfold permL
      rw [List.getD_eq_getElem?_getD, List.getElem?_map, List.getElem?_range hi]; rfl
    have hpb := permV_bd (n := n) (turn := turn) (i := vr x - 1) hn.1
    have hbit := bit16 (x := sg) (i := vr x - 1) hsg (by omega)
    have hren : ren1 n turn sg x = (if decide (x < 0) != sg.testBit (vr x - 1) then (-1 : Int) else 1) * (permV n turn (vr x - 1) : Int) := rfl
    have htl : ((c.take j).map (ren1 n turn sg)).length = j := by simp; omega
    generalize permV n turn (vr x - 1) = p at g1 hpb hren
    have u1 : IntKind.i64.wrap (0 - 1) = -1 := rfl
    have u2 : IntKind.i64.wrap (0 - -1) = 1 := rfl
    have u3 : IntKind.i64.wrap (1 * (p : Int)) = (p : Int) := wrap64_id _ (by omega) (by omega) |>.trans (by omega)
    have u4 : IntKind.i64.wrap (-1 * (p : Int)) = -(p : Int) := (wrap64_id _ (by omega) (by omega)).trans (by omega)
    cases hneg : decide (x < 0) with
    | true =>
      rw [decide_eq_true_eq] at hneg
      have v1 : IntKind.i64.wrap (0 - x) = (vr x : Int) := (wrap64_id _ (by omega) (by omega)).trans (by unfold vr; omega)
      have v2 : IntKind.i64.wrap ((vr x : Int) - 1) = ((vr x - 1 : Nat) : Int) := by rw [wrap64_id _ (by unfold vr; omega) (by unfold vr; omega)]; unfold vr; omega
      have dn' : decide (x < 0) = true := decide_eq_true hneg
      rw [dn'] at hren
      cases hb : sg.testBit (vr x - 1) with
      | true =>
        rw [hb] at hbit hren
        simp only [go_sem, List.length_map, hd, g0, w2, dn', v1, v2, hbit, u1, u2, u3, u4, g1, hpl, Try.results24]
        have u5 : (if (true != true) then (-1 : Int) else 1) * (p : Int) = (p : Int) := by simp
        refine ⟨⟨by omega, by omega⟩, by omega, ⟨by omega, by omega⟩, ⟨by rw [intsA_len, htl]; omega, by simp only [maxLen]; omega, by omega⟩, Wk.keep [0, 1, 2, 7, 12, 13, 14] [2] (by decide) (Nat.le_refl _) hbd ⟨c.length - (j + 1), by omega, j + 1, hlt, rfl, by simp only [go_sem], ?_⟩⟩
        simp only [go_sem, htk, hren, intsA_snoc, u5, ren_ints]
      | false =>
        rw [hb] at hbit hren
        have u5 : (if (true != false) then (-1 : Int) else 1) * (p : Int) = -(p : Int) := by simp
        simp only [go_sem, List.length_map, hd, g0, w2, dn', v1, v2, hbit, u1, u2, u3, u4, g1, hpl, Try.results24]
        refine ⟨⟨by omega, by omega⟩, by omega, ⟨by omega, by omega⟩, ⟨by rw [intsA_len, htl]; omega, by simp only [maxLen]; omega, by omega⟩, Wk.keep [0, 1, 2, 7, 12, 13, 14] [2] (by decide) (Nat.le_refl _) hbd ⟨c.length - (j + 1), by omega, j + 1, hlt, rfl, by simp only [go_sem], ?_⟩⟩
        simp only [go_sem, htk, hren, intsA_snoc, u5, ren_ints]
    | false =>
      rw [decide_eq_false_iff_not] at hneg
      have v1 : x = (vr x : Int) := by unfold vr; omega
      have v2 : IntKind.i64.wrap (x - 1) = ((vr x - 1 : Nat) : Int) := by rw [wrap64_id _ (by omega) (by omega)]; unfold vr; omega
      have dn' : decide (x < 0) = false := decide_eq_false hneg
      rw [dn'] at hren
      cases hb : sg.testBit (vr x - 1) with
      | true =>
        rw [hb] at hbit hren
        have u5 : (if (false != true) then (-1 : Int) else 1) * (p : Int) = -(p : Int) := by simp
        simp only [go_sem, List.length_map, hd, g0, w2, dn', v2, hbit, u1, u2, u3, u4, g1, hpl, Try.results24]
        refine ⟨⟨by omega, by omega⟩, by omega, ⟨by omega, by omega⟩, ⟨by rw [intsA_len, htl]; omega, by simp only [maxLen]; omega, by omega⟩, Wk.keep [0, 1, 2, 7, 12, 13, 14] [2] (by decide) (Nat.le_refl _) hbd ⟨c.length - (j + 1), by omega, j + 1, hlt, rfl, by simp only [go_sem], ?_⟩⟩
        simp only [go_sem, htk, hren, intsA_snoc, u5, ren_ints]
      | false =>
        rw [hb] at hbit hren
        have u5 : (if (false != false) then (-1 : Int) else 1) * (p : Int) = (p : Int) := by simp
        simp only [go_sem, List.length_map, hd, g0, w2, dn', v2, hbit, u1, u2, u3, u4, g1, hpl, Try.results24]
        refine ⟨⟨by omega, by omega⟩, by omega, ⟨by omega, by omega⟩, ⟨by rw [intsA_len, htl]; omega, by simp only [maxLen]; omega, by omega⟩, Wk.keep [0, 1, 2, 7, 12, 13, 14] [2] (by decide) (Nat.le_refl _) hbd ⟨c.length - (j + 1), by omega, j + 1, hlt, rfl, by simp only [go_sem], ?_⟩⟩
        simp only [go_sem, htk, hren, intsA_snoc, u5, ren_ints]
  · have hd : decide ((j : Int) < (c.length : Int)) = false := by simp; omega
    have hjc : j = c.length := by omega
    have htk : c.take j = c := List.take_of_length_le hge
    simp only [go_sem, List.length_map, hd, htk, Try.results24]
    refine ret_frz 0 1 0 ((c.map (ren1 n turn sg)).map iD) rfl (lies_ints _) ?_
    simp only [go_sem, List.length_map, hjc, if_true]
    exact ret_d hbd h
theorem set_rev {α : Type} (z x : α) (k : Nat) (l : List α) : (List.replicate (k + 1) z ++ l).set k x = List.replicate k z ++ x :: l := by
  rw [List.replicate_succ', List.append_assoc, List.set_append_right _ _ (by simp)]
  simp
/-- The closure that reverses. -/
theorem rev_ac (c : List Int) (hc : c.length ≤ 1000000) (σ : St) (G : Glob) (R : A → St → Prop) (h : R (.d (isD c.reverse)) σ) : AC Try.prog G 23 [.d (isD c)] σ R := by
  unfold isD
  refine ac_enter mixed Try.func23 rfl Try.ntmps23 (by simp only [go_sem]) fun hbd => ?_
  simp only [List.length_cons, List.length_nil, Nat.reduceAdd, Nat.reduceSub, List.replicate_succ, List.replicate_zero, List.cons_append, List.nil_append]
  simp only [go_sem, List.length_map, flat_rep, rep_ints, Try.results23]
  refine ⟨by omega, ?_⟩
  refine aw_loop (fun m fr st => ∃ j : Nat, j ≤ c.length ∧ m = c.length - j ∧ fr = [.d (isD c), .any, .any, .rs σ.length 1 0 c.length (some 3), .any, .any, .any, .any, .any, .d (isD c), dn c.length, dn j, .any, .any, .any, .any, .any, .any, .any, .any, .any, .any, .any, .any, .any, .any] ∧ st = σ ++ [some (.cells (intsA (List.replicate (c.length - j) 0 ++ (c.take j).reverse)))]) c.length _
    (Wk.mask [0, 3, 9, 10, 11] ⟨0, by omega, by omega, rfl, by simp⟩) ?_
  rintro m fr st ⟨j, hj, hm, rfl, rfl⟩
  unfold isD
  rcases Nat.lt_or_ge j c.length with hlt | hge
  · have hd : decide ((j : Int) < (c.length : Int)) = true := by simp; omega
    have w2 := wrapS j (by omega)
    have g0 : List.getD (c.map iD) j default = iD (c.getD j 0) := getD_mapD hlt
    have v1 : IntKind.i64.wrap ((c.length : Int) - 1) = ((c.length - 1 : Nat) : Int) := by rw [wrap64_id _ (by omega) (by omega)]; omega
    have v2 : IntKind.i64.wrap (((c.length - 1 : Nat) : Int) - (j : Int)) = ((c.length - 1 - j : Nat) : Int) := by rw [wrap64_id _ (by omega) (by omega)]; omega
    have hll : (intsA (List.replicate (c.length - j) 0 ++ (c.take j).reverse)).length = c.length := by rw [intsA_len]; simp; omega
    simp only [go_sem, List.length_map, hd, g0, w2, v1, v2, hll, Nat.mul_one, Try.results23]
    have hst : (List.replicate (c.length - j) 0 ++ (c.take j).reverse).set (c.length - 1 - j) (c.getD j 0) = List.replicate (c.length - (j + 1)) 0 ++ (c.take (j + 1)).reverse := by
      have e1 : c.length - j = c.length - 1 - j + 1 := by omega
      rw [e1, set_rev, take_getD 0 hlt, List.reverse_append, show c.length - (j + 1) = c.length - 1 - j by omega]; rfl
    rw [intsA_set _ (by simp; omega), hst]
    exact ⟨⟨by omega, by omega⟩, ⟨by omega, by omega⟩, by omega, Wk.mask [0, 3, 9, 10, 11] ⟨c.length - (j + 1), by omega, j + 1, by omega, rfl, rfl, rfl⟩⟩
  · have hd : decide ((j : Int) < (c.length : Int)) = false := by simp; omega
    have htk : c.take j = c := List.take_of_length_le hge
    have hz : c.length - j = 0 := by omega
    simp only [go_sem, List.length_map, hd, htk, hz, List.replicate_zero, List.nil_append, Try.results23]
    refine ret_frz 0 1 0 (c.reverse.map iD) rfl (lies_ints _) ?_
    simp only [go_sem, List.length_map, List.length_reverse, if_true]
    exact ret_d hbd h
end Go.Proofs.Ytnanofipjiclfaa
end PartX5

section PartX6
/- SolverNames. -/
set_option linter.unusedSimpArgs false
set_option linter.unusedVariables false
set_option maxRecDepth 100000
namespace Go.Proofs.Ytnanofipjiclfaa
open Go Go.Ab
variable {I : Sl → Nat} {S : Sv} {σ : St}

theorem set_take_A {l : List A} {i : Nat} {x : A} (h : i < l.length) : l.take i ++ x :: l.drop (i + 1) = l.set i x := by
  rw [List.set_eq_take_append_cons_drop, if_pos h]
theorem isD_cells (l : List (List Int)) : flat (l.map isD) = l.map fun c => A.d (isD c) := by
  induction l with
  | nil => rfl
  | cons x l ih => simp only [List.map_cons, flat_cons, ih]; rfl
theorem lies_cs (l : List (List Int)) : Lies (l.map fun c => A.d (isD c)) 1 0 (l.map isD) := by
  rw [← isD_cells]
  refine lies_of fun x hx => ?_
  obtain ⟨d, -, rfl⟩ := List.mem_map.1 hx
  refine ⟨rfl, fun y hy => ?_⟩
  simp only [isD, D.cells, List.mem_cons, List.not_mem_nil, or_false] at hy
  subst hy; rfl
set_option maxHeartbeats 8000000 in
theorem law5_ac (n : Int) (C : List (List Int)) (hC : C.length ≤ 1000000000000000) (hCc : ∀ c ∈ C, c.length ≤ 1000000000000000) (asm : List Int) (hA : asm.length ≤ 1000000000000000) (turn : Nat) (ht : turn ≤ 255) (sg : Nat) (hsg : sg ≤ 65535) (σ : St) (G : Glob) (R : A → St → Prop) (h : ∀ s, R (db true) s) : AC Try.prog G 5 [di n, .d (csD C), .d (isD asm), .d (.int .u8 turn), .d (.int .u16 sg)] σ R := by
  refine ac_enterC [3, 5, 6, 11, 12, 13, 18, 19, 20, 21] mixed Try.func5 rfl Try.ntmps5 (by simp only [go_sem]) fun hbd => ?_
  simp only [List.length_cons, List.length_nil, Nat.reduceAdd, Nat.reduceSub, List.replicate_succ, List.replicate_zero, List.cons_append, List.nil_append]
  simp only [go_sem, Try.results5]
  refine aw_cut (fun fr st => fr = [di n, .d (csD C), .d (isD asm), .d (.int .u8 turn), .d (.int .u16 sg), .any, .any, .any, .any, .any, .any, .any, .any, .any, .any, .any, .any, .any, .any, .any, .any, .any, .any, .any, .any, .any, .any, .any, .any, .any, .any, .any, .any, .any, .any, .any, .any, .any, .any, .any, .any, .any, .any, .any, .any, .any, .any, .any, .any, .any, .any, .any, .any, .any, .any, .any, .any, .any, .any, .any, .any, .any, .any, .any, .any, .any, .any, .any, .any, .any, .any, .any, .any, .any, .any, .any, .any, .any, .any, .any, .any, .any, .any, .any, .any, .any, .any, .any, .any, .any, .any, .any, .any, .any, .any, .any, .any, .any, .any, .any, .any, .any, .any, .any, .any, .any, .any, .any, .any, .any, .any, .any, .any, .any, .any, .any, .any, .any, .any, .any, .any, .any, .any, .any] ∧ st = σ) ?_ ?_
  · simp only [go_sem, Try.results5]
    refine ac' (head_ac _ _ _ ?_)
    simp only [go_sem, Try.results5]
    exact Wk.mask [0, 1, 2, 3, 4] ⟨rfl, rfl⟩
  rintro fr st ⟨rfl, rfl⟩
  simp only [go_sem, Try.results5]
  refine aw_cut (fun fr st' => fitsB n C = true ∧ n ≠ 0 ∧ asm.length ≤ 20 ∧ validB n asm = true ∧ fr = [di n, .d (csD C), .d (isD asm), .d (.int .u8 turn), .d (.int .u16 sg), .any, .any, .any, .any, .any, .any, .any, .any, .any, .any, .any, .any, .any, .any, .any, .any, .any, .any, .any, .any, .any, .any, .any, .any, .any, .any, .any, .any, .any, .any, .any, .any, .any, .any, .any, .any, .any, .any, .any, .any, .any, .any, .any, .any, .any, .any, .any, .any, .any, .any, .any, .any, .any, .any, .any, .any, .any, .any, .any, .any, .any, .any, .any, .any, .any, .any, .any, .any, .any, .any, .any, .any, .any, .any, .any, .any, .any, .any, .any, .any, .any, .any, .any, .any, .any, .any, .any, .any, .any, .any, .any, .any, .any, .any, .any, .any, .any, .any, .any, .any, .any, .any, .any, .any, .any, .any, .any, .any, .any, .any, .any, .any, .any, .any, .any, .any, .any, .any, .any] ∧ st' = st) ?_ ?_
  · simp only [go_sem, Try.results5]
    refine ac' (fits_ac n C hC hCc _ _ _ ?_)
    cases hf : fitsB n C with
    | false =>
      unfold isD
      simp only [go_sem, Try.results5]
      refine ex' (.bool true) ⟨fun q => Bool.noConfusion q, ?_⟩
      simp only [go_sem, Try.results5]
      exact ⟨_, _, Weak.refl _ _ _ _, h _⟩
    | true =>
      obtain ⟨m, rfl, hm, -, -⟩ := fits_of hf
      unfold isD
      simp only [go_sem, List.length_map, Try.results5]
      refine ex' (.bool (validB m asm)) ⟨fun q => ?_, ?_⟩
      · simp only [go_sem]
        exact ⟨q, ac' (validR_ac m (by omega) asm (by omega) _ _ _ (And.intro rfl rfl))⟩
      simp only [go_sem, List.length_map, Try.results5]
      refine ⟨fun e => ⟨_, _, Weak.refl _ _ _ _, h _⟩, fun e => ?_⟩
      simp only [Bool.or_eq_false_iff, decide_eq_false_iff_not, Bool.not_eq_false', beq_eq_false_iff_ne] at e
      exact Wk.mask [0, 1, 2, 3, 4] ⟨e.1.1, by omega, e.2, rfl, rfl⟩
  rintro fr st' ⟨hf, hn0, hal, hva, rfl, rfl⟩
  obtain ⟨m, rfl, hm, hCl, hCv⟩ := fits_of hf
  have hm0 : 0 < m := by omega
  have hav := validB_iff.1 hva
  obtain ⟨hp1, hp2⟩ := pow12 hm
  simp only [go_sem, Try.results5]
  refine aw_cut (fun fr s => fr = [dn m, .d (csD C), .d (isD asm), .d (.int .u8 turn), .d (.int .u16 sg), .any, .any, .any, .any, .any, .any, .rs st'.length 1 0 m (some 3), .any, .any, .any, .any, .any, .any, .any, .any, .any, .any, .any, .any, .any, .any, .any, .any, .any, .any, .any, .any, .any, .any, .any, .any, .any, .any, .any, .any, .any, .any, .any, .any, .any, .any, .any, .any, .any, .any, .any, .any, .any, .any, .any, .any, .any, .any, .any, .any, .any, .any, .any, .any, .any, .any, .any, .any, .any, .any, .any, .any, .any, .any, .any, .any, .any, .any, .any, .any, .any, .any, .any, .any, .any, .any, .any, .any, .any, .any, .any, .any, .any, .any, .any, .any, .any, .any, .any, .any, .any, .any, .any, .any, .any, .any, .any, .any, .any, .any, .any, .any, .any, .any, .any, .any, .any, .any, .any, .any, .any, .any, .any, .any] ∧ s = st' ++ [some (.cells (intsA (List.replicate m 0)))]) ?_ ?_
  · simp only [go_sem, flat_rep, rep_ints, Try.results5]
    exact ⟨by omega, Wk.mask [0, 1, 2, 3, 4, 11] ⟨rfl, rfl⟩⟩
  rintro fr s ⟨rfl, rfl⟩
  simp only [go_sem, Try.results5]
  refine aw_cut (fun fr s => fr = [dn m, .d (csD C), .d (isD asm), .d (.int .u8 turn), .d (.int .u16 sg), .any, .any, .any, .any, .any, .any, .d (isD (permL m turn)), .any, .any, .any, .any, .any, .any, .any, .any, .any, .any, .any, .any, .any, .any, .any, .any, .any, .any, .any, .any, .any, .any, .any, .any, .any, .any, .any, .any, .any, .any, .any, .any, .any, .any, .any, .any, .any, .any, .any, .any, .any, .any, .any, .any, .any, .any, .any, .any, .any, .any, .any, .any, .any, .any, .any, .any, .any, .any, .any, .any, .any, .any, .any, .any, .any, .any, .any, .any, .any, .any, .any, .any, .any, .any, .any, .any, .any, .any, .any, .any, .any, .any, .any, .any, .any, .any, .any, .any, .any, .any, .any, .any, .any, .any, .any, .any, .any, .any, .any, .any, .any, .any, .any, .any, .any, .any, .any, .any, .any, .any, .any, .any]) ?_ ?_
  · simp only [go_sem, Try.results5]
    refine aw_loop (fun q fr s => ∃ j : Nat, j ≤ m ∧ q = m - j ∧ fr = [dn m, .d (csD C), .d (isD asm), .d (.int .u8 turn), .d (.int .u16 sg), .any, .any, .any, .any, .any, .any, .rs st'.length 1 0 m (some 3), .any, .any, .any, .any, .any, .any, .any, .any, .any, .any, .any, .any, .any, .any, .any, .any, .any, .any, .any, .any, .any, .any, .any, .any, .any, .any, .any, .any, .any, .any, .any, .any, .any, .any, .rs st'.length 1 0 m (some 3), dn m, dn j, .any, .any, .any, .any, .any, .any, .any, .any, .any, .any, .any, .any, .any, .any, .any, .any, .any, .any, .any, .any, .any, .any, .any, .any, .any, .any, .any, .any, .any, .any, .any, .any, .any, .any, .any, .any, .any, .any, .any, .any, .any, .any, .any, .any, .any, .any, .any, .any, .any, .any, .any, .any, .any, .any, .any, .any, .any, .any, .any, .any, .any, .any, .any, .any, .any, .any, .any, .any, .any, .any, .any, .any, .any, .any, .any] ∧ s = st' ++ [some (.cells (intsA ((permL m turn).take j ++ List.replicate (m - j) 0)))]) m _ (Wk.mask [0, 1, 2, 3, 4, 11, 46, 47, 48] ⟨0, by omega, by omega, rfl, by simp⟩) ?_
    rintro q fr s ⟨j, hj, hq, rfl, rfl⟩
    rcases Nat.lt_or_ge j m with hlt | hge
    · have hd : decide ((j : Int) < (m : Int)) = true := by simp; omega
      have w2 := wrapS j (by omega)
      have v1 : IntKind.i64.wrap (turn : Int) = (turn : Int) := wrap64_id _ (by omega) (by omega)
      have v2 : IntKind.i64.wrap ((j : Int) + (turn : Int)) = ((j + turn : Nat) : Int) := by rw [wrap64_id _ (by omega) (by omega)]; omega
      have v3 : ((j + turn : Nat) : Int).tmod (m : Int) = (((j + turn) % m : Nat) : Int) := rfl
      have hmod : (j + turn) % m < m := Nat.mod_lt _ hm0
      have v5 := wrapS ((j + turn) % m) (by omega)
      have v4 : IntKind.i64.wrap (((j + turn) % m : Nat) : Int) = (((j + turn) % m : Nat) : Int) := wrap64_id _ (by omega) (by omega)
      have hpl : (permL m turn).length = m := by unfold permL; simp
      have hll : (intsA ((permL m turn).take j ++ List.replicate (m - j) 0)).length = m := by rw [intsA_len]; simp [hpl]; omega
      have z0 : ((m : Int) == 0) = false := by rw [beq_eq_false_iff_ne]; omega
      simp only [go_sem, hd, w2, v1, v2, v3, v4, v5, hll, z0, Nat.mul_one, Try.results5]
      have hst : ((permL m turn).take j ++ List.replicate (m - j) 0).set j ((((j + turn) % m + 1 : Nat)) : Int) = (permL m turn).take (j + 1) ++ List.replicate (m - (j + 1)) 0 := by
        have e1 : m - j = m - (j + 1) + 1 := by omega
        have hj2 : ((permL m turn).take j).length = j := by rw [List.length_take]; omega
        have e2 : (permL m turn).getD j 0 = (((j + turn) % m + 1 : Nat) : Int) := by
          unfold permL
          rw [List.getD_eq_getElem?_getD, List.getElem?_map, List.getElem?_range hlt]; rfl
        rw [e1, List.replicate_succ, List.set_append_right _ _ (by omega), hj2, Nat.sub_self, List.set_cons_zero, take_getD 0 (by omega), e2]
        simp
      rw [intsA_set _ (by simp [hpl]; omega), hst]
      exact ⟨by omega, ⟨by omega, by omega⟩, by omega, Wk.mask [0, 1, 2, 3, 4, 11, 46, 47, 48] ⟨m - (j + 1), by omega, j + 1, by omega, rfl, rfl, rfl⟩⟩
    · have hd : decide ((j : Int) < (m : Int)) = false := by simp; omega
      have htk : (permL m turn).take j = permL m turn := List.take_of_length_le (by unfold permL; simp; omega)
      have hz : m - j = 0 := by omega
      simp only [go_sem, hd, htk, hz, List.replicate_zero, List.append_nil, Try.results5]
      refine Wk.via ((Weak.mask [0, 1, 2, 3, 4, 11]).trans (Weak.freeze st'.length 1 0 ((permL m turn).map iD) (by rw [List.getElem?_append_right (Nat.le_refl _), Nat.sub_self]; rfl) (lies_ints _))) (Wk.mask [0, 1, 2, 3, 4, 11] ?_)
      have hpl : ((permL m turn).map iD).length = m := by unfold permL; simp
      simp [maskN, frzL, A.frz, hpl, isD]
  rintro fr s0 rfl
  simp only [go_sem, Try.results5]
  refine aw_cut (fun fr s => fr = [dn m, .d (csD C), .d (isD asm), .d (.int .u8 turn), .d (.int .u16 sg), .any, .any, .any, .any, .any, .any, .d (isD (permL m turn)), .any, .fn (.func 23) [] [], .any, .any, .any, .any, .any, .any, .any, .any, .any, .any, .any, .any, .any, .any, .any, .any, .any, .any, .any, .any, .any, .any, .any, .any, .any, .any, .any, .any, .any, .any, .any, .any, .any, .any, .any, .any, .any, .any, .any, .any, .any, .any, .any, .any, .any, .any, .any, .any, .any, .any, .any, .any, .any, .any, .any, .any, .any, .any, .any, .any, .any, .any, .any, .any, .any, .any, .any, .any, .any, .any, .any, .any, .any, .any, .any, .any, .any, .any, .any, .any, .any, .any, .any, .any, .any, .any, .any, .any, .any, .any, .any, .any, .any, .any, .any, .any, .any, .any, .any, .any, .any, .any, .any, .any, .any, .any, .any, .any, .any, .any] ∧ s = s0) ?_ ?_
  · simp only [go_sem, Try.results5]
    exact Wk.mask [0, 1, 2, 3, 4, 11, 13] ⟨rfl, rfl⟩
  rintro fr s0 ⟨rfl, rfl⟩
  simp only [go_sem, Try.results5]
  refine aw_cut (fun fr s => fr = [dn m, .d (csD C), .d (isD asm), .d (.int .u8 turn), .d (.int .u16 sg), .any, .any, .any, .any, .any, .any, .d (isD (permL m turn)), .any, .fn (.func 23) [] [], .rs s0.length 1 0 C.length (some 28), .any, .any, .any, .any, .any, .any, .any, .any, .any, .any, .any, .any, .any, .any, .any, .any, .any, .any, .any, .any, .any, .any, .any, .any, .any, .any, .any, .any, .any, .any, .any, .any, .any, .any, .any, .any, .any, .any, .any, .any, .any, .any, .any, .any, .any, .any, .any, .any, .any, .any, .any, .any, .any, .any, .any, .any, .any, .any, .any, .any, .any, .any, .any, .any, .any, .any, .any, .any, .any, .any, .any, .any, .any, .any, .any, .any, .any, .any, .any, .any, .any, .any, .any, .any, .any, .any, .any, .any, .any, .any, .any, .any, .any, .any, .any, .any, .any, .any, .any, .any, .any, .any, .any, .any, .any, .any, .any, .any, .any] ∧ s = s0 ++ [some (.cells (List.replicate C.length (.d .nils)))]) ?_ ?_
  · unfold csD
    simp only [go_sem, List.length_map, flat_rep, Try.results5]
    exact ⟨⟨by omega, by omega, by omega, by omega⟩, Wk.mask [0, 1, 2, 3, 4, 11, 13, 14] ⟨rfl, rfl⟩⟩
  rintro fr s ⟨rfl, rfl⟩
  simp only [go_sem, Try.results5]
  refine aw_cut (fun fr s => fr = [dn m, .d (csD C), .d (isD asm), .d (.int .u8 turn), .d (.int .u16 sg), .any, .any, .any, .any, .any, .any, .d (isD (permL m turn)), .any, .fn (.func 23) [] [], .d (csD (otherC m turn sg C)), .any, .any, .any, .any, .any, .any, .any, .any, .any, .any, .any, .any, .any, .any, .any, .any, .any, .any, .any, .any, .any, .any, .any, .any, .any, .any, .any, .any, .any, .any, .any, .any, .any, .any, .any, .any, .any, .any, .any, .any, .any, .any, .any, .any, .any, .any, .any, .any, .any, .any, .any, .any, .any, .any, .any, .any, .any, .any, .any, .any, .any, .any, .any, .any, .any, .any, .any, .any, .any, .any, .any, .any, .any, .any, .any, .any, .any, .any, .any, .any, .any, .any, .any, .any, .any, .any, .any, .any, .any, .any, .any, .any, .any, .any, .any, .any, .any, .any, .any, .any, .any, .any, .any, .any, .any, .any, .any, .any, .any]) ?_ ?_
  · unfold csD
    simp only [go_sem, List.length_map, Try.results5]
    refine aw_loop (fun q fr s => ∃ j : Nat, j ≤ C.length ∧ q = C.length - j ∧ fr = [dn m, .d (csD C), .d (isD asm), .d (.int .u8 turn), .d (.int .u16 sg), .any, .any, .any, .any, .any, .any, .d (isD (permL m turn)), .any, .fn (.func 23) [] [], .rs s0.length 1 0 C.length (some 28), .any, .any, .any, .any, .any, .any, .any, .any, .any, .any, .any, .any, .any, .any, .any, .any, .any, .any, .any, .any, .any, .any, .any, .any, .any, .any, .any, .any, .any, .any, .any, .any, .any, .any, .any, .any, .any, .any, .any, .any, .any, .any, .any, .any, .any, .any, .any, .any, .any, .any, .d (csD C), dn C.length, dn j, .any, .any, .any, .any, .any, .any, .any, .any, .any, .any, .any, .any, .any, .any, .any, .any, .any, .any, .any, .any, .any, .any, .any, .any, .any, .any, .any, .any, .any, .any, .any, .any, .any, .any, .any, .any, .any, .any, .any, .any, .any, .any, .any, .any, .any, .any, .any, .any, .any, .any, .any, .any, .any, .any, .any, .any] ∧ s = s0 ++ [some (.cells (List.replicate (C.length - j) (.d .nils) ++ ((C.take j).map fun c => A.d (isD (revRen m turn sg c))).reverse))]) C.length _ (Wk.mask [0, 1, 2, 3, 4, 11, 13, 14, 65, 66, 67] ⟨0, by omega, by omega, rfl, by simp⟩) ?_
    rintro q fr s ⟨j, hj, hq, rfl, rfl⟩
    unfold csD
    rcases Nat.lt_or_ge j C.length with hlt | hge
    · have hd : decide ((j : Int) < (C.length : Int)) = true := by simp; omega
      have w2 := wrapS j (by omega)
      have g0 : List.getD (C.map isD) j default = isD (C.getD j []) := getD_mapD hlt
      obtain ⟨hcv, hcl⟩ := hCv _ (getD_mem [] hlt)
      have hst : (List.replicate (C.length - j) (A.d .nils) ++ ((C.take j).map fun c => A.d (isD (revRen m turn sg c))).reverse).set (C.length - 1 - j) (A.d (isD (revRen m turn sg (C.getD j [])))) = List.replicate (C.length - (j + 1)) (A.d .nils) ++ ((C.take (j + 1)).map fun c => A.d (isD (revRen m turn sg c))).reverse := by
        have e1 : C.length - j = C.length - 1 - j + 1 := by omega
        rw [e1, set_rev, take_getD [] hlt, List.map_append, List.reverse_append, show C.length - (j + 1) = C.length - 1 - j by omega]; rfl
      generalize C.getD j [] = c at g0 hcv hcl hst
      have v1 : IntKind.i64.wrap ((C.length : Int) - 1) = ((C.length - 1 : Nat) : Int) := by rw [wrap64_id _ (by omega) (by omega)]; omega
      have v2 : IntKind.i64.wrap (((C.length - 1 : Nat) : Int) - (j : Int)) = ((C.length - 1 - j : Nat) : Int) := by rw [wrap64_id _ (by omega) (by omega)]; omega
      simp only [go_sem, List.length_map, hd, g0, w2, v1, v2, isD, Try.results5]
      refine ⟨⟨by omega, by omega⟩, ac' (renamed_ac m turn sg ⟨hm0, hm⟩ hsg c (by omega) hcv _ _ _ ?_)⟩
      simp only [go_sem, List.length_map, hd, g0, w2, v1, v2, Try.results5]
      refine ac' (rev_ac (c.map (ren1 m turn sg)) (by rw [List.length_map]; omega) _ _ _ ?_)
      have hll : (List.replicate (C.length - j) (A.d .nils) ++ ((C.take j).map fun c => A.d (.sl 1 ((revRen m turn sg c).map iD))).reverse).length = C.length := by simp; omega
      simp only [go_sem, List.length_map, hd, g0, w2, v1, v2, isD, hll, Nat.mul_one, Try.results5]
      rw [set_take_A (by rw [hll]; omega)]
      refine ⟨⟨by omega, by omega⟩, by omega, Wk.mask [0, 1, 2, 3, 4, 11, 13, 14, 65, 66, 67] ⟨C.length - (j + 1), by omega, j + 1, by omega, rfl, rfl, congrArg (fun l => s0 ++ [some (Ob.cells l)]) hst⟩⟩
    · have hd : decide ((j : Int) < (C.length : Int)) = false := by simp; omega
      have htk : C.take j = C := List.take_of_length_le hge
      have hz : C.length - j = 0 := by omega
      have he : ((C.map fun c => A.d (isD (revRen m turn sg c))).reverse) = (otherC m turn sg C).map fun c => A.d (isD c) := by
        unfold otherC
        rw [List.map_reverse, List.map_map]; rfl
      simp only [go_sem, List.length_map, hd, htk, hz, List.replicate_zero, List.nil_append, he, Try.results5]
      refine Wk.via ((Weak.mask [0, 1, 2, 3, 4, 11, 13, 14]).trans (Weak.freeze s0.length 1 0 ((otherC m turn sg C).map isD) (by rw [List.getElem?_append_right (Nat.le_refl _), Nat.sub_self]; rfl) (lies_cs _))) (Wk.mask [0, 1, 2, 3, 4, 11, 13, 14] ?_)
      have hol : ((otherC m turn sg C).map isD).length = C.length := by unfold otherC; simp
      simp [maskN, frzL, A.frz, hol, csD]
  rintro fr s1 rfl
  have hoC : (otherC m turn sg C).length = C.length := by unfold otherC; simp
  have hov : ∀ c ∈ otherC m turn sg C, (∀ l ∈ c, LitV m l) ∧ c.length ≤ 1000000 := fun c hc => by
    obtain ⟨d, hd, rfl⟩ := List.mem_map.1 (List.mem_reverse.1 hc)
    refine ⟨fun l hl => ?_, by have := (hCv d hd).2; unfold revRen; rw [List.length_reverse, List.length_map]; omega⟩
    obtain ⟨x, hx, rfl⟩ := List.mem_map.1 (List.mem_reverse.1 hl)
    exact ren1_lit hm0
  have hCv' : ∀ c ∈ C, (∀ l ∈ c, LitV m l) ∧ c.length ≤ 1000000 := fun c hc => ⟨(hCv c hc).1, by have := (hCv c hc).2; omega⟩
  simp only [go_sem, Try.results5]
  refine aw_cut (fun fr s => ∃ I S J T, fr = [dn m, .d (csD C), .d (isD asm), .d (.int .u8 turn), .d (.int .u16 sg), .any, .any, .any, .any, .any, .any, .d (isD (permL m turn)), .any, .fn (.func 23) [] [], .any, .any, .any, .ref (I .st) 0, .ref (J .st) 0, .any, .any, .any, .any, .any, .any, .any, .any, .any, .any, .any, .any, .any, .any, .any, .any, .any, .any, .any, .any, .any, .any, .any, .any, .any, .any, .any, .any, .any, .any, .any, .any, .any, .any, .any, .any, .any, .any, .any, .any, .any, .any, .any, .any, .any, .any, .any, .any, .any, .any, .any, .any, .any, .any, .any, .any, .any, .any, .any, .any, .any, .any, .any, .any, .any, .any, .any, .any, .any, .any, .any, .any, .any, .any, .any, .any, .any, .any, .any, .any, .any, .any, .any, .any, .any, .any, .any, .any, .any, .any, .any, .any, .any, .any, .any, .any, .any, .any, .any, .any, .any, .any, .any, .any, .any] ∧ Duo s1 m 100 C 0 0 I S 100 (otherC m turn sg C) 0 0 J T s) ?_ ?_
  · simp only [go_sem, Try.results5]
    refine ac' (with_ac m (by omega) C (by omega) hCv' _ _ _ fun I s2 k1 k2 => ?_)
    obtain ⟨a1, a2, a3⟩ := addAll_cls m (by omega) C (by omega) hCv'
    have hI : Hed s1 m 100 C 0 0 I (addAll m C) s2 := ⟨k1, k2, ⟨a1.rest.mono (by omega), a1.vars, a1.cls⟩, by rw [a2]; exact Nat.le_refl _, by rw [a3]; exact Nat.le_refl _⟩
    simp only [go_sem, Try.results5]
    refine ac' (with_ac m (by omega) (otherC m turn sg C) (by omega) hov _ _ _ fun J s3 k3 k4 => ?_)
    obtain ⟨c1, c2, c3⟩ := addAll_cls m (by omega) (otherC m turn sg C) (by omega) hov
    simp only [go_sem, Try.results5]
    exact Wk.mask [0, 1, 2, 3, 4, 11, 13, 17, 18] ⟨I, _, J, _, rfl, duo_new hI k3 k4 ⟨c1.rest.mono (by omega), c1.vars, c1.cls⟩ (by rw [c2]; exact Nat.le_refl _) (by rw [c3]; exact Nat.le_refl _)⟩
  rintro fr s ⟨I, S, J, T, rfl, hD⟩
  simp only [go_sem, Try.results5]
  refine aw_cut (fun fr s => ∃ I S a, fr = [dn m, .d (csD C), .d (isD asm), .d (.int .u8 turn), .d (.int .u16 sg), .any, .any, .any, .any, .any, .any, .d (isD (permL m turn)), .any, .fn (.func 23) [] [], .any, .any, .any, .ref (I .st) 0, .ref (J .st) 0, di a, .any, .any, .any, .any, .any, .any, .any, .any, .any, .any, .any, .any, .any, .any, .any, .any, .any, .any, .any, .any, .any, .any, .any, .any, .any, .any, .any, .any, .any, .any, .any, .any, .any, .any, .any, .any, .any, .any, .any, .any, .any, .any, .any, .any, .any, .any, .any, .any, .any, .any, .any, .any, .any, .any, .any, .any, .any, .any, .any, .any, .any, .any, .any, .any, .any, .any, .any, .any, .any, .any, .any, .any, .any, .any, .any, .any, .any, .any, .any, .any, .any, .any, .any, .any, .any, .any, .any, .any, .any, .any, .any, .any, .any, .any, .any, .any, .any, .any, .any, .any, .any, .any, .any, .any] ∧ Duo s1 m 101 C 200000 4096 I S 100 (otherC m turn sg C) 0 0 J T s ∧ Vx C asm a S.steps.length ∧ a ≠ 0) ?_ ?_
  · simp only [go_sem, Try.results5]
    refine ac' (hed_solve hD.a (by omega) (by omega) (by omega) asm (by omega) hav 200000 (by decide) _ _ fun _ r _ k1 I' s' k2 k3 => ?_)
    have hvx := k1.vx (by rw [hD.a.cls.vars]; omega)
    rw [hD.a.cls.cls] at hvx
    have hD2 := hD.fst k3 k2
    have hst := hD2.a.steps
    have hy : r.2 ≠ 0 := fun e => by
      have := hvx.z e
      simp only [pmax] at this
      omega
    rw [← k3.st]
    simp only [go_sem, Try.results5]
    exact Wk.mask [0, 1, 2, 3, 4, 11, 13, 17, 18, 19] ⟨I', _, r.2, rfl, ⟨hD2.a.mono (by omega) (by omega) (by omega), hD2.b, hD2.d⟩, hvx, hy⟩
  clear hD I S
  rintro fr s ⟨I, S, a, rfl, hD, ha, ha0⟩
  simp only [go_sem, Try.results5]
  refine aw_cut (fun fr s => ∃ J T b, fr = [.any, .any, .any, .any, .any, .any, .any, .any, .any, .any, .any, .any, .any, .any, .any, .any, .any, .ref (I .st) 0, .ref (J .st) 0, di a, .any, di b, .any, .any, .any, .any, .any, .any, .any, .any, .any, .any, .any, .any, .any, .any, .any, .any, .any, .any, .any, .any, .any, .any, .any, .any, .any, .any, .any, .any, .any, .any, .any, .any, .any, .any, .any, .any, .any, .any, .any, .any, .any, .any, .any, .any, .any, .any, .any, .any, .any, .any, .any, .any, .any, .any, .any, .any, .any, .any, .any, .any, .any, .any, .any, .any, .any, .any, .any, .any, .any, .any, .any, .any, .any, .any, .any, .any, .any, .any, .any, .any, .any, .any, .any, .any, .any, .any, .any, .any, .any, .any, .any, .any, .any, .any, .any, .any, .any, .any, .any, .any, .any, .any] ∧ Duo s1 m 101 C 200000 4096 I S 101 (otherC m turn sg C) 200000 4096 J T s ∧ Vx (otherC m turn sg C) (revRen m turn sg asm) b T.steps.length ∧ b ≠ 0) ?_ ?_
  · simp only [go_sem, Try.results5]
    refine ac' (renamed_ac m turn sg ⟨hm0, hm⟩ hsg asm (by omega) hav _ _ _ ?_)
    simp only [go_sem, Try.results5]
    refine ac' (rev_ac (asm.map (ren1 m turn sg)) (by rw [List.length_map]; omega) _ _ _ ?_)
    simp only [go_sem, Try.results5]
    refine ac' (hed_solve hD.b (by omega) (by omega) (by omega) (revRen m turn sg asm) (by unfold revRen; rw [List.length_reverse, List.length_map]; omega) (fun l hl => by
      obtain ⟨x, hx, rfl⟩ := List.mem_map.1 (List.mem_reverse.1 hl)
      exact ren1_lit hm0) 200000 (by decide) _ _ fun _ r _ k1 I' s' k2 k3 => ?_)
    have hvx := k1.vx (by rw [hD.b.cls.vars]; omega)
    rw [hD.b.cls.cls] at hvx
    have hD2 := (hD.symm.fst k3 k2).symm
    have hst := hD2.b.steps
    have hy : r.2 ≠ 0 := fun e => by
      have := hvx.z e
      simp only [pmax] at this
      omega
    rw [← k3.st]
    simp only [go_sem, Try.results5]
    exact Wk.mask [17, 18, 19, 21] ⟨I', _, r.2, rfl, ⟨hD2.a, hD2.b.mono (by omega) (by omega) (by omega), hD2.d⟩, hvx, hy⟩
  clear hD J T
  rintro fr s ⟨J, T, b, rfl, hD, hb, hb0⟩
  have hiff := names_iff turn sg (n := m) (C := C) (asm := asm) (fun c hc => (hCv c hc).1) hav
  have hab : a = b := by
    by_cases hs : SatA C asm
    · rw [ha.yes ha0 hs, hb.yes hb0 (hiff.2 hs)]
    · rw [ha.no ha0 hs, hb.no hb0 (fun e => hs (hiff.1 e))]
  have hSz := hD.a.cls.rest.szs
  have hTz := hD.b.cls.rest.szs
  subst hab
  have z1 : (a == a) = true := by simp
  have z2 : (a != 0) = true := by simpa using ha0
  simp only [go_sem, z1, z2, Try.results5]
  refine ex' (.bool true) ⟨fun q => Bool.noConfusion q, ?_⟩
  simp only [go_sem, z1, z2, Try.results5]
  refine ex' (.bool true) ⟨fun q => Bool.noConfusion q, ?_⟩
  simp only [go_sem, z1, z2, Try.results5]
  exact ⟨_, _, Weak.refl _ _ _ _, h _⟩
end Go.Proofs.Ytnanofipjiclfaa
end PartX6
