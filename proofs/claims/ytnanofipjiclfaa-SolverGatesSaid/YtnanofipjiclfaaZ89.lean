import Derived.Test.YtnanofipjiclfaaZ88
import Derived.Test.YtnanofipjiclfaaZ81
import Derived.Test.YtnanofipjiclfaaAbFreeze

section PartX3
/- head. -/
set_option linter.unusedSimpArgs false
set_option linter.unusedVariables false
set_option maxRecDepth 100000
namespace Go.Proofs.Ytnanofipjiclfaa
open Go Go.Ab
variable {I : Sl → Nat} {S : Sv} {σ : St}

theorem nilA_asm {r : A} {F : Int} : NilAL [r, .d .nils, di F] [r, .d (isD []), di F] := NilAL.cons (.refl _) (NilAL.cons (.d (.nil 1)) (NilAL.cons (.refl _) .nil))
/-- A solver beside what was there; u, s bound the fuel used and the steps. -/
structure Hed (σ : St) (n M : Nat) (C : List (List Int)) (u s : Nat) (I : Sl → Nat) (S : Sv) (st : St) : Prop where
  hs : Hs σ.length I S st
  old : Old σ st
  cls : Cls M n C S
  used : S.used ≤ u
  steps : S.steps.length ≤ s
theorem Hed.step {n M M' : Nat} {C C' : List (List Int)} {u s u' s' : Nat} {X : Sl → Prop} {I' : Sl → Nat} {S' : Sv} {st st' : St} (h : Hed σ n M C u s I S st) (k : Stp X I S st I' st') (hs : Sol I' S' st') (hc : Cls M' n C' S') (hu : S'.used ≤ u') (hst : S'.steps.length ≤ s') : Hed σ n M' C' u' s' I' S' st' :=
  ⟨h.hs.step h.old.len k hs (h.cls.has hc), k.cut h.hs.low h.old, hc, hu, hst⟩
theorem hed_solveG {n M : Nat} {C : List (List Int)} {u s : Nat} {st : St} (hH : Hed σ n M C u s I S st) (hM : M ≤ 900000) (hu : u ≤ 100000000000) (hn : n ≤ 12) (asm : List Int) (hal : asm.length ≤ 1000000) (hv : ∀ l ∈ asm, LitV n l) (F : Nat) (hF : F ≤ 1000000) (G : Glob) (R : A → St → Prop)
    (h : ∀ m r, m = pot n (S.head asm F) false + 1 + 8000000 → Sv.srch (S.start asm F).2 m (S.head asm F) 0 0 = some r → Slv n M asm F S (r.1.finish F) r.2 → ∀ I' st', Hed σ n (M + 1) C (u + F) (s + 2 ^ n) I' (r.1.finish F) st' → Stp Any I S st I' st' → R (.tup [di r.2, di 0]) st') : AC Try.prog G 13 [.ref (I .st) 0, .d (isD asm), dn F] st R := by
  have hvs := hH.cls.vars
  refine solve_rest hH.hs.sol hH.cls hM (by have := hH.used; omega) hn (by have := inp_all S; rw [hvs] at this; exact this) asm hal (fun l _ hl => by unfold LitV at hl; unfold vr; omega) F G R (fun e => by omega) (fun e => ?_) fun F' hF' _ hval m r hm hr k1 k2 I' st' k3 k4 => ?_
  · rw [(valid_all hvs).2 hv] at e; cases e
  · obtain rfl : F = F' := by omega
    exact h m r hm hr k1 I' st' (hH.step k4 k3 k2 (by have := k1.used2; have := hH.used; omega) (by have := k1.steps; have := hH.steps; omega)) k4
theorem hed_solve {n M : Nat} {C : List (List Int)} {u s : Nat} {st : St} (hH : Hed σ n M C u s I S st) (hM : M ≤ 900000) (hu : u ≤ 100000000000) (hn : n ≤ 12) (asm : List Int) (hal : asm.length ≤ 1000000) (hv : ∀ l ∈ asm, LitV n l) (F : Nat) (hF : F ≤ 1000000) (G : Glob) (R : A → St → Prop)
    (h : ∀ m r, Sv.srch (S.start asm F).2 m (S.head asm F) 0 0 = some r → Slv n M asm F S (r.1.finish F) r.2 → ∀ I' st', Hed σ n (M + 1) C (u + F) (s + 2 ^ n) I' (r.1.finish F) st' → Stp Any I S st I' st' → R (.tup [di r.2, di 0]) st') : AC Try.prog G 13 [.ref (I .st) 0, .d (isD asm), dn F] st R :=
  hed_solveG hH hM hu hn asm hal hv F hF G R fun m r _ => h m r
theorem hed_add {n M : Nat} {C : List (List Int)} {u s : Nat} {st : St} (hH : Hed σ n M C u s I S st) (hM : M ≤ 1000000) (c : List Int) (hc : c.length ≤ 1000000) (hC : C.length < 40000) (hv : ∀ l ∈ c, LitV n l) (G : Glob) (R : A → St → Prop)
    (h : ∀ I' st', Hed σ n (M + 1) (C ++ [c]) u s I' (S.add c) st' → Stp Any I S st I' st' → R (di 0) st') : AC Try.prog G 12 [.ref (I .st) 0, .d (isD c)] st R := by
  have hvs := hH.cls.vars
  refine add_rest hH.hs.sol hH.cls hM c hc hC G R (fun e => ?_) fun _ I' st' k1 k2 => ?_
  · rw [(valid_all hvs).2 hv] at e; cases e
  · obtain ⟨h1, h2, h3⟩ := hH.cls.add hv hc hC
    exact h I' st' (hH.step k2 k1 h1 (by rw [h2]; exact hH.used) (by rw [h3]; exact hH.steps)) k2
/-- More objects behind. -/
theorem Hed.app {n M : Nat} {C : List (List Int)} {u s : Nat} {st : St} (h : Hed σ n M C u s I S st) (l : St) : Hed σ n M C u s I S (st ++ l) := ⟨⟨h.hs.sol.app l, h.hs.low⟩, h.old.trans (old_app st l), h.cls, h.used, h.steps⟩
theorem hd0_ok : ∀ c ∈ hd0, (∀ l ∈ c, LitV 2 l) ∧ c.length ≤ 1000000 := by
  unfold hd0 LitV; decide
set_option maxHeartbeats 4000000 in
theorem head_ac (σ : St) (G : Glob) (R : A → St → Prop) (h : R (db true) σ) : AC Try.prog G 9 [] σ R := by
  refine ac_enterC [2, 3, 4, 6, 7, 8, 10, 11, 12, 13, 14, 15] mixed Try.func9 rfl Try.ntmps9 (by simp only [go_sem]) fun hbd => ?_
  simp only [List.length_cons, List.length_nil, Nat.reduceAdd, Nat.reduceSub, List.replicate_succ, List.replicate_zero, List.cons_append, List.nil_append]
  simp only [go_sem]
  refine aw_cut (fun fr st => ∃ I S, fr = [.any, .ref (I .st) 0, .any, .any, .any, .any, .any, .any, .any, .any, .any, .any, .any, .any, .any, .any, .any, .any, .any, .any, .any, .any, .any, .any, .any, .any, .any, .any, .any, .any, .any, .any, .any, .any, .any, .any, .any, .any, .any, .any, .any, .any, .any, .any, .any, .any, .any, .any, .any, .any, .any, .any, .any, .any, .any, .any, .any, .any, .any, .any, .any, .any, .any, .any, .any, .any, .any, .any, .any, .any, .any, .any, .any, .any, .any, .any, .any, .any, .any, .any, .any, .any, .any, .any, .any, .any, .any, .any, .any, .any, .any, .any, .any, .any, .any, .any, .any, .any, .any, .any, .any, .any, .any, .any, .any, .any, .any, .any, .any, .any, .any, .any, .any, .any, .any, .any, .any, .any, .any, .any, .any, .any, .any, .any, .any, .any, .any, .any, .any, .any, .any, .any, .any, .any, .any, .any, .any, .any, .any, .any, .any, .any, .any, .any, .any, .any, .any, .any, .any, .any, .any, .any, .any, .any] ∧ Hed σ 2 3 hd0 0 0 I S st) ?_ ?_
  · simp only [go_sem]
    refine ac' (ac_weak (Weak.deep [0, 1, 2, 3] 5) ?_)
    simp only [go_sem]
    refine with_ac 2 (by decide) hd0 (by decide) hd0_ok _ _ _ fun I σ' k1 k2 => ?_
    obtain ⟨a1, a2, a3⟩ := addAll_cls 2 (by decide) hd0 (by decide) hd0_ok
    exact Wk.mask [1] ⟨I, _, rfl, k1.weak (by simp), (old_app σ _).trans k2, a1, by rw [a2]; exact Nat.le_refl _, by rw [a3]; exact Nat.le_refl _⟩
  rintro fr st ⟨I, S, rfl, hH⟩
  simp only [go_sem]
  refine aw_cut (fun fr st => ∃ I S, fr = [.any, .ref (I .st) 0, di 1, di 0, .any, .any, .any, .any, .any, .any, .any, .any, .any, .any, .any, .any, .any, .any, .any, .any, .any, .any, .any, .any, .any, .any, .any, .any, .any, .any, .any, .any, .any, .any, .any, .any, .any, .any, .any, .any, .any, .any, .any, .any, .any, .any, .any, .any, .any, .any, .any, .any, .any, .any, .any, .any, .any, .any, .any, .any, .any, .any, .any, .any, .any, .any, .any, .any, .any, .any, .any, .any, .any, .any, .any, .any, .any, .any, .any, .any, .any, .any, .any, .any, .any, .any, .any, .any, .any, .any, .any, .any, .any, .any, .any, .any, .any, .any, .any, .any, .any, .any, .any, .any, .any, .any, .any, .any, .any, .any, .any, .any, .any, .any, .any, .any, .any, .any, .any, .any, .any, .any, .any, .any, .any, .any, .any, .any, .any, .any, .any, .any, .any, .any, .any, .any, .any, .any, .any, .any, .any, .any, .any, .any, .any, .any, .any, .any, .any, .any, .any, .any, .any, .any] ∧ Hed σ 2 4 hd0 200000 4 I S st ∧ S.refuted = false ∧ S.satisfied = true ∧ S.values.length = 2 ∧ SatC (βV S.values) hd0) ?_ ?_
  · simp only [go_sem]
    refine ac' (ac_weak (Weak.nils nilA_asm) ?_)
    refine hed_solve hH (by decide) (by decide) (by decide) [] (by decide) (fun l hl => by cases hl) 200000 (by decide) _ _ fun m r hr k1 I' st' k2 k3 => ?_
    have hv1 : r.2 = 1 := k1.isYes (k1.done (by rw [hH.cls.vars]; decide) (by have := k2.steps; simp only [pmax]; omega)) (by rw [hH.cls.cls]; exact hd0_yes)
    obtain ⟨y1, y2, y3, y4, -⟩ := k1.yes hv1
    rw [hH.cls.vars] at y3
    rw [hH.cls.cls] at y4
    rw [hv1, ← k3.st]
    simp only [go_sem]
    exact Wk.mask [1, 2, 3] ⟨I', _, rfl, k2, y1, y2, y3, y4⟩
  clear hH
  rintro fr st ⟨I, S, rfl, hH, y1, y2, y3, y4⟩
  have hv : valsM S = [true, true] := by
    unfold valsM
    rw [y2, if_pos rfl]
    obtain ⟨h1, h2⟩ := hd0_iff.1 y4
    unfold βV at h1 h2
    match hvs : S.values, y3 with
    | [a, b], _ =>
      rw [hvs] at h1 h2
      have e1 : a = true := h1
      have e2 : b = true := h2
      rw [e1, e2]
  have hcr : coreM S = [] := by unfold coreM; rw [y1]; rfl
  simp only [go_sem]
  refine aw_cut (fun fr st' => fr = [.any, .ref (I .st) 0, di 1, di 0, .d (.sl 1 [.bool true, .bool true]), .any, .any, .any, .any, .any, .any, .any, .any, .any, .any, .any, .any, .any, .any, .any, .any, .any, .any, .any, .any, .any, .any, .any, .any, .any, .any, .any, .any, .any, .any, .any, .any, .any, .any, .any, .any, .any, .any, .any, .any, .any, .any, .any, .any, .any, .any, .any, .any, .any, .any, .any, .any, .any, .any, .any, .any, .any, .any, .any, .any, .any, .any, .any, .any, .any, .any, .any, .any, .any, .any, .any, .any, .any, .any, .any, .any, .any, .any, .any, .any, .any, .any, .any, .any, .any, .any, .any, .any, .any, .any, .any, .any, .any, .any, .any, .any, .any, .any, .any, .any, .any, .any, .any, .any, .any, .any, .any, .any, .any, .any, .any, .any, .any, .any, .any, .any, .any, .any, .any, .any, .any, .any, .any, .any, .any, .any, .any, .any, .any, .any, .any, .any, .any, .any, .any, .any, .any, .any, .any, .any, .any, .any, .any, .any, .any, .any, .any, .any, .any] ∧ st' = st) ?_ ?_
  · simp only [go_sem]
    refine ac' (values_ac hH.hs.sol (fun _ => by omega) _ _ ?_)
    rw [hv]
    simp only [go_sem]
    exact Wk.mask [1, 2, 3, 4] ⟨rfl, rfl⟩
  rintro fr st' ⟨rfl, rfl⟩
  have q1 : ((1 : Int) != 1) = false := rfl
  have q0 : ((0 : Int) != 0) = false := rfl
  have q2 : (((2 : Nat) : Int) != 2) = false := rfl
  have e1 : List.getD [D.bool true, D.bool true] (Int.toNat 0) default = .bool true := rfl
  have e2 : List.getD [D.bool true, D.bool true] (Int.toNat 1) default = .bool true := rfl
  simp only [go_sem]
  refine aw_cut (fun fr st => fr = [.any, .ref (I .st) 0, .any, .any, .any, .any, .any, .any, .any, .any, .any, .any, .any, .any, .any, .any, .any, .any, .any, .any, .any, .any, .any, .any, .any, .any, .any, .any, .any, .any, .any, .any, .any, .any, .any, .any, .any, .any, .any, .any, .any, .any, .any, .any, .any, .any, .any, .any, .any, .any, .any, .any, .any, .any, .any, .any, .any, .any, .any, .any, .any, .any, .any, .any, .any, .any, .any, .any, .any, .any, .any, .any, .any, .any, .any, .any, .any, .any, .any, .any, .any, .any, .any, .any, .any, .any, .any, .any, .any, .any, .any, .any, .any, .any, .any, .any, .any, .any, .any, .any, .any, .any, .any, .any, .any, .any, .any, .any, .any, .any, .any, .any, .any, .any, .any, .any, .any, .any, .any, .any, .any, .any, .any, .any, .any, .any, .any, .any, .any, .any, .any, .any, .any, .any, .any, .any, .any, .any, .any, .any, .any, .any, .any, .any, .any, .any, .any, .any, .any, .any, .any, .any, .any, .any] ∧ st = st') ?_ ?_
  · simp only [go_sem, q1, q0, q2, e1, e2]
    refine ⟨⟨by omega, by omega⟩, ⟨by omega, by omega⟩, ex' (isD []) ⟨fun q => ?_, ?_⟩⟩
    · simp only [go_sem]
      refine ac' (core_ac hH.hs.sol (fun e => by rw [y1] at e; cases e) _ _ ?_)
      rw [hcr]
      exact And.intro rfl rfl
    have q3 : (((0 : Nat) : Int) != 0) = false := rfl
    simp only [isD, List.map_nil, go_sem, q1, q0, q2, q3, e1, e2]
    exact Wk.mask [1] ⟨rfl, rfl⟩
  clear hv hcr y1 y2 y3 y4
  rintro fr st ⟨rfl, rfl⟩
  simp only [go_sem]
  refine aw_cut (fun fr st => ∃ I S, fr = [.any, .ref (I .st) 0, .any, di 0, .any, di 2, .any, .any, .any, .any, .any, .any, .any, .any, .any, .any, .any, .any, .any, .any, .any, .any, .any, .any, .any, .any, .any, .any, .any, .any, .any, .any, .any, .any, .any, .any, .any, .any, .any, .any, .any, .any, .any, .any, .any, .any, .any, .any, .any, .any, .any, .any, .any, .any, .any, .any, .any, .any, .any, .any, .any, .any, .any, .any, .any, .any, .any, .any, .any, .any, .any, .any, .any, .any, .any, .any, .any, .any, .any, .any, .any, .any, .any, .any, .any, .any, .any, .any, .any, .any, .any, .any, .any, .any, .any, .any, .any, .any, .any, .any, .any, .any, .any, .any, .any, .any, .any, .any, .any, .any, .any, .any, .any, .any, .any, .any, .any, .any, .any, .any, .any, .any, .any, .any, .any, .any, .any, .any, .any, .any, .any, .any, .any, .any, .any, .any, .any, .any, .any, .any, .any, .any, .any, .any, .any, .any, .any, .any, .any, .any, .any, .any, .any, .any] ∧ Hed σ 2 5 hd0 400000 8 I S st ∧ S.refuted = true ∧ S.satisfied = false ∧ S.core.length ≤ 13 ∧ S.core.Nodup ∧ S.core ≠ []) ?_ ?_
  · simp only [go_sem]
    refine ac' (ac_weak (Weak.deep [0] 3) ?_)
    simp only [go_sem]
    refine hed_solve (hH.app [none]) (by decide) (by decide) (by decide) [-2, 1, -2] (by decide) (by unfold LitV; decide) 200000 (by decide) _ _ fun m r hr k1 I' st' k2 k3 => ?_
    have hv1 : r.2 = 2 := k1.isNo (k1.done (by rw [hH.cls.vars]; decide) (by have := k2.steps; simp only [pmax]; omega)) (by rw [hH.cls.cls]; exact hd0_no)
    obtain ⟨y1, y2, y3, y4, y5, y6, y7⟩ := k1.no hv1
    rw [hH.cls.cls] at y6
    rw [hv1, ← k3.st]
    simp only [go_sem]
    exact Wk.mask [1, 3, 5] ⟨I', _, rfl, k2, y1, y2, y4, y5, fun e => y6 (by rw [e]; exact hd0_yes)⟩
  clear hH
  rintro fr st ⟨I, S, rfl, hH, y1, y2, y3, y4, y5⟩
  have hcr : coreM S = S.core := by unfold coreM; rw [y1]; rfl
  have hv : valsM S = [] := by unfold valsM; rw [y2]; rfl
  simp only [go_sem]
  refine aw_cut (fun fr st' => fr = [.any, .ref (I .st) 0, .any, di 0, .any, di 2, .d (isD S.core), .any, .any, .any, .any, .any, .any, .any, .any, .any, .any, .any, .any, .any, .any, .any, .any, .any, .any, .any, .any, .any, .any, .any, .any, .any, .any, .any, .any, .any, .any, .any, .any, .any, .any, .any, .any, .any, .any, .any, .any, .any, .any, .any, .any, .any, .any, .any, .any, .any, .any, .any, .any, .any, .any, .any, .any, .any, .any, .any, .any, .any, .any, .any, .any, .any, .any, .any, .any, .any, .any, .any, .any, .any, .any, .any, .any, .any, .any, .any, .any, .any, .any, .any, .any, .any, .any, .any, .any, .any, .any, .any, .any, .any, .any, .any, .any, .any, .any, .any, .any, .any, .any, .any, .any, .any, .any, .any, .any, .any, .any, .any, .any, .any, .any, .any, .any, .any, .any, .any, .any, .any, .any, .any, .any, .any, .any, .any, .any, .any, .any, .any, .any, .any, .any, .any, .any, .any, .any, .any, .any, .any, .any, .any, .any, .any, .any, .any] ∧ st' = st) ?_ ?_
  · simp only [go_sem]
    refine ac' (core_ac hH.hs.sol (fun _ => by omega) _ _ ?_)
    rw [hcr]
    simp only [go_sem]
    exact Wk.mask [1, 3, 5, 6] ⟨rfl, rfl⟩
  rintro fr st' ⟨rfl, rfl⟩
  simp only [go_sem]
  refine aw_cut (fun fr st => fr = [.any, .ref (I .st) 0, .any, .any, .any, .any, .any, .any, .any, .any, .any, .any, .any, .any, .any, .any, .any, .any, .any, .any, .any, .any, .any, .any, .any, .any, .any, .any, .any, .any, .any, .any, .any, .any, .any, .any, .any, .any, .any, .any, .any, .any, .any, .any, .any, .any, .any, .any, .any, .any, .any, .any, .any, .any, .any, .any, .any, .any, .any, .any, .any, .any, .any, .any, .any, .any, .any, .any, .any, .any, .any, .any, .any, .any, .any, .any, .any, .any, .any, .any, .any, .any, .any, .any, .any, .any, .any, .any, .any, .any, .any, .any, .any, .any, .any, .any, .any, .any, .any, .any, .any, .any, .any, .any, .any, .any, .any, .any, .any, .any, .any, .any, .any, .any, .any, .any, .any, .any, .any, .any, .any, .any, .any, .any, .any, .any, .any, .any, .any, .any, .any, .any, .any, .any, .any, .any, .any, .any, .any, .any, .any, .any, .any, .any, .any, .any, .any, .any, .any, .any, .any, .any, .any, .any] ∧ st = st') ?_ ?_
  · have q4 : ((S.core.length : Int) == 0) = false := by
      rw [beq_eq_false_iff_ne]
      intro e
      exact y5 (List.eq_nil_of_length_eq_zero (by omega))
    have q5 : ((2 : Int) != 2) = false := rfl
    unfold isD
    simp only [go_sem, q0, q4, q5, List.length_map]
    refine ex' (.bool true) ⟨fun q => ?_, ?_⟩
    · simp only [go_sem]
      refine ac' (distinct_ac S.core (by omega) _ _ _ ?_)
      rw [decide_eq_true y4]
      exact And.intro rfl rfl
    simp only [go_sem, q0, q4, q5, List.length_map]
    refine ex' (bsD []) ⟨fun q => ?_, ?_⟩
    · simp only [go_sem]
      refine ac' (values_ac hH.hs.sol (fun e => by rw [y2] at e; cases e) _ _ ?_)
      rw [hv]
      exact And.intro rfl rfl
    have q3 : (((0 : Nat) : Int) != 0) = false := rfl
    simp only [bsD, List.map_nil, go_sem, q0, q3, q4, q5, List.length_map]
    exact Wk.mask [1] ⟨rfl, rfl⟩
  clear hv hcr y1 y2 y3 y4 y5
  rintro fr st ⟨rfl, rfl⟩
  simp only [go_sem]
  refine aw_cut (fun fr st => ∃ I S, fr = [.any, .ref (I .st) 0, .any, .any, .any, .any, .any, di 0, .any, .any, .any, .any, .any, .any, .any, .any, .any, .any, .any, .any, .any, .any, .any, .any, .any, .any, .any, .any, .any, .any, .any, .any, .any, .any, .any, .any, .any, .any, .any, .any, .any, .any, .any, .any, .any, .any, .any, .any, .any, .any, .any, .any, .any, .any, .any, .any, .any, .any, .any, .any, .any, .any, .any, .any, .any, .any, .any, .any, .any, .any, .any, .any, .any, .any, .any, .any, .any, .any, .any, .any, .any, .any, .any, .any, .any, .any, .any, .any, .any, .any, .any, .any, .any, .any, .any, .any, .any, .any, .any, .any, .any, .any, .any, .any, .any, .any, .any, .any, .any, .any, .any, .any, .any, .any, .any, .any, .any, .any, .any, .any, .any, .any, .any, .any, .any, .any, .any, .any, .any, .any, .any, .any, .any, .any, .any, .any, .any, .any, .any, .any, .any, .any, .any, .any, .any, .any, .any, .any, .any, .any, .any, .any, .any, .any] ∧ Hed σ 2 6 hd1 400000 8 I S st) ?_ ?_
  · simp only [go_sem]
    refine ac' (ac_weak (Weak.deep [0] 3) ?_)
    simp only [go_sem]
    refine hed_add (hH.app [none]) (by decide) [-1, -2, -1] (by decide) (by decide) (by unfold LitV; decide) _ _ fun I' st' k2 k3 => ?_
    rw [← k3.st]
    exact Wk.mask [1, 7] ⟨I', _, rfl, k2⟩
  clear hH
  rintro fr st ⟨I, S, rfl, hH⟩
  simp only [go_sem]
  refine aw_cut (fun fr st => fr = [.any, .ref (I .st) 0, .any, .any, .any, .any, .any, di 0, di 210, .any, .any, .any, .any, .any, .any, .any, .any, .any, .any, .any, .any, .any, .any, .any, .any, .any, .any, .any, .any, .any, .any, .any, .any, .any, .any, .any, .any, .any, .any, .any, .any, .any, .any, .any, .any, .any, .any, .any, .any, .any, .any, .any, .any, .any, .any, .any, .any, .any, .any, .any, .any, .any, .any, .any, .any, .any, .any, .any, .any, .any, .any, .any, .any, .any, .any, .any, .any, .any, .any, .any, .any, .any, .any, .any, .any, .any, .any, .any, .any, .any, .any, .any, .any, .any, .any, .any, .any, .any, .any, .any, .any, .any, .any, .any, .any, .any, .any, .any, .any, .any, .any, .any, .any, .any, .any, .any, .any, .any, .any, .any, .any, .any, .any, .any, .any, .any, .any, .any, .any, .any, .any, .any, .any, .any, .any, .any, .any, .any, .any, .any, .any, .any, .any, .any, .any, .any, .any, .any, .any, .any, .any, .any, .any, .any] ∧ Hed σ 2 6 hd1 400000 8 I S st) ?_ ?_
  · simp only [go_sem]
    refine ac' (ac_weak (Weak.deep [0] 3) ?_)
    simp only [go_sem]
    refine add_rest (hH.app [none]).hs.sol hH.cls (by decide) [3] (by decide) (by decide) _ _ (fun e => ?_) fun e => ?_
    · exact Wk.mask [1, 7, 8] ⟨rfl, hH.app [none]⟩
    · have := (valid_all hH.cls.vars).1 e 3 (by simp)
      unfold LitV at this; omega
  rintro fr st ⟨rfl, hH⟩
  simp only [go_sem]
  refine aw_cut (fun fr st => ∃ I S, fr = [.any, .ref (I .st) 0, .any, di 0, .any, .any, .any, di 0, di 210, di 2, .any, .any, .any, .any, .any, .any, .any, .any, .any, .any, .any, .any, .any, .any, .any, .any, .any, .any, .any, .any, .any, .any, .any, .any, .any, .any, .any, .any, .any, .any, .any, .any, .any, .any, .any, .any, .any, .any, .any, .any, .any, .any, .any, .any, .any, .any, .any, .any, .any, .any, .any, .any, .any, .any, .any, .any, .any, .any, .any, .any, .any, .any, .any, .any, .any, .any, .any, .any, .any, .any, .any, .any, .any, .any, .any, .any, .any, .any, .any, .any, .any, .any, .any, .any, .any, .any, .any, .any, .any, .any, .any, .any, .any, .any, .any, .any, .any, .any, .any, .any, .any, .any, .any, .any, .any, .any, .any, .any, .any, .any, .any, .any, .any, .any, .any, .any, .any, .any, .any, .any, .any, .any, .any, .any, .any, .any, .any, .any, .any, .any, .any, .any, .any, .any, .any, .any, .any, .any, .any, .any, .any, .any, .any, .any] ∧ Hed σ 2 7 hd1 600000 12 I S st ∧ S.refuted = true ∧ S.core = [] ∧ 0 < S.steps.length ∧ (S.steps.getD (S.steps.length - 1) ([], [])).1 = []) ?_ ?_
  · simp only [go_sem]
    refine ac' (ac_weak (Weak.nils nilA_asm) ?_)
    refine hed_solve hH (by decide) (by decide) (by decide) [] (by decide) (fun l hl => by cases hl) 200000 (by decide) _ _ fun m r hr k1 I' st' k2 k3 => ?_
    have hv1 : r.2 = 2 := k1.isNo (k1.done (by rw [hH.cls.vars]; decide) (by have := k2.steps; simp only [pmax]; omega)) (by rw [hH.cls.cls]; exact hd1_no)
    obtain ⟨y1, y2, y3, y4, y5, y6, y7⟩ := k1.no hv1
    have hc : (r.1.finish 200000).core = [] := List.eq_nil_iff_forall_not_mem.2 fun x hx => by cases y3 x hx
    rw [hc] at y7
    rcases y7 with ⟨l, hl, -⟩ | ⟨y7, y8⟩
    · cases hl
    rw [hv1, ← k3.st]
    simp only [go_sem]
    exact Wk.mask [1, 3, 7, 8, 9] ⟨I', _, rfl, k2, y1, hc, y7, List.perm_nil.1 y8⟩
  clear hH
  rintro fr st ⟨I, S, rfl, hH, y1, y2, y3, y4⟩
  have hz := hH.cls.rest.szs
  simp only [go_sem]
  refine aw_cut (fun fr st' => fr = [.any, .ref (I .st) 0, .any, di 0, .any, .any, .any, di 0, di 210, di 2, .d (prfD (proofM S)), .any, .any, .any, .any, .any, .any, .any, .any, .any, .any, .any, .any, .any, .any, .any, .any, .any, .any, .any, .any, .any, .any, .any, .any, .any, .any, .any, .any, .any, .any, .any, .any, .any, .any, .any, .any, .any, .any, .any, .any, .any, .any, .any, .any, .any, .any, .any, .any, .any, .any, .any, .any, .any, .any, .any, .any, .any, .any, .any, .any, .any, .any, .any, .any, .any, .any, .any, .any, .any, .any, .any, .any, .any, .any, .any, .any, .any, .any, .any, .any, .any, .any, .any, .any, .any, .any, .any, .any, .any, .any, .any, .any, .any, .any, .any, .any, .any, .any, .any, .any, .any, .any, .any, .any, .any, .any, .any, .any, .any, .any, .any, .any, .any, .any, .any, .any, .any, .any, .any, .any, .any, .any, .any, .any, .any, .any, .any, .any, .any, .any, .any, .any, .any, .any, .any, .any, .any, .any, .any, .any, .any, .any, .any] ∧ st' = st) ?_ ?_
  · simp only [go_sem]
    refine ac' (proof_ac hH.hs.sol hz.1 hz.2.1 hz.2.2 _ _ ?_)
    simp only [go_sem]
    exact Wk.mask [1, 3, 7, 8, 9, 10] ⟨rfl, rfl⟩
  rintro fr st' ⟨rfl, rfl⟩
  simp only [go_sem]
  refine aw_cut (fun fr st => fr = [.any, .ref (I .st) 0, .any, di 0, .any, .any, .any, di 0, di 210, di 2, .d (prfD (proofM S)), di 1, di 0, .any, .any, .any, .any, .any, .any, .any, .any, .any, .any, .any, .any, .any, .any, .any, .any, .any, .any, .any, .any, .any, .any, .any, .any, .any, .any, .any, .any, .any, .any, .any, .any, .any, .any, .any, .any, .any, .any, .any, .any, .any, .any, .any, .any, .any, .any, .any, .any, .any, .any, .any, .any, .any, .any, .any, .any, .any, .any, .any, .any, .any, .any, .any, .any, .any, .any, .any, .any, .any, .any, .any, .any, .any, .any, .any, .any, .any, .any, .any, .any, .any, .any, .any, .any, .any, .any, .any, .any, .any, .any, .any, .any, .any, .any, .any, .any, .any, .any, .any, .any, .any, .any, .any, .any, .any, .any, .any, .any, .any, .any, .any, .any, .any, .any, .any, .any, .any, .any, .any, .any, .any, .any, .any, .any, .any, .any, .any, .any, .any, .any, .any, .any, .any, .any, .any, .any, .any, .any, .any, .any, .any] ∧ Hed σ 2 7 hd1 600000 12 I S st) ?_ ?_
  · simp only [go_sem]
    refine ac' (ac_weak (Weak.nils (show NilAL [di ((0 : Nat) : Int), .d .nils] [di ((0 : Nat) : Int), .d (csD [])] from NilAL.cons (.refl _) (NilAL.cons (.d (.nil 1)) .nil))) ?_)
    refine with_ac 0 (by decide) [] (by decide) (fun c hc => by cases hc) _ _ _ fun J st2 k1 k2 => ?_
    obtain ⟨a1, a2, a3⟩ := addAll_cls 0 (by decide) [] (by decide) (fun c hc => by cases hc)
    have hT : Two J (addAll 0 []) I S st2 := ⟨k1.sol, ⟨fun s hs => by rw [k2.eq _ (hH.hs.sol.lt s hs)]; exact hH.hs.sol.get s hs, hH.hs.sol.inj⟩, fun s t hs ht e => by have := k1.low s hs; have := hH.hs.sol.lt t ht; omega⟩
    have hJ : Hed st' 0 0 [] 0 0 J (addAll 0 []) st2 := ⟨k1, k2, a1, by rw [a2]; exact Nat.le_refl _, by rw [a3]; exact Nat.le_refl _⟩
    simp only [go_sem]
    refine ac' (ac_weak (Weak.nils nilA_asm) ?_)
    refine hed_solve hJ (by decide) (by decide) (by decide) [] (by decide) (fun l hl => by cases hl) 200000 (by decide) _ _ fun m r hr k3 J' st3 k4 k5 => ?_
    have hv1 : r.2 = 1 := k3.isYes (k3.done (by rw [a1.vars]; decide) (by have := k4.steps; simp only [pmax]; omega)) (by rw [a1.cls]; exact nil_yes)
    rw [hv1]
    have hT2 := hT.fst k5 k4.hs.sol (a1.has k4.cls)
    simp only [go_sem]
    exact Wk.mask [1, 3, 7, 8, 9, 10, 11, 12] ⟨rfl, ⟨hT2.b, hH.hs.low⟩, hH.old.trans k4.old, hH.cls, hH.used, hH.steps⟩
  rintro fr st ⟨rfl, hH⟩
  have hcr : coreM S = [] := by unfold coreM; rw [y1]; exact y2
  have hpl : (proofM S).length = S.steps.length := by unfold proofM; simp
  have hpe : (proofM S).getD (S.steps.length - 1) ([], []) = ([], ((S.steps.getD (S.steps.length - 1) ([], [])).2.map (shiftH S.added.length))) := by
    unfold proofM
    rw [List.getD_eq_getElem?_getD, List.getElem?_map, List.getElem?_eq_getElem (by omega)]
    have := y4
    rw [List.getD_eq_getElem?_getD, List.getElem?_eq_getElem (by omega)] at this ⊢
    simp only [Option.map_some, Option.getD_some] at this ⊢
    rw [this]
  have g0 : List.getD ((proofM S).map lnD) (S.steps.length - 1) default = lnD ((proofM S).getD (S.steps.length - 1) ([], [])) := getD_mapD (by omega)
  rw [hpe] at g0
  have hle := hz.1
  have w1 : IntKind.i64.wrap ((S.steps.length : Int) - 1) = ((S.steps.length - 1 : Nat) : Int) := by rw [wrap64_id _ (by omega) (by omega)]; omega
  have z0 : ((0 : Int) == 0) = true := rfl
  have z1 : ((210 : Int) == 210) = true := rfl
  have z2 : ((2 : Int) == 2) = true := rfl
  have z3 : (((0 : Nat) : Int) == 0) = true := rfl
  have z4 : decide ((0 : Int) < (S.steps.length : Int)) = true := decide_eq_true (by omega)
  have z5 : ((1 : Int) == 1) = true := rfl
  unfold prfD
  simp only [go_sem, z0, z1, z2, z3, z4, z5]
  refine ex' (isD []) ⟨fun q => ?_, ?_⟩
  · simp only [go_sem]
    refine ac' (core_ac hH.hs.sol (fun _ => by rw [y2]; decide) _ _ ?_)
    rw [hcr]
    exact And.intro rfl rfl
  simp only [isD, List.map_nil, go_sem, List.length_map, hpl, g0, lnD, w1, z0, z1, z2, z3, z4, z5]
  refine ⟨⟨by omega, by omega⟩, ex' .nilp ⟨fun q => ?_, ?_⟩⟩
  · simp only [go_sem]
    refine ac' (new_nil (-1) (Or.inl (by decide)) _ _ _ ?_)
    exact And.intro rfl rfl
  simp only [isD, List.map_nil, go_sem, List.length_map, hpl, g0, lnD, w1, z0, z1, z2, z3, z4, z5]
  refine ex' .nilp ⟨fun q => ?_, ?_⟩
  · simp only [go_sem]
    refine ac' (new_nil 8001 (Or.inr (by decide)) _ _ _ ?_)
    exact And.intro rfl rfl
  simp only [isD, List.map_nil, go_sem, List.length_map, hpl, g0, lnD, w1, z0, z1, z2, z3, z4, z5, Try.results9]
  exact ret_old hbd hH.old h
end Go.Proofs.Ytnanofipjiclfaa
end PartX3

section PartX4
/- SolverIncrements. -/
set_option linter.unusedSimpArgs false
set_option linter.unusedVariables false
set_option maxRecDepth 100000
namespace Go.Proofs.Ytnanofipjiclfaa
open Go Go.Ab
variable {I : Sl → Nat} {S : Sv} {σ : St}

/-- What a verdict says; L bounds the steps from below when it is open. -/
structure Vx (C : List (List Int)) (asm : List Int) (x : Int) (L : Nat) : Prop where
  v3 : x = 0 ∨ x = 1 ∨ x = 2
  z : x = 0 → pmax ≤ L
  y : x = 1 → SatA C asm
  n : x = 2 → ¬ SatA C asm
theorem Slv.vx {b M F : Nat} {asm : List Int} {S N : Sv} {v : Int} (h : Slv b M asm F S N v) (hF : 2 ^ b * (S.vars + 1) ≤ F) : Vx S.cls asm v N.steps.length :=
  ⟨h.v3, fun e => by obtain ⟨-, -, h1⟩ := h.und e; rcases h1 with h1 | h1 <;> omega, h.sat, h.unsat⟩
theorem Vx.mono {C : List (List Int)} {asm : List Int} {x : Int} {L L' : Nat} (h : Vx C asm x L) (hl : L ≤ L') : Vx C asm x L' := ⟨h.v3, fun e => Nat.le_trans (h.z e) hl, h.y, h.n⟩
theorem Vx.yes {C : List (List Int)} {asm : List Int} {x : Int} {L : Nat} (h : Vx C asm x L) (h0 : x ≠ 0) (hs : SatA C asm) : x = 1 := by
  rcases h.v3 with e | e | e
  · exact absurd e h0
  · exact e
  · exact absurd hs (h.n e)
theorem Vx.no {C : List (List Int)} {asm : List Int} {x : Int} {L : Nat} (h : Vx C asm x L) (h0 : x ≠ 0) (hs : ¬ SatA C asm) : x = 2 := by
  rcases h.v3 with e | e | e
  · exact absurd e h0
  · exact absurd (h.y e) hs
  · exact e
theorem Vx.eq {C : List (List Int)} {asm : List Int} {x y : Int} {L L' : Nat} (h : Vx C asm x L) (k : Vx C asm y L') (hx : x ≠ 0) (hy : y ≠ 0) : x = y := by
  rcases h.v3 with e | e | e
  · exact absurd e hx
  · rw [e, k.yes hy (h.y e)]
  · rw [e, k.no hy (h.n e)]
theorem SatA.less {C D : List (List Int)} {a : List Int} (h : SatA (C ++ D) a) : SatA C a := by
  obtain ⟨β, h1, h2⟩ := h
  exact ⟨β, fun c hc => h1 c (List.mem_append_left _ hc), h2⟩
theorem Hed.mono {n M M' : Nat} {C : List (List Int)} {u s u' s' : Nat} {st : St} (h : Hed σ n M C u s I S st) (hM : M ≤ M') (hu : u ≤ u') (hs : s ≤ s') : Hed σ n M' C u' s' I S st := ⟨h.hs, h.old, ⟨h.cls.rest.mono hM, h.cls.vars, h.cls.cls⟩, Nat.le_trans h.used hu, Nat.le_trans h.steps hs⟩
/-- Two solvers beside what was there. -/
structure Duo (σ : St) (n M : Nat) (C : List (List Int)) (u s : Nat) (I : Sl → Nat) (S : Sv) (M' : Nat) (C' : List (List Int)) (u' s' : Nat) (J : Sl → Nat) (T : Sv) (st : St) : Prop where
  a : Hed σ n M C u s I S st
  b : Hed σ n M' C' u' s' J T st
  d : ∀ x t, has S x → has T t → I x ≠ J t
theorem Duo.symm {n M M' : Nat} {C C' : List (List Int)} {u s u' s' : Nat} {J : Sl → Nat} {T : Sv} {st : St} (h : Duo σ n M C u s I S M' C' u' s' J T st) : Duo σ n M' C' u' s' J T M C u s I S st := ⟨h.b, h.a, fun x t hx ht e => h.d t x ht hx e.symm⟩
theorem Duo.fst {n M M' M1 : Nat} {C C' C1 : List (List Int)} {u s u' s' u1 s1 : Nat} {X : Sl → Prop} {I' J : Sl → Nat} {S' T : Sv} {st st' : St} (h : Duo σ n M C u s I S M' C' u' s' J T st) (k : Stp X I S st I' st') (a : Hed σ n M1 C1 u1 s1 I' S' st') : Duo σ n M1 C1 u1 s1 I' S' M' C' u' s' J T st' := by
  have t : Two I S J T st := ⟨h.a.hs.sol, h.b.hs.sol, h.d⟩
  have t' := t.fst k a.hs.sol (h.a.cls.has a.cls)
  exact ⟨a, ⟨⟨t'.b, h.b.hs.low⟩, a.old, h.b.cls, h.b.used, h.b.steps⟩, t'.d⟩
theorem Duo.app {n M M' : Nat} {C C' : List (List Int)} {u s u' s' : Nat} {J : Sl → Nat} {T : Sv} {st : St} (h : Duo σ n M C u s I S M' C' u' s' J T st) (l : St) : Duo σ n M C u s I S M' C' u' s' J T (st ++ l) := ⟨h.a.app l, h.b.app l, h.d⟩
theorem pow12 {n : Nat} (h : n ≤ 12) : 2 ^ n ≤ 4096 ∧ 2 ^ n * (n + 1) ≤ 53248 := by
  have h1 : 2 ^ n ≤ 2 ^ 12 := Nat.pow_le_pow_right (by decide) h
  refine ⟨h1, ?_⟩
  calc 2 ^ n * (n + 1) ≤ 2 ^ 12 * (12 + 1) := Nat.mul_le_mul h1 (by omega)
    _ = 53248 := by decide
end Go.Proofs.Ytnanofipjiclfaa
end PartX4

section PartB1
/- Bits of machine's integers, as the program's operations give them. -/
set_option linter.unusedSimpArgs false
set_option linter.unusedVariables false
namespace Go.Proofs.Ytnanofipjiclfaa
open Go Go.Ab

def bAnd (ik : IntKind) (a b : Int) : Int := ik.wrap ((BitVec.ofInt ik.bits a &&& BitVec.ofInt ik.bits b).toNat : Int)
def bShl (ik : IntKind) (a b : Int) : Int := ik.wrap (a * 2 ^ (min b.toNat ik.bits))
def bShr (ik : IntKind) (a b : Int) : Int := a.fdiv (2 ^ (min b.toNat ik.bits))
section
variable {P : Program} {t : TypeId} {k : Prop → A → Prop} {a b : Int} {ik jk : IntKind}
@[go_sem high, go_sem ↓ high] theorem rdBin_andB : rdBin P .and t k (.d (.int ik a)) (.d (.int ik b)) = k True (.d (.int ik (bAnd ik a b))) := by simp only [rdBin, rdArith, if_true]; rfl
@[go_sem high, go_sem ↓ high] theorem rdBin_shlB : rdBin P .shl t k (.d (.int ik a)) (.d (.int jk b)) = k (0 ≤ b) (.d (.int ik (bShl ik a b))) := (rfl)
@[go_sem high, go_sem ↓ high] theorem rdBin_shrB : rdBin P .shr t k (.d (.int ik a)) (.d (.int jk b)) = k (0 ≤ b) (.d (.int ik (bShr ik a b))) := (rfl)
end
/-- A bit of a number. -/
theorem fdiv_pow (x i : Nat) : (x : Int).fdiv (2 ^ i) = ((x / 2 ^ i : Nat) : Int) := by
  rw [Int.fdiv_eq_ediv_of_nonneg _ (by exact_mod_cast Nat.zero_le (2 ^ i))]
  have e : (2 : Int) ^ i = ((2 ^ i : Nat) : Int) := by simp
  rw [e]; rfl
theorem bit64 {x i : Nat} (hx : x ≤ 1000000000000) (hi : i ≤ 60) : (bAnd .i64 (bShr .i64 (x : Int) (i : Int)) 1 == 1) = x.testBit i := by
  have e1 : bShr .i64 (x : Int) (i : Int) = ((x / 2 ^ i : Nat) : Int) := by
    unfold bShr
    rw [Int.toNat_natCast, show min i IntKind.i64.bits = i from Nat.min_eq_left (by simp only [IntKind.bits]; omega), fdiv_pow]
  have hle : x / 2 ^ i ≤ 1000000000000 := Nat.le_trans (Nat.div_le_self _ _) hx
  rw [e1, Nat.testBit_eq_decide_div_mod_eq]
  generalize x / 2 ^ i = y at hle
  have e2 : bAnd .i64 (y : Int) 1 = ((y % 2 : Nat) : Int) := by
    unfold bAnd
    have h1 : (BitVec.ofInt IntKind.i64.bits (y : Int) &&& BitVec.ofInt IntKind.i64.bits 1).toNat = y % 2 := by
      rw [BitVec.toNat_and]
      have h2 : (BitVec.ofInt IntKind.i64.bits (y : Int)).toNat = y := by
        simp only [IntKind.bits, BitVec.toNat_ofInt]
        omega
      have h3 : (BitVec.ofInt IntKind.i64.bits 1).toNat = 1 := by decide
      rw [h2, h3]
      exact Nat.and_one_is_mod y
    rw [h1]
    exact wrap64_id _ (by omega) (by omega)
  rw [e2, Bool.eq_iff_iff, beq_iff_eq, decide_eq_true_eq]
  omega
end Go.Proofs.Ytnanofipjiclfaa
end PartB1

section PartQ28
/- Plain facts on the solver: other names for the variables. -/
set_option linter.unusedSimpArgs false
set_option linter.unusedVariables false
namespace Go.Proofs.Ytnanofipjiclfaa
open Go Go.Ab

def permV (n turn i : Nat) : Nat := (i + turn) % n + 1
/-- A literal under other names. -/
def ren1 (n turn sg : Nat) (x : Int) : Int := (if decide (x < 0) != sg.testBit (vr x - 1) then (-1 : Int) else 1) * (permV n turn (vr x - 1) : Int)
theorem permV_bd {n turn i : Nat} (hn : 0 < n) : 1 ≤ permV n turn i ∧ permV n turn i ≤ n := by
  unfold permV
  have := Nat.mod_lt (i + turn) hn
  omega
theorem ren1_lit {n turn sg : Nat} (hn : 0 < n) {x : Int} : LitV n (ren1 n turn sg x) := by
  have := permV_bd (n := n) (turn := turn) (i := vr x - 1) hn
  unfold LitV ren1
  split <;> omega
theorem ren1_vr {n turn sg : Nat} {x : Int} : vr (ren1 n turn sg x) = permV n turn (vr x - 1) := by
  unfold ren1 vr
  split <;> omega
theorem ren1_pos {n turn sg : Nat} (hn : 0 < n) {x : Int} : decide (0 < ren1 n turn sg x) = !(decide (x < 0) != sg.testBit (vr x - 1)) := by
  have := permV_bd (n := n) (turn := turn) (i := vr x - 1) hn
  unfold ren1
  cases (decide (x < 0) != sg.testBit (vr x - 1))
  · rw [if_neg (by simp)]
    have : (0 : Int) < 1 * (permV n turn (vr x - 1) : Int) := by omega
    rw [decide_eq_true this]; rfl
  · rw [if_pos rfl]
    have : ¬ (0 : Int) < -1 * (permV n turn (vr x - 1) : Int) := by omega
    rw [decide_eq_false this]; rfl
/-- Assignments that say the same of the names. -/
def Twin (n turn sg : Nat) (β γ : Nat → Bool) : Prop := ∀ v, 1 ≤ v → v ≤ n → γ (permV n turn (v - 1)) = (β v != sg.testBit (v - 1))
theorem Twin.tt {n turn sg : Nat} {β γ : Nat → Bool} (h : Twin n turn sg β γ) {x : Int} (hx : LitV n x) : TT γ (ren1 n turn sg x) ↔ TT β x := by
  have hx' := hx
  unfold LitV at hx'
  have hn : 0 < n := by omega
  have hv : 1 ≤ vr x ∧ vr x ≤ n := by unfold vr; omega
  unfold TT
  rw [ren1_vr, ren1_pos hn, h (vr x) hv.1 hv.2]
  have h0 := (ren1_lit (turn := turn) (sg := sg) hn (x := x)).1
  have hneg : decide (x < 0) = !decide (0 < x) := by
    by_cases hp : 0 < x
    · rw [decide_eq_true hp, decide_eq_false (by omega)]; rfl
    · rw [decide_eq_false hp, decide_eq_true (by omega)]; rfl
  rw [hneg]
  cases β (vr x) <;> cases sg.testBit (vr x - 1) <;> cases decide (0 < x) <;> simp [h0, hx'.1]
def revRen (n turn sg : Nat) (l : List Int) : List Int := (l.map (ren1 n turn sg)).reverse
def otherC (n turn sg : Nat) (C : List (List Int)) : List (List Int) := (C.map (revRen n turn sg)).reverse
theorem Twin.sat {n turn sg : Nat} {β γ : Nat → Bool} (h : Twin n turn sg β γ) {C : List (List Int)} {asm : List Int} (hC : ∀ c ∈ C, ∀ l ∈ c, LitV n l) (ha : ∀ l ∈ asm, LitV n l) : (SatC γ (otherC n turn sg C) ∧ ∀ l ∈ revRen n turn sg asm, TT γ l) ↔ (SatC β C ∧ ∀ l ∈ asm, TT β l) := by
  refine and_congr ?_ ?_
  · constructor
    · intro hs c hc
      obtain ⟨m, hm, hm2⟩ := hs (revRen n turn sg c) (List.mem_reverse.2 (List.mem_map_of_mem hc))
      obtain ⟨x, hx, rfl⟩ := List.mem_map.1 (List.mem_reverse.1 hm)
      exact ⟨x, hx, (h.tt (hC c hc x hx)).1 hm2⟩
    · intro hs d hd
      obtain ⟨c, hc, rfl⟩ := List.mem_map.1 (List.mem_reverse.1 hd)
      obtain ⟨x, hx, hx2⟩ := hs c hc
      exact ⟨_, List.mem_reverse.2 (List.mem_map_of_mem hx), (h.tt (hC c hc x hx)).2 hx2⟩
  · constructor
    · intro hs x hx
      exact (h.tt (ha x hx)).1 (hs _ (List.mem_reverse.2 (List.mem_map_of_mem hx)))
    · intro hs y hy
      obtain ⟨x, hx, rfl⟩ := List.mem_map.1 (List.mem_reverse.1 hy)
      exact (h.tt (ha x hx)).2 (hs x hx)
end Go.Proofs.Ytnanofipjiclfaa
end PartQ28

section PartX5
/- SolverNames: the functions that rename and reverse. -/
set_option linter.unusedSimpArgs false
set_option linter.unusedVariables false
set_option maxRecDepth 100000
namespace Go.Proofs.Ytnanofipjiclfaa
open Go Go.Ab
variable {I : Sl → Nat} {S : Sv} {σ : St}

theorem ren_ints (n0 : Nat) (p : List Nat) (l : List Int) : renL n0 p (intsA l) = intsA l := by
  unfold intsA
  induction l with
  | nil => rfl
  | cons x l ih => simp only [List.map_cons, renL, A.ren, ih]
end Go.Proofs.Ytnanofipjiclfaa
end PartX5

section PartX9
/- The reference's check of a step. -/
set_option linter.unusedSimpArgs false
set_option linter.unusedVariables false
set_option maxRecDepth 100000
namespace Go.Proofs.Ytnanofipjiclfaa
open Go Go.Ab
variable {I : Sl → Nat} {S : Sv} {σ : St}

theorem drop_getD' {α : Type} {l : List α} {j : Nat} (d : α) (h : j < l.length) : l.drop j = l.getD j d :: l.drop (j + 1) := by
  rw [List.getD_eq_getElem?_getD, List.getElem?_eq_getElem h]
  exact List.drop_eq_getElem_cons h
theorem views_intsA {τ : St} {id : Nat} {T : List Int} (w : Option TypeId) (h : τ[id]? = some (some (.cells (intsA T)))) : Views τ (.rs id 1 0 T.length w) (.d (isD T)) :=
  Views.rs h (by simp) (fun i x hx => by
    rw [List.getElem?_map, Option.map_eq_some_iff] at hx
    obtain ⟨a, _, rfl⟩ := hx; rfl) fun i x j y hx hy => by
    rw [List.getElem?_map, Option.map_eq_some_iff] at hx
    obtain ⟨a, ha, rfl⟩ := hx
    match j with
    | 0 =>
      have e : iD a = y := by simpa [D.cells] using hy
      subst e
      exact ⟨rfl, _, by unfold intsA; simp only [Nat.zero_add, Nat.mul_one, Nat.add_zero, List.getElem?_map, ha, Option.map_some], Views.d _⟩
    | j + 1 => simp [D.cells] at hy
theorem own_at (σ l : St) (j : Nat) {o : Option Ob} (h : l[j]? = some o) : (σ ++ l)[σ.length + j]? = some o := by rw [List.getElem?_append_right (by omega), Nat.add_sub_cancel_left]; exact h
/-- What a round of the reference's check asks of a clause: q its literal that is left, 0 for none. -/
structure Rnd (K c : List Int) (q : Int) : Prop where
  other : ∀ m ∈ c, m = q ∨ -m ∈ K
  free : q ≠ 0 → -q ∉ K
def unitAt (c : List Int) (q : Int) (j : Nat) : Int := if q ∈ c.take j then q else 0
theorem unitAt_skip {K c : List Int} {q : Int} (h : Rnd K c q) {j : Nat} (hj : j < c.length) (hk : -(c.getD j 0) ∈ K) : unitAt c q (j + 1) = unitAt c q j := by
  unfold unitAt
  rw [take_getD 0 hj]
  by_cases h0 : q = 0
  · subst h0; simp
  · have : q ≠ c.getD j 0 := fun e => h.free h0 (by rw [e]; exact hk)
    simp only [List.mem_append, List.mem_singleton, this, or_false]
theorem unitAt_take {c : List Int} {q : Int} {j : Nat} (hj : j < c.length) (hq : c.getD j 0 = q) : unitAt c q (j + 1) = q := by
  unfold unitAt
  rw [take_getD 0 hj, if_pos (by rw [hq]; simp)]
theorem unitAt_or (c : List Int) (q : Int) (j : Nat) : unitAt c q j = q ∨ unitAt c q j = 0 := by
  unfold unitAt; split <;> simp
theorem just_ac (cls : List (List Int)) (s : List Int × List Nat) (hc : cls.length ≤ 1000000) (hcv : ∀ c ∈ cls, c.length ≤ 1000000 ∧ ∀ l ∈ c, LitV 100000 l) (h1 : s.1.length ≤ 1000000) (h2 : s.2.length ≤ 1000000) (h3 : ∀ l ∈ s.1, LitV 100000 l) (h4 : ∀ x ∈ s.2, x < cls.length)
    (hr : rup (fun x => cls.getD x []) (s.1.map (- ·)) s.2) (σ : St) (G : Glob) (R : A → St → Prop) (h : R (db true) σ) : AC Try.prog G 41 [.d (csD cls), .d (lnD s)] σ R := by
  obtain ⟨ls, hs⟩ := s
  simp only at h1 h2 h3 h4 hr
  unfold csD lnD
  refine ac_enter mixed Try.func41 rfl Try.ntmps41 (by simp only [go_sem]) fun hbd => ?_
  simp only [List.length_cons, List.length_nil, Nat.reduceAdd, Nat.reduceSub, List.replicate_succ, List.replicate_zero, List.cons_append, List.nil_append]
  simp only [go_sem, List.length_map, Try.results41]
  refine aw_loop (fun m fr st => ∃ j : Nat, j ≤ ls.length ∧ m = ls.length - j ∧ fr = [.d (csD cls), .any, .any, .ref σ.length 0, .any, .rs (σ.length + 1) 1 0 j (some 3), dn j, .any, .any, .any, .any, .any, .any, .any, .any, .any, .any, .any, .any, .any, .any, .any, .any, .any, .any, .any, .any, .any, .any, .any, .any, .any, .any, .any, .any, .any, .any, .any, .any, .any, .any, .any, .any, .any, .any, .any, .any, .any, .any, .any, .any, .any, .any, .any, .any, .any, .any, .any, .any, .any, .any, .any, .any, .any, .any, .any, .any, .any, .any, .any, .any, .any, .any, .any, .any, .any, .any, .any, .any, .any, .any, .any, .any, .any, .any, .any, .any, .any, .any, .any, .any, .any, .any, .any, .any, .any, .any, .any, .any, .any, .any, .any, .any, .any, .any, .any, .any, .any, .any, .any, .any, .any, .any] ∧ st = σ ++ [some (.cells [.d (isD ls), .d (nsD hs)]), some (.cells (intsA ((ls.take j).map (- ·))))]) ls.length _
    ⟨_, _, (Weak.mask [0, 3, 5, 6]).trans (Weak.empty 5 1 (some 3) rfl), 0, by omega, by omega, by rw [List.length_append]; rfl, by simp [isD, nsD, intsA]⟩ ?_
  rintro m fr st ⟨j, hj, hm, rfl, rfl⟩
  unfold csD
  rcases Nat.lt_or_ge j ls.length with hlt | hge
  · have hd : decide ((j : Int) < (ls.length : Int)) = true := by simp; omega
    have w2 := wrapS j (by omega)
    have g0 : List.getD (ls.map iD) j default = iD (ls.getD j 0) := getD_mapD hlt
    have hx := h3 _ (getD_mem 0 hlt)
    unfold LitV at hx
    have wn : IntKind.i64.wrap (0 - ls.getD j 0) = -(ls.getD j 0) := by rw [wrap64_id _ (by omega) (by omega)]; omega
    have htk : (ls.take (j + 1)).map (- ·) = (ls.take j).map (- ·) ++ [-(ls.getD j 0)] := by rw [take_getD 0 hlt, List.map_append]; rfl
    have htl : ((ls.take j).map (- ·)).length = j := by simp; omega
    simp only [go_sem, List.length_map, hd, g0, w2, wn, isD, Try.results41]
    refine ⟨⟨by omega, by omega⟩, ⟨by rw [intsA_len, htl]; omega, by simp only [maxLen]; omega, by omega⟩, Wk.keep [0, 3, 5, 6] [0, 3] (by decide) (Nat.le_refl _) hbd ⟨ls.length - (j + 1), by omega, j + 1, hlt, rfl, by simp only [go_sem], ?_⟩⟩
    simp only [go_sem, htk, intsA_snoc, ren_ints]
  · have hd : decide ((j : Int) < (ls.length : Int)) = false := by simp; omega
    have htk : ls.take j = ls := List.take_of_length_le hge
    have hj' : j = ls.length := by omega
    subst hj'
    simp only [go_sem, List.length_map, hd, htk, isD, Try.results41]
    clear hm hj hge htk hd
    refine aw_loop (fun m fr st => ∃ (k : Nat) (K : List Int), k ≤ hs.length ∧ m = hs.length - k ∧ K.length ≤ 1000000 + k ∧ rup (fun x => cls.getD x []) K (hs.drop k) ∧ fr = [.d (csD cls), .any, .any, .ref σ.length 0, .any, .rs (σ.length + 1) 1 0 K.length (some 3), .any, dn k, .any, .any, .any, .any, .any, .any, .any, .any, .any, .any, .any, .any, .any, .any, .any, .any, .any, .any, .any, .any, .any, .any, .any, .any, .any, .any, .any, .any, .any, .any, .any, .any, .any, .any, .any, .any, .any, .any, .any, .any, .any, .any, .any, .any, .any, .any, .any, .any, .any, .any, .any, .any, .any, .any, .any, .any, .any, .any, .any, .any, .any, .any, .any, .any, .any, .any, .any, .any, .any, .any, .any, .any, .any, .any, .any, .any, .any, .any, .any, .any, .any, .any, .any, .any, .any, .any, .any, .any, .any, .any, .any, .any, .any, .any, .any, .any, .any, .any, .any, .any, .any, .any, .any, .any, .any] ∧ st = σ ++ [some (.cells [.d (isD ls), .d (nsD hs)]), some (.cells (intsA K))]) hs.length _
      (Wk.mask [0, 3, 5, 7] ⟨0, ls.map (- ·), by omega, by omega, by rw [List.length_map]; omega, hr, by rw [List.length_map]; rfl, rfl⟩) ?_
    clear hr
    rintro m fr st ⟨k, K, hk, hm, hK, hR, rfl, rfl⟩
    unfold csD
    rcases Nat.lt_or_ge k hs.length with klt | kge
    · have kd : decide ((k : Int) < (hs.length : Int)) = true := by simp; omega
      have hx := h4 _ (getD_mem 0 klt)
      have g1 : List.getD (hs.map fun n : Nat => iD n) k default = iD ((hs.getD k 0 : Nat) : Int) := getD_mapD klt
      have w3 := wrapS k (by omega)
      have w5 : IntKind.i64.wrap ((hs.length : Int) - 1) = ((hs.length - 1 : Nat) : Int) := by rw [wrap64_id _ (by omega) (by omega)]; omega
      rw [drop_getD' 0 klt] at hR
      generalize hs.getD k 0 = x at hx g1 hR
      have zz : ((0 : Int) == 0) = true := rfl
      have dx1 : decide ((x : Int) < 0) = false := by simp
      have dx2 : decide ((cls.length : Int) ≤ (x : Int)) = false := by simp; omega
      have g2 : List.getD (cls.map isD) x default = isD (cls.getD x []) := getD_mapD hx
      obtain ⟨hcl, hcx⟩ := hcv _ (getD_mem [] hx)
      obtain ⟨q, hq⟩ : ∃ q, Rnd K (cls.getD x []) q ∧ ((k + 1 = hs.length ∧ q = 0) ∨ (k + 1 < hs.length ∧ q ≠ 0 ∧ q ∈ cls.getD x [] ∧ q ∉ K ∧ rup (fun x => cls.getD x []) (K ++ [q]) (hs.drop (k + 1)))) := by
        rcases Nat.lt_or_ge (k + 1) hs.length with hmore | hlast
        · rw [drop_getD' 0 hmore] at hR ⊢
          obtain ⟨l, a1, a2, a3, a4, a5⟩ := hR
          have := hcx l a1
          unfold LitV at this
          exact ⟨l, ⟨a4, fun _ => a3⟩, .inr ⟨hmore, this.1, a1, a2, a5⟩⟩
        · rw [List.drop_eq_nil_of_le hlast] at hR
          exact ⟨0, ⟨fun m hm => .inr (hR m hm), fun e => (e rfl).elim⟩, .inl ⟨by omega, rfl⟩⟩
      clear hR
      obtain ⟨hrn, hcase⟩ := hq
      generalize cls.getD x [] = c at g2 hcl hcx hrn hcase
      simp only [go_sem, List.length_map, kd, g1, g2, w3, w5, dx1, dx2, isD, nsD, Try.results41]
      refine ⟨⟨by omega, by omega⟩, ⟨by omega, by omega⟩, ⟨by omega, by omega⟩, ⟨by omega, by omega⟩, ?_⟩
      refine aw_loop (fun m fr st => ∃ i : Nat, i ≤ c.length ∧ m = c.length - i ∧ fr = [.d (csD cls), .any, .any, .ref σ.length 0, .any, .rs (σ.length + 1) 1 0 K.length (some 3), .any, dn k, .d (isD c), di (unitAt c q i), db false, dn i, .any, .any, .any, .any, .any, .any, .any, .any, .any, .any, .any, .any, .any, .any, .any, .any, .any, .any, .any, .any, .any, .any, .any, .any, .any, .any, .any, .any, .any, .any, .any, .any, .any, .any, .any, .any, .any, .any, .any, .any, .any, .any, .any, .any, .any, .any, .any, .any, .any, .any, .any, .any, .any, .any, .any, .any, .any, .any, .any, .any, .any, .any, .any, .any, .any, .any, .any, .any, .any, .any, .any, .any, .any, .any, .any, .any, .any, .any, .any, .any, .any, .any, .any, .any, .any, .any, .any, .any, .any, .any, .any, .any, .any, .any, .any, .any, .any, .any, .any, .any, .any] ∧ st = σ ++ [some (.cells [.d (isD ls), .d (nsD hs)]), some (.cells (intsA K))]) c.length _
        (Wk.mask [0, 3, 5, 7, 8, 9, 10, 11] ⟨0, by omega, by omega, by unfold unitAt; simp; rfl, rfl⟩) ?_
      rintro m fr st ⟨i, hi, hm2, rfl, rfl⟩
      unfold csD
      rcases Nat.lt_or_ge i c.length with ilt | ige
      · have hd : decide ((i : Int) < (c.length : Int)) = true := by simp; omega
        have w2 := wrapS i (by omega)
        have g0 : List.getD (c.map iD) i default = iD (c.getD i 0) := getD_mapD ilt
        have hv := hcx _ (getD_mem 0 ilt)
        have hs1 := unitAt_skip hrn ilt
        have hs2 := unitAt_take (q := q) ilt
        have hor := unitAt_or c q i
        have ho := hrn.other _ (getD_mem 0 ilt)
        generalize c.getD i 0 = y at g0 hv hs1 hs2 ho
        unfold LitV at hv
        have wn : IntKind.i64.wrap (0 - y) = -y := by rw [wrap64_id _ (by omega) (by omega)]; omega
        simp only [go_sem, List.length_map, hd, g0, w2, wn, isD, Try.results41]
        refine ⟨⟨by omega, by omega⟩, ac' (ac_pure (db (K.contains (-y))) rfl (views2 (views_intsA _ (own_at σ _ 1 rfl)) (Views.d _)) (has_ac K (by omega) _ [] _ _ rfl) ?_)⟩
        cases hb : K.contains (-y) with
        | true =>
          rw [List.contains_iff_mem] at hb
          simp only [go_sem, List.length_map, g0, w2, Try.results41]
          exact Wk.mask [0, 3, 5, 7, 8, 9, 10, 11] ⟨c.length - (i + 1), by omega, i + 1, ilt, rfl, by rw [hs1 hb]; rfl, rfl⟩
        | false =>
          have hb' : -y ∉ K := fun hm => by rw [← List.contains_iff_mem, hb] at hm; cases hm
          have hyq : y = q := ho.resolve_right hb'
          cases hu : (y == unitAt c q i) with
          | true =>
            simp only [go_sem, List.length_map, g0, w2, hu, Try.results41]
            have he : unitAt c q (i + 1) = unitAt c q i := by rw [beq_iff_eq] at hu; exact (hs2 hyq).trans (hyq.symm.trans hu)
            exact ⟨⟨by omega, by omega⟩, Wk.mask [0, 3, 5, 7, 8, 9, 10, 11] ⟨c.length - (i + 1), by omega, i + 1, ilt, rfl, by rw [he]; rfl, rfl⟩⟩
          | false =>
            have hu0 : unitAt c q i = 0 := by
              rcases hor with e | e
              · rw [e, hyq] at hu; simp at hu
              · exact e
            have hu' : (y == 0) = false := by rw [hu0] at hu; exact hu
            simp only [go_sem, List.length_map, g0, w2, hu', hu0, zz, Try.results41]
            exact ⟨⟨by omega, by omega⟩, ⟨by omega, by omega⟩, Wk.mask [0, 3, 5, 7, 8, 9, 10, 11] ⟨c.length - (i + 1), by omega, i + 1, ilt, rfl, by rw [hs2 hyq, hyq]; rfl, rfl⟩⟩
      · have hd : decide ((i : Int) < (c.length : Int)) = false := by simp; omega
        have hic : i = c.length := by omega
        rcases hcase with ⟨hl, hq0⟩ | ⟨hl, hq0, hqc, hqK, hR⟩
        · subst hq0
          have kd2 : ((k : Int) == ((hs.length - 1 : Nat) : Int)) = true := by simp; omega
          have hu : unitAt c 0 i = 0 := by unfold unitAt; simp
          simp only [go_sem, List.length_map, hd, hu, kd2, w5, zz, isD, nsD, Try.results41]
          exact ret_d hbd h
        · have kd2 : ((k : Int) == ((hs.length - 1 : Nat) : Int)) = false := by simp; omega
          have hu : unitAt c q i = q := by unfold unitAt; rw [List.take_of_length_le (by omega), if_pos hqc]
          have hqb : (q == 0) = false := by simpa using hq0
          simp only [go_sem, List.length_map, hd, hu, kd2, w5, hqb, isD, nsD, Try.results41]
          have hqk : K.contains q = false := by
            rw [Bool.eq_false_iff]; intro e; rw [List.contains_iff_mem] at e; exact hqK e
          refine ex' (.bool false) ⟨fun _ => ?_, ?_⟩
          · simp only [go_sem]
            exact ac' (ac_pure (db (K.contains q)) rfl (views2 (views_intsA _ (own_at σ _ 1 rfl)) (Views.d _)) (has_ac K (by omega) _ [] _ _ rfl) ⟨by rw [hqk], rfl⟩)
          · simp only [go_sem, List.length_map, w3, Try.results41]
            refine ⟨⟨by rw [intsA_len]; omega, by simp only [maxLen]; omega, by omega⟩, Wk.keep [0, 3, 5, 7] [0, 3] (by decide) (Nat.le_refl _) hbd ⟨hs.length - (k + 1), by omega, k + 1, K ++ [q], klt, rfl, by rw [List.length_append, List.length_singleton]; omega, hR, ?_, ?_⟩⟩
            · simp only [go_sem]
            · simp only [go_sem, intsA_snoc, ren_ints]
    · rw [List.drop_eq_nil_of_le kge] at hR
      exact hR.elim
end Go.Proofs.Ytnanofipjiclfaa
end PartX9

section PartX10
/- The reference's check of a proof. -/
set_option linter.unusedSimpArgs false
set_option linter.unusedVariables false
set_option maxRecDepth 100000
namespace Go.Proofs.Ytnanofipjiclfaa
open Go Go.Ab
variable {I : Sl → Nat} {S : Sv} {σ : St}

def clzA (C : List (List Int)) : List A := C.map fun c => A.d (isD c)
theorem clzA_len (C : List (List Int)) : (clzA C).length = C.length := by unfold clzA; simp
theorem clzA_snoc (C : List (List Int)) (c : List Int) : clzA C ++ [A.d (isD c)] = clzA (C ++ [c]) := by unfold clzA; simp
theorem flat_cls (C : List (List Int)) : flat (C.map isD) = clzA C := by
  unfold clzA
  induction C with
  | nil => rfl
  | cons x l ih => simp only [List.map_cons, flat_cons, ih]; rfl
theorem ren_cls (n0 : Nat) (p : List Nat) (C : List (List Int)) : renL n0 p (clzA C) = clzA C := by
  unfold clzA
  induction C with
  | nil => rfl
  | cons x l ih => simp only [List.map_cons, renL, A.ren, ih]
theorem views_clzA {τ : St} {id : Nat} {C : List (List Int)} (w : Option TypeId) (h : τ[id]? = some (some (.cells (clzA C)))) : Views τ (.rs id 1 0 C.length w) (.d (csD C)) :=
  Views.rs h (by simp) (fun i x hx => by
    rw [List.getElem?_map, Option.map_eq_some_iff] at hx
    obtain ⟨a, _, rfl⟩ := hx; rfl) fun i x j y hx hy => by
    rw [List.getElem?_map, Option.map_eq_some_iff] at hx
    obtain ⟨a, ha, rfl⟩ := hx
    match j with
    | 0 =>
      have e : isD a = y := by simpa [D.cells, isD] using hy
      subst e
      exact ⟨rfl, _, by unfold clzA; simp only [Nat.zero_add, Nat.mul_one, Nat.add_zero, List.getElem?_map, ha, Option.map_some], Views.d _⟩
    | j + 1 => simp [D.cells, isD] at hy
/-- What the reference asks of a proof. -/
structure Prf (n : Nat) (C : List (List Int)) (L : List (List Int × List Nat)) : Prop where
  lc : C.length ≤ 100000
  ll : L.length ≤ 100000
  cl : ∀ c ∈ C, c.length ≤ 1000000 ∧ ∀ l ∈ c, LitV n l
  sl : ∀ s ∈ L, s.1.length ≤ 1000000 ∧ s.2.length ≤ 1000000 ∧ (∀ l ∈ s.1, LitV n l) ∧ s.1.Nodup
  run : ∀ k, k < L.length → ∀ x ∈ (L.getD k ([], [])).2, x < C.length + k
  rup : ∀ k, k < L.length → rup (fun x => (C ++ (L.take k).map (·.1)).getD x []) ((L.getD k ([], [])).1.map (- ·)) (L.getD k ([], [])).2
theorem all_ac (n : Nat) (hn : n ≤ 100000) (C : List (List Int)) (L : List (List Int × List Nat)) (hp : Prf n C L) (σ : St) (G : Glob) (R : A → St → Prop) (h : R (db true) σ) : AC Try.prog G 15 [dn n, .d (csD C), .d (prfD L)] σ R := by
  have hlc := hp.lc
  have hll := hp.ll
  unfold csD prfD
  refine ac_enter mixed Try.func15 rfl Try.ntmps15 (by simp only [go_sem]) fun hbd => ?_
  simp only [List.length_cons, List.length_nil, Nat.reduceAdd, Nat.reduceSub, List.replicate_succ, List.replicate_zero, List.cons_append, List.nil_append]
  simp only [go_sem, List.length_map, flat_cls, ren_cls, Try.results15]
  refine ⟨⟨by simp only [maxLen]; omega, by omega⟩, ?_⟩
  refine aw_loop (fun m fr st => ∃ k : Nat, k ≤ L.length ∧ m = L.length - k ∧ fr = [dn n, .any, .d (prfD L), .any, .any, .any, .any, .rs σ.length 1 0 (C ++ (L.take k).map (·.1)).length (some 28), dn k, .any, .any, .any, .any, .any, .any, .any, .any, .any, .any, .any, .any, .any, .any, .any, .any, .any, .any, .any, .any, .any, .any, .any, .any, .any, .any, .any, .any, .any, .any, .any, .any, .any, .any, .any, .any, .any, .any, .any, .any, .any, .any, .any] ∧ st = σ ++ [some (.cells (clzA (C ++ (L.take k).map (·.1))))]) L.length _
    (Wk.keep [0, 2, 7, 8] [1] (by decide) (Nat.le_refl _) hbd ⟨0, by omega, by omega, by simp only [go_sem, prfD, List.take_zero, List.map_nil, List.append_nil]; rfl, by simp only [go_sem, ren_cls, List.take_zero, List.map_nil, List.append_nil]⟩) ?_
  rintro m fr st ⟨k, hk, hm, rfl, rfl⟩
  unfold prfD
  rcases Nat.lt_or_ge k L.length with klt | kge
  · have kd : decide ((k : Int) < (L.length : Int)) = true := by simp; omega
    have g1 : List.getD (L.map lnD) k default = lnD (L.getD k ([], [])) := getD_mapD klt
    have w3 := wrapS k (by omega)
    have hrun := hp.run k klt
    have hrup := hp.rup k klt
    have hsl := hp.sl _ (getD_mem ([], []) klt)
    have htk : (L.take (k + 1)).map (·.1) = (L.take k).map (·.1) ++ [(L.getD k ([], [])).1] := by rw [take_getD ([], []) klt, List.map_append]; rfl
    have hlk : (C ++ (L.take k).map (·.1)).length = C.length + k := by simp; omega
    have hcv : ∀ c ∈ C ++ (L.take k).map (·.1), c.length ≤ 1000000 ∧ ∀ l ∈ c, LitV 100000 l := fun c hc => by
      have hmono : ∀ l, LitV n l → LitV 100000 l := fun l h => by unfold LitV at h ⊢; omega
      rcases List.mem_append.1 hc with hc | hc
      · exact ⟨(hp.cl c hc).1, fun l hl => hmono l ((hp.cl c hc).2 l hl)⟩
      · obtain ⟨s, hs, rfl⟩ := List.mem_map.1 hc
        have := hp.sl s (List.mem_of_mem_take hs)
        exact ⟨this.1, fun l hl => hmono l (this.2.2.1 l hl)⟩
    have hsv : ∀ l ∈ (L.getD k ([], [])).1, LitV 100000 l := fun l hl => by have := hsl.2.2.1 l hl; unfold LitV at this ⊢; omega
    rw [← hlk] at hrun
    have hun : List.map (·.1) (L.take (k + 1)) = (L.take k).map (·.1) ++ [(L.getD k ([], [])).1] := htk
    generalize L.getD k ([], []) = s at g1 hrun hrup hsl htk hsv hun
    obtain ⟨ls, hs⟩ := s
    simp only at hrun hrup hsl htk hsv hun
    generalize hD : C ++ (L.take k).map (·.1) = D at hlk hcv hrun hrup
    have hnx : C ++ (L.take (k + 1)).map (·.1) = D ++ [ls] := by rw [htk, ← hD, List.append_assoc]
    have hva : validB (n : Int) ls = true := validB_iff.2 hsl.2.2.1
    have hdi : decide ls.Nodup = true := decide_eq_true hsl.2.2.2
    simp only [go_sem, List.length_map, kd, g1, w3, lnD, Try.results15]
    refine ⟨⟨by omega, by omega⟩, ac' (validR_ac n (by omega) ls (by omega) _ _ _ ?_)⟩
    rw [hva]
    simp only [go_sem, List.length_map, kd, g1, w3, lnD, Try.results15]
    refine ⟨⟨by omega, by omega⟩, ex' (.bool true) ⟨fun _ => ?_, ?_⟩⟩
    · simp only [go_sem]
      exact ac' (distinct_ac ls (by omega) _ _ _ ⟨by rw [hdi], rfl⟩)
    simp only [go_sem, List.length_map, kd, g1, w3, lnD, Try.results15]
    refine ⟨⟨by omega, by omega⟩, ex' (.bool true) ⟨fun _ => ?_, ?_⟩⟩
    · simp only [go_sem]
      exact ac' (ac_pure (db true) rfl (views2 (views_clzA _ (own_at σ _ 0 rfl)) (Views.d _)) (just_ac D (ls, hs) (by omega) hcv hsl.1 hsl.2.1 hsv hrun hrup [] _ _ rfl) ⟨rfl, rfl⟩)
    simp only [go_sem, List.length_map, kd, g1, w3, lnD, Try.results15]
    have hln : C.length + (L.take (k + 1)).length = D.length + 1 := by rw [List.length_take]; omega
    refine ⟨⟨by omega, by omega⟩, rfl, ⟨Nat.le_refl 1, by rw [clzA_len]; omega, by simp only [maxLen]; omega, by omega⟩, Wk.keep [0, 2, 7, 8] [2] (by decide) (Nat.le_refl _) hbd ⟨L.length - (k + 1), by omega, k + 1, klt, rfl, ?_, ?_⟩⟩
    · simp only [go_sem, prfD, hln]
    · rw [hnx, ← clzA_snoc]
      simp only [go_sem, ren_cls]
      rfl
  · have kd : decide ((k : Int) < (L.length : Int)) = false := by simp; omega
    simp only [go_sem, List.length_map, kd, Try.results15]
    exact ret_d hbd h
end Go.Proofs.Ytnanofipjiclfaa
end PartX10

section PartQ30
/- A log of a solver at rest is a proof for the reference. -/
set_option linter.unusedSimpArgs false
set_option linter.unusedVariables false
set_option maxRecDepth 100000
namespace Go.Proofs.Ytnanofipjiclfaa
open Go Go.Ab

theorem shift_lt {na cl id k : Nat} (h : na = cl) (hc : 40000 ≤ id) (h3 : id - 40000 < k) : na + id - 40000 < cl + k := by omega
theorem proofM_len (S : Sv) : (proofM S).length = S.steps.length := by unfold proofM; simp
theorem proofM_get (S : Sv) {k : Nat} (hk : k < S.steps.length) : (proofM S).getD k ([], []) = ((S.steps.getD k ([], [])).1, (S.steps.getD k ([], [])).2.map (shiftH S.added.length)) := by
  unfold proofM
  rw [List.getD_eq_getElem?_getD, List.getElem?_map, List.getD_eq_getElem?_getD, List.getElem?_eq_getElem hk]
  rfl
theorem proofM_take (S : Sv) (k : Nat) : ((proofM S).take k).map (·.1) = (S.steps.take k).map (·.1) := by
  unfold proofM
  rw [← List.map_take, List.map_map]
  rfl
theorem prf_of {M n : Nat} {C : List (List Int)} {S : Sv} (h : Cls M n C S) : Prf n C (proofM S) := by
  have hna := h.na
  have g := h.rest.fin.gd
  have hz := h.rest.szs
  have hcC : ∀ i, i < C.length → C.getD i [] = (S.cl i).lits := fun i hi => by
    rw [cl_add S g.na (by omega), ← h.cls]
    unfold Sv.cls
    rw [List.getD_eq_getElem?_getD, List.getElem?_map, List.getD_eq_getElem?_getD, List.getElem?_eq_getElem (by omega : i < S.added.length)]
    rfl
  have hcl := h.rest.fin.cls
  have hsl := h.rest.fin.sl
  refine ⟨by have := g.na; omega, by rw [proofM_len]; have := hz.1; omega, fun c hc => ?_, fun s hs => ?_, fun k hk x hx => ?_, fun k hk => ?_⟩
  · obtain ⟨i, hi, e⟩ := List.getElem_of_mem hc
    have e2 : C.getD i [] = c := by rw [List.getD_eq_getElem?_getD, List.getElem?_eq_getElem hi]; exact e
    rw [hcC i hi] at e2
    have ok := okId_add S g.na (by omega : i < S.added.length)
    rw [← e2]
    exact ⟨g.ll i ok, fun l hl => by rw [← h.vars]; exact g.lits i ok l hl⟩
  · obtain ⟨t, ht, rfl⟩ := List.mem_map.1 hs
    obtain ⟨k, hk, e⟩ := List.getElem_of_mem ht
    have hj := h.rest.jst k hk
    rw [List.getD_eq_getElem?_getD, List.getElem?_eq_getElem hk] at hj
    simp only [Option.getD_some, e] at hj
    obtain ⟨h1, h2, -⟩ := hz.2.2 t ht
    exact ⟨h1, by rw [List.length_map]; exact h2, fun l hl => by rw [← h.vars]; exact hj.lits l hl, (List.pairwise_map.1 hj.nd).imp fun hne e => hne (congrArg vr e)⟩
  · rw [proofM_len] at hk
    rw [proofM_get S hk] at hx
    obtain ⟨id, hid, rfl⟩ := List.mem_map.1 hx
    obtain ⟨o1, o2⟩ := (h.rest.jst k hk).ok id hid
    unfold shiftH
    unfold okId clI clL at o1
    split
    · rename_i hc
      have o3 : id - 40000 < k := o2 hc
      exact shift_lt hna hc o3
    · rename_i hc
      rw [if_neg hc, if_neg hc] at o1
      clear o2 hcC hcl hz g
      omega
  · rw [proofM_len] at hk
    rw [proofM_get S hk, proofM_take]
    have hj := h.rest.jst k hk
    refine rup_map _ _ (fun id hid => ?_) hj.run
    obtain ⟨o1, o2⟩ := hj.ok id hid
    unfold okId clI clL at o1
    unfold shiftH
    split
    · rename_i hc
      have o3 : id - 40000 < k := o2 hc
      rw [List.getD_eq_getElem?_getD, List.getElem?_append_right (by omega), show S.added.length + id - 40000 - C.length = id - 40000 by omega, List.getElem?_map, List.getElem?_take_of_lt (by omega), List.getElem?_eq_getElem (by omega : id - 40000 < S.steps.length)]
      have : (S.cl (40000 + (id - 40000))).lits = (S.steps.getD (id - 40000) ([], [])).1 := hcl (id - 40000) (by omega)
      rw [show 40000 + (id - 40000) = id by omega, List.getD_eq_getElem?_getD, List.getElem?_eq_getElem (by omega : id - 40000 < S.steps.length)] at this
      exact this.symm
    · rename_i hc
      rw [if_neg hc, if_neg hc] at o1
      rw [List.getD_eq_getElem?_getD, List.getElem?_append_left (by omega), ← List.getD_eq_getElem?_getD]
      exact hcC id (by omega)
end Go.Proofs.Ytnanofipjiclfaa
end PartQ30

section PartX11
/- SolverRefutations. -/
set_option linter.unusedSimpArgs false
set_option linter.unusedVariables false
set_option maxRecDepth 100000
namespace Go.Proofs.Ytnanofipjiclfaa
open Go Go.Ab
variable {I : Sl → Nat} {S : Sv} {σ : St}

structure Rf (σ : St) (n j : Nat) (C : List (List Int)) (I : Sl → Nat) (S : Sv) (cid : Nat) (st : St) : Prop where
  hed : Hed σ n j C (1000000 * j) 20000 I S st
  got : st[cid]? = some (some (.cells (clzA C)))
  off : ∀ s, has S s → I s ≠ cid
  len : C.length ≤ j
  low : σ.length ≤ cid
theorem Rf.app {n j cid : Nat} {C : List (List Int)} {st : St} (h : Rf σ n j C I S cid st) (l : St) : Rf σ n j C I S cid (st ++ l) :=
  ⟨h.hed.app l, by rw [List.getElem?_append_left (lt_of_some h.got)]; exact h.got, h.off, h.len, h.low⟩
theorem Rf.step {n j cid : Nat} {C : List (List Int)} {st st' : St} {I' : Sl → Nat} {S' : Sv} {X : Sl → Prop} (h : Rf σ n j C I S cid st) (k : Stp X I S st I' st') (hs : Sol I' S' st') (hc : Cls (j + 1) n C S') (hu : S'.used ≤ 1000000 * (j + 1)) : Rf σ n (j + 1) C I' S' cid st' :=
  ⟨h.hed.step k hs hc hu hc.rest.szs.1, k.other h.got h.off, k.off (lt_of_some h.got) h.off (h.hed.cls.has hc), Nat.le_succ_of_le h.len, h.low⟩
theorem Rf.fst {n : Nat} {st : St} (k1 : Sol I (newS n) st) (k2 : ∀ s, has (newS n) s → σ.length ≤ I s) (k3 : Old σ st) (hn : n ≤ 100) : Rf σ n 0 [] I (newS n) st.length (st ++ [some (.cells [])]) :=
  ⟨Hed.app ⟨⟨k1, k2⟩, k3, ⟨new_rest n hn, rfl, rfl⟩, Nat.le_refl _, Nat.zero_le _⟩ _, by rw [List.getElem?_append_right (Nat.le_refl _), Nat.sub_self]; rfl, fun s hs e => by have := k1.lt s hs; omega, Nat.le_refl _, k3.len⟩
theorem Rf.next {n j cid : Nat} {C : List (List Int)} {st : St} (h : Rf σ n j C I S cid st) : Rf σ n (j + 1) C I S cid st :=
  ⟨h.hed.mono (by omega) (by omega) (Nat.le_refl _), h.got, h.off, Nat.le_succ_of_le h.len, h.low⟩
/-- What a solver tells of its core when it has answered v. -/
structure Cor (n : Nat) (S : Sv) (v : Int) : Prop where
  lits : ∀ x ∈ coreM S, LitV n x
  short : (coreM S).length ≤ 13
  ref : S.refuted = true → S.core.length ≤ 1000000
  no : v = 2 → (∃ l ∈ coreM S, -l ∈ coreM S) ∨ (0 < S.steps.length ∧ (S.steps.getD (S.steps.length - 1) ([], [])).1.Perm ((coreM S).map (- ·)))
theorem Cor.none {n : Nat} {v : Int} (hr : S.refuted = false) (hv : v ≠ 2) : Cor n S v := by
  have e : coreM S = [] := by unfold coreM; rw [hr]; rfl
  exact ⟨fun x hx => (by rw [e] at hx; cases hx), by rw [e]; exact Nat.zero_le _, fun h => (by rw [hr] at h; cases h), fun h => absurd h hv⟩
end Go.Proofs.Ytnanofipjiclfaa
end PartX11

section PartQ29
/- Plain facts on the solver: two amounts of fuel; numbers whose bits are an assignment. -/
set_option linter.unusedSimpArgs false
set_option linter.unusedVariables false
namespace Go.Proofs.Ytnanofipjiclfaa
open Go Go.Ab

/-- The number whose bits these are. -/
def bitsN : List Bool → Nat
  | [] => 0
  | b :: l => b.toNat + 2 * bitsN l
theorem bitsN_snoc : ∀ (l : List Bool) (b : Bool), bitsN (l ++ [b]) = bitsN l + (if b then 2 ^ l.length else 0)
  | [], b => by cases b <;> rfl
  | a :: l, b => by
    rw [List.cons_append, bitsN, bitsN, bitsN_snoc l b, List.length_cons, Nat.pow_succ]
    cases b <;> simp <;> omega
theorem bitsN_lt : ∀ (l : List Bool), bitsN l < 2 ^ l.length
  | [] => by decide
  | a :: l => by
    have := bitsN_lt l
    rw [bitsN, List.length_cons, Nat.pow_succ]
    cases a <;> simp <;> omega
theorem bitsN_bit : ∀ (l : List Bool) (i : Nat), (bitsN l).testBit i = l.getD i false
  | [], i => by simp [bitsN]
  | a :: l, 0 => by
    rw [bitsN, Nat.testBit_zero]
    cases a <;> simp <;> omega
  | a :: l, i + 1 => by
    rw [bitsN, Nat.testBit_succ, List.getD_cons_succ, ← bitsN_bit l i]
    congr 1
    cases a <;> simp <;> omega
end Go.Proofs.Ytnanofipjiclfaa
end PartQ29

section PartX7
/- The reference's Bits, Same and SameSteps. -/
set_option linter.unusedSimpArgs false
set_option linter.unusedVariables false
set_option maxRecDepth 100000
namespace Go.Proofs.Ytnanofipjiclfaa
open Go Go.Ab
variable {I : Sl → Nat} {S : Sv} {σ : St}

theorem shl_pow {i : Nat} (h : i ≤ 59) : bShl .i64 1 (i : Int) = ((2 ^ i : Nat) : Int) := by
  unfold bShl
  rw [Int.toNat_natCast, show min i IntKind.i64.bits = i from Nat.min_eq_left (by simp only [IntKind.bits]; omega), Int.one_mul]
  have e : (2 : Int) ^ i = ((2 ^ i : Nat) : Int) := by simp
  have h2 : 2 ^ i ≤ 2 ^ 59 := Nat.pow_le_pow_right (by decide) h
  have h3 : (2 : Nat) ^ 59 = 576460752303423488 := by decide
  rw [e]
  generalize 2 ^ i = p at h2
  exact wrap64_id _ (by omega) (by omega)
theorem bits_ac (l : List Bool) (hl : l.length ≤ 40) (σ : St) (G : Glob) (R : A → St → Prop) (h : R (dn (bitsN l)) σ) : AC Try.prog G 27 [.d (bsD l)] σ R := by
  unfold bsD
  refine ac_enter mixed Try.func27 rfl Try.ntmps27 (by simp only [go_sem]) fun hbd => ?_
  simp only [List.length_cons, List.length_nil, Nat.reduceAdd, Nat.reduceSub, List.replicate_succ, List.replicate_zero, List.cons_append, List.nil_append]
  simp only [go_sem, Try.results27]
  refine aw_loop (fun m fr st => ∃ j : Nat, j ≤ l.length ∧ m = l.length - j ∧ fr = [.d (bsD l), .any, .any, dn (bitsN (l.take j)), dn j, .any, .any, .any, .any, .any, .any, .any, .any, .any, .any, .any, .any, .any, .any, .any, .any, .any, .any, .any, .any] ∧ st = σ) l.length _
    (Wk.mask [0, 3, 4] ⟨0, by omega, by omega, rfl, rfl⟩) ?_
  rintro m fr st ⟨j, hj, hm, rfl, rfl⟩
  unfold bsD
  have d2 : decide ((j : Int) < 60) = true := decide_eq_true (by omega)
  rcases Nat.lt_or_ge j l.length with hlt | hge
  · have hd : decide ((j : Int) < (l.length : Int)) = true := by simp; omega
    have w2 := wrapS j (by omega)
    have g0 : List.getD (l.map D.bool) j default = .bool (l.getD j false) := getD_mapD hlt
    have htk : l.take (j + 1) = l.take j ++ [l.getD j false] := take_getD false hlt
    have hsn := bitsN_snoc (l.take j) (l.getD j false)
    have hlen : (l.take j).length = j := by rw [List.length_take]; omega
    have hlt2 := bitsN_lt (l.take j)
    have hp : 2 ^ j ≤ 2 ^ 40 := Nat.pow_le_pow_right (by decide) (by omega)
    have h40 : (2 : Nat) ^ 40 = 1099511627776 := by decide
    rw [hlen] at hsn hlt2
    rw [← htk] at hsn
    have w3 := shl_pow (i := j) (by omega)
    have w5 : IntKind.u64.wrap (j : Int) = (j : Int) := by
      have : (2 : Int) ^ 64 = 18446744073709551616 := by decide
      simp only [IntKind.wrap, IntKind.bits, IntKind.signed, Bool.false_and, Bool.false_eq_true, if_false]
      show (j : Int) % 18446744073709551616 = j
      omega
    have w4 : IntKind.i64.wrap ((bitsN (l.take j) : Int) + ((2 ^ j : Nat) : Int)) = ((bitsN (l.take j) + 2 ^ j : Nat) : Int) := by rw [wrap64_id _ (by omega) (by omega)]; omega
    simp only [go_sem, List.length_map, hd, d2, g0, w2, w3, w4, w5, Try.results27]
    refine ⟨⟨by omega, by omega⟩, fun e => ⟨by omega, Wk.mask [0, 3, 4] ⟨l.length - (j + 1), by omega, j + 1, by omega, rfl, ?_, rfl⟩⟩, fun e => Wk.mask [0, 3, 4] ⟨l.length - (j + 1), by omega, j + 1, by omega, rfl, ?_, rfl⟩⟩
    · rw [hsn, e]; rfl
    · rw [hsn, e]; rfl
  · have hd : decide ((j : Int) < (l.length : Int)) = false := by simp; omega
    have htk : l.take j = l := List.take_of_length_le hge
    simp only [go_sem, List.length_map, hd, d2, htk, Try.results27]
    exact ret_d0 h
end Go.Proofs.Ytnanofipjiclfaa
end PartX7

section PartX12
/- The reference's truth of a literal; Satisfies. -/
set_option linter.unusedSimpArgs false
set_option linter.unusedVariables false
set_option maxRecDepth 100000
namespace Go.Proofs.Ytnanofipjiclfaa
open Go Go.Ab
variable {I : Sl → Nat} {S : Sv} {σ : St}

def trueB (N : Nat) (l : Int) : Bool := N.testBit (vr l - 1) == decide (0 < l)
theorem u64_id {j : Nat} (h : j ≤ 1000000000) : IntKind.u64.wrap (j : Int) = (j : Int) := by
  have : (2 : Int) ^ 64 = 18446744073709551616 := by decide
  simp only [IntKind.wrap, IntKind.bits, IntKind.signed, Bool.false_and, Bool.false_eq_true, if_false]
  show (j : Int) % 18446744073709551616 = j
  omega
theorem true_ac (N : Nat) (hN : N ≤ 1000000000000) (l : Int) (hl : LitV 60 l) (σ : St) (G : Glob) (R : A → St → Prop) (h : R (db (trueB N l)) σ) : AC Try.prog G 33 [dn N, di l] σ R := by
  refine ac_enter mixed Try.func33 rfl Try.ntmps33 (by simp only [go_sem]) fun hbd => ?_
  simp only [List.length_cons, List.length_nil, Nat.reduceAdd, Nat.reduceSub, List.replicate_succ, List.replicate_zero, List.cons_append, List.nil_append]
  simp only [go_sem, Try.results33]
  unfold LitV at hl
  have wn : IntKind.i64.wrap (0 - l) = -l := by rw [wrap64_id _ (by omega) (by omega)]; omega
  have hb := bit64 (x := N) (i := vr l - 1) hN (by unfold vr; omega)
  unfold trueB at h
  have wu : IntKind.u64.wrap ((vr l - 1 : Nat) : Int) = ((vr l - 1 : Nat) : Int) := u64_id (by unfold vr; omega)
  rcases (by omega : l < 0 ∨ 0 ≤ l) with hn | hp
  · have d1 : decide (l < 0) = true := decide_eq_true hn
    have d2 : decide (0 < l) = false := decide_eq_false (by omega)
    have w1 : IntKind.i64.wrap (-l - 1) = ((vr l - 1 : Nat) : Int) := by rw [wrap64_id _ (by omega) (by omega)]; unfold vr; omega
    rw [d2] at h
    simp only [go_sem, d1, wn, d2, w1, wu, hb, Try.results33]
    rw [beq_false] at h
    exact ret_d0 h
  · have d1 : decide (l < 0) = false := decide_eq_false (by omega)
    have d2 : decide (0 < l) = true := decide_eq_true (by omega)
    have w1 : IntKind.i64.wrap (l - 1) = ((vr l - 1 : Nat) : Int) := by rw [wrap64_id _ (by omega) (by omega)]; unfold vr; omega
    rw [d2] at h
    simp only [go_sem, d1, wn, d2, w1, wu, hb, Try.results33]
    rw [beq_true] at h
    exact ret_d0 h
def satB (N : Nat) (C : List (List Int)) : Bool := C.all fun c => c.any (trueB N)
theorem any_step {α : Type} {p : α → Bool} {l : List α} {j : Nat} (d : α) (h : j < l.length) : (l.take (j + 1)).any p = ((l.take j).any p || p (l.getD j d)) := by
  rw [take_getD d h, List.any_append, List.any_cons]
  simp
theorem sat_ac (N : Nat) (hN : N ≤ 1000000000000) (C : List (List Int)) (hC : C.length ≤ 1000000) (hc : ∀ c ∈ C, c.length ≤ 1000000 ∧ ∀ l ∈ c, LitV 60 l) (σ : St) (G : Glob) (R : A → St → Prop) (h : R (db (satB N C)) σ) : AC Try.prog G 26 [dn N, .d (csD C), .d (isD [])] σ R := by
  refine ac_enter mixed Try.func26 rfl Try.ntmps26 (by simp only [go_sem]) fun hbd => ?_
  simp only [List.length_cons, List.length_nil, Nat.reduceAdd, Nat.reduceSub, List.replicate_succ, List.replicate_zero, List.cons_append, List.nil_append]
  unfold isD
  simp only [go_sem, List.length_map, Try.results26]
  refine aw_loop (fun m fr st => m = 0 ∧ fr = [dn N, .d (csD C), .d (isD []), .any, .any, .any, .any, dn 0, .any, .any, .any, .any, .any, .any, .any, .any, .any, .any, .any, .any, .any, .any, .any, .any, .any, .any, .any, .any, .any, .any, .any, .any, .any, .any, .any, .any, .any, .any, .any, .any, .any, .any, .any, .any, .any, .any, .any, .any, .any, .any, .any, .any, .any] ∧ st = σ) 0 _
    (Wk.mask [0, 1, 2, 7] ⟨rfl, rfl, rfl⟩) ?_
  rintro m fr st ⟨-, rfl, rfl⟩
  unfold isD csD
  have hd0 : decide (((0 : Nat) : Int) < ((0 : Nat) : Int)) = false := rfl
  simp only [go_sem, List.length_map, hd0, Try.results26]
  refine aw_loop (fun m fr s => ∃ j : Nat, j ≤ C.length ∧ m = C.length - j ∧ (C.take j).all (fun c => c.any (trueB N)) = true ∧ fr = [dn N, .d (csD C), .any, .any, .any, .any, .any, .any, dn j, .any, .any, .any, .any, .any, .any, .any, .any, .any, .any, .any, .any, .any, .any, .any, .any, .any, .any, .any, .any, .any, .any, .any, .any, .any, .any, .any, .any, .any, .any, .any, .any, .any, .any, .any, .any, .any, .any, .any, .any, .any, .any, .any, .any] ∧ s = st) C.length _
    (Wk.mask [0, 1, 8] ⟨0, by omega, by omega, rfl, rfl, rfl⟩) ?_
  rintro m fr s ⟨j, hj, hm, hal, rfl, rfl⟩
  rcases Nat.lt_or_ge j C.length with hlt | hge
  · have hd : decide ((j : Int) < (C.length : Int)) = true := by simp; omega
    have w2 := wrapS j (by omega)
    have g0 : List.getD (C.map isD) j default = isD (C.getD j []) := getD_mapD hlt
    obtain ⟨hcl, hcv⟩ := hc _ (getD_mem [] hlt)
    have hnx := all_step (p := fun c => c.any (trueB N)) [] hlt hal
    have hst := all_stop (p := fun c => c.any (trueB N)) [] hlt
    generalize C.getD j [] = c at g0 hcl hcv hnx hst
    unfold csD
    simp only [go_sem, List.length_map, hd, Try.results26]
    refine aw_loop (fun m fr st => ∃ i : Nat, i ≤ c.length ∧ m = c.length - i ∧ fr = [dn N, .d (csD C), .any, .any, .any, .any, .any, .any, dn j, db ((c.take i).any (trueB N)), dn i, .any, .any, .any, .any, .any, .any, .any, .any, .any, .any, .any, .any, .any, .any, .any, .any, .any, .any, .any, .any, .any, .any, .any, .any, .any, .any, .any, .any, .any, .any, .any, .any, .any, .any, .any, .any, .any, .any, .any, .any, .any, .any] ∧ st = s) c.length _
      (Wk.mask [0, 1, 8, 9, 10] ⟨0, by omega, by omega, rfl, rfl⟩) ?_
    rintro q fr st ⟨i, hi, hq, rfl, rfl⟩
    unfold csD
    rcases Nat.lt_or_ge i c.length with ilt | ige
    · have id : decide ((i : Int) < (c.length : Int)) = true := by simp; omega
      have iw := wrapS i (by omega)
      have ig : List.getD (c.map iD) i default = iD (c.getD i 0) := getD_mapD ilt
      have hx := hcv _ (getD_mem 0 ilt)
      have ia := any_step (p := trueB N) 0 ilt
      generalize c.getD i 0 = x at ig hx ia
      generalize (c.take i).any (trueB N) = b at ia
      simp only [go_sem, List.length_map, g0, id, isD, Try.results26]
      refine ⟨⟨by omega, by omega⟩, ?_⟩
      cases b with
      | true =>
        simp only [go_sem, List.length_map, g0, ig, id, iw, isD, Try.results26]
        refine ex' (.bool true) ⟨fun q => Bool.noConfusion q, ?_⟩
        simp only [go_sem, List.length_map, g0, ig, id, iw, isD, Try.results26]
        exact Wk.mask [0, 1, 8, 9, 10] ⟨c.length - (i + 1), by omega, i + 1, ilt, rfl, by rw [ia]; rfl, rfl⟩
      | false =>
        simp only [go_sem, List.length_map, g0, ig, id, iw, isD, Try.results26]
        refine ⟨⟨by omega, by omega⟩, ⟨by omega, by omega⟩, ex' (.bool (trueB N x)) ⟨fun _ => ?_, ?_⟩⟩
        · simp only [go_sem, ig]
          exact ac' (true_ac N hN x hx _ _ _ (And.intro rfl rfl))
        simp only [go_sem, List.length_map, g0, ig, id, iw, isD, Try.results26]
        exact Wk.mask [0, 1, 8, 9, 10] ⟨c.length - (i + 1), by omega, i + 1, ilt, rfl, by rw [ia, Bool.false_or]; rfl, rfl⟩
    · have id : decide ((i : Int) < (c.length : Int)) = false := by simp; omega
      have htk : c.take i = c := List.take_of_length_le ige
      rw [htk]
      cases hb : c.any (trueB N) with
      | true =>
        simp only [go_sem, List.length_map, g0, id, w2, isD, Try.results26]
        refine ⟨⟨by omega, by omega⟩, Wk.mask [0, 1, 8] ⟨C.length - (j + 1), by omega, j + 1, hlt, rfl, by rw [hnx, hb], rfl, rfl⟩⟩
      | false =>
        simp only [go_sem, List.length_map, g0, id, w2, isD, Try.results26]
        have hf : satB N C = false := hst hb
        rw [hf] at h
        exact ⟨⟨by omega, by omega⟩, ret_d0 h⟩
  · have hd : decide ((j : Int) < (C.length : Int)) = false := by simp; omega
    rw [List.take_of_length_le hge] at hal
    have hf : satB N C = true := hal
    rw [hf] at h
    unfold csD
    simp only [go_sem, List.length_map, hd, Try.results26]
    exact ret_d0 h
end Go.Proofs.Ytnanofipjiclfaa
end PartX12

section PartQ31
/- The pigeons' formulas. -/
set_option linter.unusedSimpArgs false
set_option linter.unusedVariables false
namespace Go.Proofs.Ytnanofipjiclfaa
open Go Go.Ab

theorem trueB_tt {N : Nat} {β : Nat → Bool} {l : Int} (h0 : l ≠ 0) (hb : ∀ v, 0 < v → β v = N.testBit (v - 1)) : trueB N l = true ↔ TT β l := by
  unfold trueB TT
  rw [hb _ (by unfold vr; omega), beq_iff_eq]
  exact ⟨fun h => ⟨h0, h⟩, fun h => h.2⟩
theorem satB_c {N : Nat} {β : Nat → Bool} {C : List (List Int)} (h0 : ∀ c ∈ C, ∀ l ∈ c, l ≠ 0) (hb : ∀ v, 0 < v → β v = N.testBit (v - 1)) : satB N C = true ↔ SatC β C := by
  unfold satB SatC
  rw [List.all_eq_true]
  constructor
  · intro h c hc
    obtain ⟨m, hm, h2⟩ := List.any_eq_true.1 (h c hc)
    exact ⟨m, hm, (trueB_tt (h0 c hc m hm) hb).1 h2⟩
  · intro h c hc
    obtain ⟨m, hm, h2⟩ := h c hc
    exact List.any_eq_true.2 ⟨m, hm, (trueB_tt (h0 c hc m hm) hb).2 h2⟩
end Go.Proofs.Ytnanofipjiclfaa
end PartQ31
