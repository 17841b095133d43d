import Derived.Test.YtnanofipjiclfaaZ79

section PartX8
/- SolverFuel. -/
set_option linter.unusedSimpArgs false
set_option linter.unusedVariables false
set_option maxRecDepth 100000
namespace Go.Proofs.Ytnanofipjiclfaa
open Go Go.Ab
variable {I : Sl → Nat} {S : Sv} {σ : St}

section
variable {P : Program} {G : Glob} {e : Operand → A}
@[go_sem, go_sem ↓] theorem opG_max (c : Bool) (a b : Operand) (t u : TypeId) (k : A → St → Prop) : opG P G σ e c (.call ⟨.builtin .max, #[a, b], #[t, u]⟩) k = rdG P σ e (.call ⟨.builtin .max, #[a, b], #[t, u]⟩) fun p z => (c = true → p) ∧ k (.grd c z) σ := (rfl)
@[go_sem, go_sem ↓] theorem rdG_max (a b : Operand) (t u : TypeId) (k : Prop → A → Prop) : rdG P σ e (.call ⟨.builtin .max, #[a, b], #[t, u]⟩) k = rd P σ (fun x => (e x).strip) (.call ⟨.builtin .max, #[a, b], #[t, u]⟩) fun p z => k (([a, b].all fun x => (e x).cond) = true ∧ p) z := (rfl)
end
/-- What a verdict says when it is one. -/
structure Vs (C : List (List Int)) (asm : List Int) (x : Int) : Prop where
  v3 : x = 0 ∨ x = 1 ∨ x = 2
  y : x = 1 → SatA C asm
  n : x = 2 → ¬ SatA C asm
theorem Vs.eq {C : List (List Int)} {asm : List Int} {x y : Int} (h : Vs C asm x) (k : Vs C asm y) (hx : x ≠ 0) (hy : y ≠ 0) : x = y := by
  rcases h.v3 with e | e | e
  · exact absurd e hx
  · rcases k.v3 with e' | e' | e'
    · exact absurd e' hy
    · rw [e, e']
    · exact absurd (h.y e) (k.n e')
  · rcases k.v3 with e' | e' | e'
    · exact absurd e' hy
    · exact absurd (k.y e') (h.n e)
    · rw [e, e']
theorem Vx.vs {C : List (List Int)} {asm : List Int} {x : Int} {L : Nat} (h : Vx C asm x L) : Vs C asm x := ⟨h.v3, h.y, h.n⟩
theorem Slv.vs {b M F : Nat} {asm : List Int} {S N : Sv} {v : Int} (h : Slv b M asm F S N v) : Vs S.cls asm v := ⟨h.v3, h.sat, h.unsat⟩
theorem i64_min (a b : Nat) (ha : a ≤ 65535) (hb : b ≤ 65535) : IntKind.i64.wrap (min (a : Int) (b : Int)) = ((min a b : Nat) : Int) := by
  rw [wrap64_id _ (by omega) (by omega)]; omega
theorem i64_max (a b : Nat) (ha : a ≤ 65535) (hb : b ≤ 65535) : IntKind.i64.wrap (max (a : Int) (b : Int)) = ((max a b : Nat) : Int) := by
  rw [wrap64_id _ (by omega) (by omega)]; omega
/-- One search from S0, as the model gives it. -/
structure Sch (b M : Nat) (asm : List Int) (F : Nat) (S0 S : Sv) (x : Int) : Prop where
  slv : Slv b M asm F S0 S x
  run : ∃ n r, n = pot b (S0.head asm F) false + 1 + 8000000 ∧ Sv.srch (S0.start asm F).2 n (S0.head asm F) 0 0 = some r ∧ S = r.1.finish F ∧ x = r.2
theorem Sch.more {b M F d : Nat} {asm : List Int} {S0 S T : Sv} {x y : Int} (h : Sch b M asm F S0 S x) (k : Sch b M asm (F + d) S0 T y) (h0 : x ≠ 0) : y = x ∧ T = upL d S := by
  obtain ⟨n, r, hn, hr, rfl, rfl⟩ := h.run
  obtain ⟨n', r', hn', hr', rfl, rfl⟩ := k.run
  exact more_fuel (M := M) hn hn' hr hr' h0
set_option maxHeartbeats 8000000 in
theorem law7_ac (n : Int) (C : List (List Int)) (hC : C.length ≤ 1000000000000000) (hCc : ∀ c ∈ C, c.length ≤ 1000000000000000) (asm : List Int) (hA : asm.length ≤ 1000000000000000) (ls mo : Nat) (hls : ls ≤ 65535) (hmo : mo ≤ 65535) (σ : St) (G : Glob) (R : A → St → Prop) (h : ∀ s, R (db true) s) : AC Try.prog G 7 [di n, .d (csD C), .d (isD asm), .d (.int .u16 ls), .d (.int .u16 mo)] σ R := by
  refine ac_enterC [3, 5, 6, 7, 8, 10, 12, 13, 15, 16, 19, 20, 21, 23] mixed Try.func7 rfl Try.ntmps7 (by simp only [go_sem]) fun hbd => ?_
  simp only [List.length_cons, List.length_nil, Nat.reduceAdd, Nat.reduceSub, List.replicate_succ, List.replicate_zero, List.cons_append, List.nil_append]
  simp only [go_sem, Try.results7]
  refine aw_cut (fun fr st => fr = [di n, .d (csD C), .d (isD asm), .d (.int .u16 ls), .d (.int .u16 mo), .any, .any, .any, .any, .any, .any, .any, .any, .any, .any, .any, .any, .any, .any, .any, .any, .any, .any, .any, .any, .any, .any, .any, .any, .any, .any, .any, .any, .any, .any, .any, .any, .any, .any, .any, .any, .any, .any, .any, .any, .any, .any, .any, .any, .any, .any, .any, .any, .any, .any, .any, .any, .any, .any, .any, .any, .any, .any, .any, .any, .any, .any, .any, .any, .any, .any, .any, .any, .any, .any, .any, .any, .any, .any, .any, .any, .any, .any, .any, .any, .any, .any, .any, .any, .any, .any, .any, .any, .any, .any, .any, .any, .any, .any, .any, .any, .any, .any, .any, .any, .any, .any, .any, .any, .any, .any, .any, .any, .any, .any, .any, .any, .any, .any, .any, .any, .any, .any, .any, .any, .any, .any, .any, .any, .any, .any, .any, .any, .any, .any, .any, .any, .any, .any, .any, .any, .any, .any, .any, .any, .any, .any, .any, .any, .any, .any, .any, .any, .any, .any, .any, .any, .any, .any, .any, .any, .any, .any, .any, .any, .any, .any, .any, .any, .any, .any, .any, .any, .any, .any, .any, .any, .any, .any, .any, .any, .any, .any, .any, .any, .any, .any, .any, .any, .any, .any, .any, .any, .any, .any, .any] ∧ st = σ) ?_ ?_
  · simp only [go_sem, Try.results7]
    refine ac' (head_ac _ _ _ ?_)
    simp only [go_sem, Try.results7]
    exact Wk.mask [0, 1, 2, 3, 4] ⟨rfl, rfl⟩
  rintro fr st ⟨rfl, rfl⟩
  simp only [go_sem, Try.results7]
  refine aw_cut (fun fr st' => fitsB n C = true ∧ asm.length ≤ 20 ∧ validB n asm = true ∧ fr = [di n, .d (csD C), .d (isD asm), .d (.int .u16 ls), .d (.int .u16 mo), .any, .any, .any, .any, .any, .any, .any, .any, .any, .any, .any, .any, .any, .any, .any, .any, .any, .any, .any, .any, .any, .any, .any, .any, .any, .any, .any, .any, .any, .any, .any, .any, .any, .any, .any, .any, .any, .any, .any, .any, .any, .any, .any, .any, .any, .any, .any, .any, .any, .any, .any, .any, .any, .any, .any, .any, .any, .any, .any, .any, .any, .any, .any, .any, .any, .any, .any, .any, .any, .any, .any, .any, .any, .any, .any, .any, .any, .any, .any, .any, .any, .any, .any, .any, .any, .any, .any, .any, .any, .any, .any, .any, .any, .any, .any, .any, .any, .any, .any, .any, .any, .any, .any, .any, .any, .any, .any, .any, .any, .any, .any, .any, .any, .any, .any, .any, .any, .any, .any, .any, .any, .any, .any, .any, .any, .any, .any, .any, .any, .any, .any, .any, .any, .any, .any, .any, .any, .any, .any, .any, .any, .any, .any, .any, .any, .any, .any, .any, .any, .any, .any, .any, .any, .any, .any, .any, .any, .any, .any, .any, .any, .any, .any, .any, .any, .any, .any, .any, .any, .any, .any, .any, .any, .any, .any, .any, .any, .any, .any, .any, .any, .any, .any, .any, .any, .any, .any, .any, .any, .any, .any] ∧ st' = st) ?_ ?_
  · simp only [go_sem, Try.results7]
    refine ac' (fits_ac n C hC hCc _ _ _ ?_)
    cases hf : fitsB n C with
    | false =>
      unfold isD
      simp only [go_sem, Try.results7]
      refine ex' (.bool true) ⟨fun q => Bool.noConfusion q, ?_⟩
      simp only [go_sem, Try.results7]
      exact ⟨_, _, Weak.refl _ _ _ _, h _⟩
    | true =>
      obtain ⟨m, rfl, hm, -, -⟩ := fits_of hf
      unfold isD
      simp only [go_sem, List.length_map, Try.results7]
      refine ex' (.bool (validB m asm)) ⟨fun q => ?_, ?_⟩
      · simp only [go_sem]
        exact ⟨q, ac' (validR_ac m (by omega) asm (by omega) _ _ _ (And.intro rfl rfl))⟩
      simp only [go_sem, List.length_map, Try.results7]
      refine ⟨fun e => ⟨_, _, Weak.refl _ _ _ _, h _⟩, fun e => ?_⟩
      simp only [Bool.or_eq_false_iff, decide_eq_false_iff_not, Bool.not_eq_false'] at e
      exact Wk.mask [0, 1, 2, 3, 4] ⟨by omega, e.2, rfl, rfl⟩
  rintro fr s1 ⟨hf, hal, hva, rfl, rfl⟩
  obtain ⟨m, rfl, hm, hCl, hCv⟩ := fits_of hf
  have hav := validB_iff.1 hva
  obtain ⟨hp1, hp2⟩ := pow12 hm
  have hCv' : ∀ c ∈ C, (∀ l ∈ c, LitV m l) ∧ c.length ≤ 1000000 := fun c hc => ⟨(hCv c hc).1, by have := (hCv c hc).2; omega⟩
  have q1 := i64_min ls mo hls hmo
  have q2 := i64_max ls mo hls hmo
  have hF1 : min ls mo ≤ 65535 := by omega
  have hF2 : max ls mo ≤ 65535 := by omega
  obtain ⟨F1, hF1e⟩ : ∃ F1, F1 = min ls mo := ⟨_, rfl⟩
  obtain ⟨d, hde⟩ : ∃ d, max ls mo = F1 + d := ⟨max ls mo - min ls mo, by omega⟩
  rw [← hF1e] at q1 hF1
  rw [hde] at q2 hF2
  obtain ⟨S0, hS0⟩ : ∃ S0, S0 = addAll m C := ⟨_, rfl⟩
  simp only [go_sem, Try.results7]
  refine aw_cut (fun fr s => ∃ I J, fr = [dn m, .d (csD C), .d (isD asm), .d (.int .u16 ls), .d (.int .u16 mo), .any, .any, .any, .any, .any, .any, .ref (I .st) 0, .ref (J .st) 0, .any, .any, .any, .any, .any, .any, .any, .any, .any, .any, .any, .any, .any, .any, .any, .any, .any, .any, .any, .any, .any, .any, .any, .any, .any, .any, .any, .any, .any, .any, .any, .any, .any, .any, .any, .any, .any, .any, .any, .any, .any, .any, .any, .any, .any, .any, .any, .any, .any, .any, .any, .any, .any, .any, .any, .any, .any, .any, .any, .any, .any, .any, .any, .any, .any, .any, .any, .any, .any, .any, .any, .any, .any, .any, .any, .any, .any, .any, .any, .any, .any, .any, .any, .any, .any, .any, .any, .any, .any, .any, .any, .any, .any, .any, .any, .any, .any, .any, .any, .any, .any, .any, .any, .any, .any, .any, .any, .any, .any, .any, .any, .any, .any, .any, .any, .any, .any, .any, .any, .any, .any, .any, .any, .any, .any, .any, .any, .any, .any, .any, .any, .any, .any, .any, .any, .any, .any, .any, .any, .any, .any, .any, .any, .any, .any, .any, .any, .any, .any, .any, .any, .any, .any, .any, .any, .any, .any, .any, .any, .any, .any, .any, .any, .any, .any, .any, .any, .any, .any, .any, .any, .any, .any, .any, .any, .any, .any, .any, .any, .any, .any, .any, .any] ∧ Duo s1 m 100 C 0 0 I S0 100 C 0 0 J S0 s) ?_ ?_
  · simp only [go_sem, Try.results7]
    obtain ⟨a1, a2, a3⟩ := addAll_cls m (by omega) C (by omega) hCv'
    refine ac' (with_ac m (by omega) C (by omega) hCv' _ _ _ fun I s2 k1 k2 => ?_)
    have hI : Hed s1 m 100 C 0 0 I (addAll m C) s2 := ⟨k1, k2, ⟨a1.rest.mono (by omega), a1.vars, a1.cls⟩, by rw [a2]; exact Nat.le_refl _, by rw [a3]; exact Nat.le_refl _⟩
    simp only [go_sem, Try.results7]
    refine ac' (with_ac m (by omega) C (by omega) hCv' _ _ _ fun J s3 k3 k4 => ?_)
    simp only [go_sem, Try.results7]
    rw [hS0]
    exact Wk.mask [0, 1, 2, 3, 4, 11, 12] ⟨I, J, rfl, duo_new hI k3 k4 ⟨a1.rest.mono (by omega), a1.vars, a1.cls⟩ (by rw [a2]; exact Nat.le_refl _) (by rw [a3]; exact Nat.le_refl _)⟩
  rintro fr s ⟨I, J, rfl, hD⟩
  simp only [go_sem, Try.results7]
  refine aw_cut (fun fr s => ∃ I S x, fr = [dn m, .d (csD C), .d (isD asm), .d (.int .u16 ls), .d (.int .u16 mo), .any, .any, .any, .any, .any, .any, .ref (I .st) 0, .ref (J .st) 0, di x, di 0, .any, .any, .any, .any, .any, .any, .any, .any, .any, .any, .any, .any, .any, .any, .any, .any, .any, .any, .any, .any, .any, .any, .any, .any, .any, .any, .any, .any, .any, .any, .any, .any, .any, .any, .any, .any, .any, .any, .any, .any, .any, .any, .any, .any, .any, .any, .any, .any, .any, .any, .any, .any, .any, .any, .any, .any, .any, .any, .any, .any, .any, .any, .any, .any, .any, .any, .any, .any, .any, .any, .any, .any, .any, .any, .any, .any, .any, .any, .any, .any, .any, .any, .any, .any, .any, .any, .any, .any, .any, .any, .any, .any, .any, .any, .any, .any, .any, .any, .any, .any, .any, .any, .any, .any, .any, .any, .any, .any, .any, .any, .any, .any, .any, .any, .any, .any, .any, .any, .any, .any, .any, .any, .any, .any, .any, .any, .any, .any, .any, .any, .any, .any, .any, .any, .any, .any, .any, .any, .any, .any, .any, .any, .any, .any, .any, .any, .any, .any, .any, .any, .any, .any, .any, .any, .any, .any, .any, .any, .any, .any, .any, .any, .any, .any, .any, .any, .any, .any, .any, .any, .any, .any, .any, .any, .any, .any, .any, .any, .any, .any, .any] ∧ Duo s1 m 101 C 100000 4096 I S 100 C 0 0 J S0 s ∧ Sch m 100 asm F1 S0 S x) ?_ ?_
  · simp only [go_sem, q1, Try.results7]
    refine ac' (hed_solveG hD.a (by omega) (by omega) (by omega) asm (by omega) hav F1 (by omega) _ _ fun n1 r hn1 hr k1 I' s' k2 k3 => ?_)
    have hD2 := hD.fst k3 k2
    rw [← k3.st]
    simp only [go_sem, Try.results7]
    exact Wk.mask [0, 1, 2, 3, 4, 11, 12, 13, 14] ⟨I', _, _, rfl, ⟨hD2.a.mono (by omega) (by omega) (by omega), hD2.b, hD2.d⟩, k1, n1, r, hn1, hr, rfl, rfl⟩
  clear hD
  rintro fr s ⟨I, S, x, rfl, hD, hx⟩
  simp only [go_sem, Try.results7]
  refine aw_cut (fun fr s => ∃ J T y, fr = [dn m, .d (csD C), .d (isD asm), .d (.int .u16 ls), .d (.int .u16 mo), .any, .any, .any, .any, .any, .any, .ref (I .st) 0, .ref (J .st) 0, di x, di 0, di y, di 0, .any, .any, .any, .any, .any, .any, .any, .any, .any, .any, .any, .any, .any, .any, .any, .any, .any, .any, .any, .any, .any, .any, .any, .any, .any, .any, .any, .any, .any, .any, .any, .any, .any, .any, .any, .any, .any, .any, .any, .any, .any, .any, .any, .any, .any, .any, .any, .any, .any, .any, .any, .any, .any, .any, .any, .any, .any, .any, .any, .any, .any, .any, .any, .any, .any, .any, .any, .any, .any, .any, .any, .any, .any, .any, .any, .any, .any, .any, .any, .any, .any, .any, .any, .any, .any, .any, .any, .any, .any, .any, .any, .any, .any, .any, .any, .any, .any, .any, .any, .any, .any, .any, .any, .any, .any, .any, .any, .any, .any, .any, .any, .any, .any, .any, .any, .any, .any, .any, .any, .any, .any, .any, .any, .any, .any, .any, .any, .any, .any, .any, .any, .any, .any, .any, .any, .any, .any, .any, .any, .any, .any, .any, .any, .any, .any, .any, .any, .any, .any, .any, .any, .any, .any, .any, .any, .any, .any, .any, .any, .any, .any, .any, .any, .any, .any, .any, .any, .any, .any, .any, .any, .any, .any, .any, .any, .any, .any, .any, .any] ∧ Duo s1 m 101 C 100000 4096 I S 101 C 100000 4096 J T s ∧ Sch m 100 asm (F1 + d) S0 T y) ?_ ?_
  · simp only [go_sem, q2, hde, Try.results7]
    refine ac' (hed_solveG hD.b (by omega) (by omega) (by omega) asm (by omega) hav (F1 + d) (by omega) _ _ fun n1 r hn1 hr k1 I' s' k2 k3 => ?_)
    have hD2 := (hD.symm.fst k3 k2).symm
    rw [← k3.st]
    simp only [go_sem, Try.results7]
    exact Wk.mask [0, 1, 2, 3, 4, 11, 12, 13, 14, 15, 16] ⟨I', _, _, rfl, ⟨hD2.a, hD2.b.mono (by omega) (by omega) (by omega), hD2.d⟩, k1, n1, r, hn1, hr, rfl, rfl⟩
  clear hD
  rintro fr s ⟨J, T, y, rfl, hD, hy⟩
  have hS0u : S0.used = 0 := by rw [hS0]; exact (addAll_cls m (by omega) C (by omega) hCv').2.1
  have hS0c : S0.cls = C := by rw [hS0]; exact (addAll_cls m (by omega) C (by omega) hCv').1.cls
  have hu1 : S.used ≤ F1 := by have := hx.slv.used2; omega
  have hu2 : T.used ≤ F1 + d := by have := hy.slv.used2; omega
  have hxv := hx.slv.vs
  have hyv := hy.slv.vs
  rw [hS0c] at hxv hyv
  have z0 : ((0 : Int) != 0) = false := rfl
  have z1 : decide (((F1 : Nat) : Int) < (S.used : Int)) = false := decide_eq_false (by omega)
  have z2 : decide (((F1 + d : Nat) : Int) < (T.used : Int)) = false := decide_eq_false (by omega)
  simp only [go_sem, Try.results7]
  refine aw_cut (fun fr s' => fr = [.any, .any, .d (isD asm), .d (.int .u16 ls), .d (.int .u16 mo), .any, .any, .any, .any, .any, .any, .ref (I .st) 0, .ref (J .st) 0, di x, .any, di y, .any, .any, .any, .any, .any, .any, .any, .any, .any, .any, .any, .any, .any, .any, .any, .any, .any, .any, .any, .any, .any, .any, .any, .any, .any, .any, .any, .any, .any, .any, .any, .any, .any, .any, .any, .any, .any, .any, .any, .any, .any, .any, .any, .any, .any, .any, .any, .any, .any, .any, .any, .any, .any, .any, .any, .any, .any, .any, .any, .any, .any, .any, .any, .any, .any, .any, .any, .any, .any, .any, .any, .any, .any, .any, .any, .any, .any, .any, .any, .any, .any, .any, .any, .any, .any, .any, .any, .any, .any, .any, .any, .any, .any, .any, .any, .any, .any, .any, .any, .any, .any, .any, .any, .any, .any, .any, .any, .any, .any, .any, .any, .any, .any, .any, .any, .any, .any, .any, .any, .any, .any, .any, .any, .any, .any, .any, .any, .any, .any, .any, .any, .any, .any, .any, .any, .any, .any, .any, .any, .any, .any, .any, .any, .any, .any, .any, .any, .any, .any, .any, .any, .any, .any, .any, .any, .any, .any, .any, .any, .any, .any, .any, .any, .any, .any, .any, .any, .any, .any, .any, .any, .any, .any, .any, .any, .any, .any, .any, .any, .any] ∧ s' = s) ?_ ?_
  · simp only [go_sem, z0, Try.results7]
    refine ex' (iD S.used) ⟨fun q => ?_, ?_⟩
    · simp only [go_sem]
      exact ac' (used_ac hD.a.hs.sol _ _ (And.intro rfl rfl))
    simp only [go_sem, z0, q1, z1, Try.results7]
    refine ex' (iD T.used) ⟨fun q => ?_, ?_⟩
    · simp only [go_sem]
      exact ac' (used_ac hD.b.hs.sol _ _ (And.intro rfl rfl))
    simp only [go_sem, z0, q1, z1, q2, hde, z2, Try.results7]
    exact Wk.mask [2, 3, 4, 11, 12, 13, 15] ⟨rfl, rfl⟩
  rintro fr s' ⟨rfl, rfl⟩
  simp only [go_sem, Try.results7]
  refine aw_cut (fun fr s => x = 0 ∧ fr = [.any, .any, .d (isD asm), .d (.int .u16 ls), .d (.int .u16 mo), .any, .any, .any, .any, .any, .any, .ref (I .st) 0, .ref (J .st) 0, .any, .any, di y, .any, .any, .any, .any, .any, .any, .any, .any, .any, .any, .any, .any, .any, .any, .any, .any, .any, .any, .any, .any, .any, .any, .any, .any, .any, .any, .any, .any, .any, .any, .any, .any, .any, .any, .any, .any, .any, .any, .any, .any, .any, .any, .any, .any, .any, .any, .any, .any, .any, .any, .any, .any, .any, .any, .any, .any, .any, .any, .any, .any, .any, .any, .any, .any, .any, .any, .any, .any, .any, .any, .any, .any, .any, .any, .any, .any, .any, .any, .any, .any, .any, .any, .any, .any, .any, .any, .any, .any, .any, .any, .any, .any, .any, .any, .any, .any, .any, .any, .any, .any, .any, .any, .any, .any, .any, .any, .any, .any, .any, .any, .any, .any, .any, .any, .any, .any, .any, .any, .any, .any, .any, .any, .any, .any, .any, .any, .any, .any, .any, .any, .any, .any, .any, .any, .any, .any, .any, .any, .any, .any, .any, .any, .any, .any, .any, .any, .any, .any, .any, .any, .any, .any, .any, .any, .any, .any, .any, .any, .any, .any, .any, .any, .any, .any, .any, .any, .any, .any, .any, .any, .any, .any, .any, .any, .any, .any, .any, .any, .any, .any] ∧ s = s') ?_ ?_
  · simp only [go_sem, Try.results7]
    by_cases h0 : x = 0
    · have e0 : (x != 0) = false := by rw [h0]; rfl
      simp only [go_sem, e0, Try.results7]
      exact Wk.mask [2, 3, 4, 11, 12, 15] ⟨h0, rfl, rfl⟩
    · have e0 : (x != 0) = true := by simpa using h0
      obtain ⟨hyx, hTS⟩ := hx.more hy h0
      simp only [go_sem, e0, Try.results7]
      have hval : (valsM S).length ≤ 12 := by
        unfold valsM
        rcases hx.slv.v3 with e | e | e
        · exact absurd e h0
        · have h5 := (hx.slv.yes e).2.2.1
          have h6 : S0.vars = m := by rw [hS0]; exact (addAll_cls m (by omega) C (by omega) hCv').1.vars
          split
          · omega
          · simp
        · rw [(hx.slv.no e).2.1]; simp
      have hvl : S.satisfied = true → S.values.length ≤ 1000000 := fun e => by
        unfold valsM at hval
        rw [e, if_pos rfl] at hval
        omega
      have hcl : S.refuted = true → S.core.length ≤ 1000000 := fun e => by
        rcases hx.slv.v3 with e' | e' | e'
        · exact absurd e' h0
        · rw [(hx.slv.yes e').1] at e; cases e
        · have := (hx.slv.no e').2.2.2.1
          omega
      have hcl2 : (coreM S).length ≤ 1000000 := by
        unfold coreM
        split
        · exact hcl ‹_›
        · simp
      have hzS := hD.a.cls.rest.szs
      have hzT := hD.b.cls.rest.szs
      have hv1 : valsM T = valsM S := by rw [hTS]; rfl
      have hv2 : coreM T = coreM S := by rw [hTS]; rfl
      have hv3 : proofM T = proofM S := by rw [hTS]; rfl
      have hv4 : T.used = S.used := by rw [hTS]; rfl
      have hvl2 : T.satisfied = true → T.values.length ≤ 1000000 := by rw [hTS]; exact hvl
      have hcl3 : T.refuted = true → T.core.length ≤ 1000000 := by rw [hTS]; exact hcl
      have hps : ∀ s ∈ proofM S, s.1.length ≤ 1000000 ∧ s.2.length ≤ 1000000 := fun p hp => by
        obtain ⟨s, hs, rfl⟩ := List.mem_map.1 hp
        have := hzS.2.2 s hs
        exact ⟨this.1, by rw [List.length_map]; exact this.2.1⟩
      have hpl : (proofM S).length ≤ 1000000 := by unfold proofM; rw [List.length_map]; have := hzS.1; omega
      refine aw_cut (fun fr s => fr = [.any, .any, .d (isD asm), .d (.int .u16 ls), .d (.int .u16 mo), .any, .any, .any, .any, .any, .any, .ref (I .st) 0, .ref (J .st) 0, di x, .any, di y, .any, .d (bsD (valsM S)), .d (bsD (valsM S)), .any, .any, .any, .any, .any, .any, .any, .any, .any, .any, .any, .any, .any, .any, .any, .any, .any, .any, .any, .any, .any, .any, .any, .any, .any, .any, .any, .any, .any, .any, .any, .any, .any, .any, .any, .any, .any, .any, .any, .any, .any, .any, .any, .any, .any, .any, .any, .any, .any, .any, .any, .any, .any, .any, .any, .any, .any, .any, .any, .any, .any, .any, .any, .any, .any, .any, .any, .any, .any, .any, .any, .any, .any, .any, .any, .any, .any, .any, .any, .any, .any, .any, .any, .any, .any, .any, .any, .any, .any, .any, .any, .any, .any, .any, .any, .any, .any, .any, .any, .any, .any, .any, .any, .any, .any, .any, .any, .any, .any, .any, .any, .any, .any, .any, .any, .any, .any, .any, .any, .any, .any, .any, .any, .any, .any, .any, .any, .any, .any, .any, .any, .any, .any, .any, .any, .any, .any, .any, .any, .any, .any, .any, .any, .any, .any, .any, .any, .any, .any, .any, .any, .any, .any, .any, .any, .any, .any, .any, .any, .any, .any, .any, .any, .any, .any, .any, .any, .any, .any, .any, .any, .any, .any, .any, .any, .any, .any] ∧ s = s') ?_ ?_
      · simp only [go_sem, Try.results7]
        refine ac' (values_ac hD.a.hs.sol hvl _ _ ?_)
        simp only [go_sem, Try.results7]
        refine ac' (values_ac hD.b.hs.sol hvl2 _ _ ?_)
        rw [hv1]
        simp only [go_sem, Try.results7]
        exact Wk.mask [2, 3, 4, 11, 12, 13, 15, 17, 18] ⟨rfl, rfl⟩
      rintro fr s ⟨rfl, rfl⟩
      generalize hV : valsM S = V at hval
      have y0 : (x == y) = true := by rw [hyx]; simp
      have y1 : ((V.length : Int) == (V.length : Int)) = true := by simp
      have y2 : ((bitsN V : Int) == (bitsN V : Int)) = true := by simp
      have y3 : ((S.used : Int) == (S.used : Int)) = true := by simp
      unfold bsD
      simp only [go_sem, List.length_map, y0, y1, Try.results7]
      refine ex' (iD (bitsN V)) ⟨fun q => ?_, ?_⟩
      · simp only [go_sem]
        exact ac' (bits_ac V (by omega) _ _ _ (And.intro rfl rfl))
      simp only [go_sem, List.length_map, y0, y1, Try.results7]
      refine ex' (iD (bitsN V)) ⟨fun q => ?_, ?_⟩
      · simp only [go_sem]
        exact ac' (bits_ac V (by omega) _ _ _ (And.intro rfl rfl))
      simp only [go_sem, List.length_map, y0, y1, y2, Try.results7]
      refine ex' (isD (coreM S)) ⟨fun q => ?_, ?_⟩
      · simp only [go_sem]
        exact ac' (core_ac hD.a.hs.sol hcl _ _ (And.intro rfl rfl))
      simp only [go_sem, List.length_map, y0, y1, y2, Try.results7]
      refine ex' (isD (coreM S)) ⟨fun q => ?_, ?_⟩
      · simp only [go_sem]
        refine ac' (core_ac hD.b.hs.sol hcl3 _ _ ?_)
        rw [hv2]
        exact And.intro rfl rfl
      simp only [go_sem, List.length_map, y0, y1, y2, Try.results7]
      refine ex' (.bool true) ⟨fun q => ?_, ?_⟩
      · simp only [go_sem]
        exact ac' (sameR_ac (coreM S) hcl2 _ _ _ (And.intro rfl rfl))
      simp only [go_sem, List.length_map, y0, y1, y2, Try.results7]
      refine ex' (prfD (proofM S)) ⟨fun q => ?_, ?_⟩
      · simp only [go_sem]
        exact ac' (proof_ac hD.a.hs.sol hzS.1 hzS.2.1 hzS.2.2 _ _ (And.intro rfl rfl))
      simp only [go_sem, List.length_map, y0, y1, y2, Try.results7]
      refine ex' (prfD (proofM S)) ⟨fun q => ?_, ?_⟩
      · simp only [go_sem]
        refine ac' (proof_ac hD.b.hs.sol hzT.1 hzT.2.1 hzT.2.2 _ _ ?_)
        rw [hv3]
        exact And.intro rfl rfl
      simp only [go_sem, List.length_map, y0, y1, y2, Try.results7]
      refine ex' (.bool true) ⟨fun q => ?_, ?_⟩
      · simp only [go_sem]
        exact ac' (sameSteps_ac (proofM S) hpl hps _ _ _ (And.intro rfl rfl))
      simp only [go_sem, List.length_map, y0, y1, y2, Try.results7]
      refine ex' (iD S.used) ⟨fun q => ?_, ?_⟩
      · simp only [go_sem]
        exact ac' (used_ac hD.a.hs.sol _ _ (And.intro rfl rfl))
      simp only [go_sem, List.length_map, y0, y1, y2, Try.results7]
      refine ex' (iD S.used) ⟨fun q => ?_, ?_⟩
      · simp only [go_sem]
        refine ac' (used_ac hD.b.hs.sol _ _ ?_)
        rw [hv4]
        exact And.intro rfl rfl
      simp only [go_sem, List.length_map, y0, y1, y2, y3, Try.results7]
      exact ⟨_, _, Weak.refl _ _ _ _, h _⟩
  rintro fr s ⟨rfl, rfl, rfl⟩
  have hD0 : Duo s1 m 110 C 10000000 1000000 I S 110 C 10000000 1000000 J T s := ⟨hD.a.mono (by omega) (by omega) (by omega), hD.b.mono (by omega) (by omega) (by omega), hD.d⟩
  clear hxv hx hu1 hu2 z1 z2
  simp only [go_sem, Try.results7]
  refine aw_cut (fun fr s => ∃ I S, fr = [.any, .any, .d (isD asm), .any, .any, .any, .any, .any, .any, .any, .any, .ref (I .st) 0, .ref (J .st) 0, .any, .any, di y, .any, .any, .any, .any, .any, .any, .any, .any, .any, .any, .any, .any, .any, .any, .any, .any, .any, .any, .any, .any, .any, .any, .any, .any, .any, .any, .any, .any, .any, .any, .any, .any, .any, .any, .any, .any, .any, .any, .any, .any, .any, .any, .any, .any, .any, .any, .any, .any, .any, .any, .any, .any, .any, .any, .any, .any, .any, .any, .any, .any, .any, .any, .any, .any, .any, .any, .any, .any, .any, .any, .any, .any, .any, .any, .any, .any, .any, .any, .any, .any, .any, .any, .any, .any, .any, .any, .any, .any, .any, .any, .any, .any, .any, .any, .any, .any, .any, .any, .any, .any, .any, .any, .any, .any, .any, .any, .any, .any, .any, .any, .any, .any, .any, .any, .any, .any, .any, .any, .any, .any, .any, .any, .any, .any, .any, .any, .any, .any, .any, .any, .any, .any, .any, .any, .any, .any, .any, .any, .any, .any, .any, .any, .any, .any, .any, .any, .any, .any, .any, .any, .any, .any, .any, .any, .any, .any, .any, .any, .any, .any, .any, .any, .any, .any, .any, .any, .any, .any, .any, .any, .any, .any, .any, .any, .any, .any, .any, .any, .any, .any] ∧ Duo s1 m 120 C 20000000 2000000 I S 110 C 10000000 1000000 J T s) ?_ ?_
  · simp only [go_sem, Try.results7]
    refine aw_loop (fun q fr s => ∃ (j : Nat) (I : Sl → Nat) (S : Sv), j ≤ 5 ∧ q = 5 - j ∧ fr = [.any, .any, .d (isD asm), .d (.int .u16 ls), .d (.int .u16 mo), .any, .any, .any, .any, .any, .any, .ref (I .st) 0, .ref (J .st) 0, .any, .any, di y, .any, .any, .any, .any, .any, .any, .any, .any, .any, .any, .any, .any, .any, .any, .any, .any, .any, .any, .any, .any, .any, .any, .any, .any, .any, .any, .any, .any, .any, .any, .any, .any, .any, .any, .any, .any, .any, .any, .any, .any, .any, .any, .any, .any, .any, .any, .any, .any, .any, .any, .any, .any, .any, .any, .any, .any, .any, .any, .any, .any, .any, .any, .any, .any, .any, .any, .any, .any, .any, .any, .any, .any, .any, .any, .any, .any, .any, .any, .any, .any, .any, .any, .any, .any, .any, .any, .any, .any, .any, .any, .any, .any, .any, .any, .any, .any, .any, .any, .any, .any, .any, .any, .any, .any, .any, .any, .any, .any, .any, .any, .any, .any, .any, .any, .any, .any, .any, .any, .any, .any, dn j, .any, .any, .any, .any, .any, .any, .any, .any, .any, .any, .any, .any, .any, .any, .any, .any, .any, .any, .any, .any, .any, .any, .any, .any, .any, .any, .any, .any, .any, .any, .any, .any, .any, .any, .any, .any, .any, .any, .any, .any, .any, .any, .any, .any, .any, .any, .any, .any, .any, .any, .any, .any, .any, .any, .any, .any, .any, .any, .any] ∧ Duo s1 m (110 + j) C (10000000 + 100000 * j) (1000000 + 4096 * j) I S 110 C 10000000 1000000 J T s) 5 _ (Wk.mask [2, 3, 4, 11, 12, 15, 136] ⟨0, I, S, by omega, by omega, rfl, hD0⟩) ?_
    clear hD hD0
    rintro q fr s ⟨j, I, S, hj, hq, rfl, hD⟩
    simp only [go_sem, Try.results7]
    refine aw_cut (fun fr s' => j < 5 ∧ fr = [.any, .any, .d (isD asm), .d (.int .u16 ls), .d (.int .u16 mo), .any, .any, .any, .any, .any, .any, .ref (I .st) 0, .ref (J .st) 0, .any, .any, di y, .any, .any, .any, .any, .any, .any, .any, .any, .any, .any, .any, .any, .any, .any, .any, .any, .any, .any, .any, .any, .any, .any, .any, .any, .any, .any, .any, .any, .any, .any, .any, .any, .any, .any, .any, .any, .any, .any, .any, .any, .any, .any, .any, .any, .any, .any, .any, .any, .any, .any, .any, .any, .any, .any, .any, .any, .any, .any, .any, .any, .any, .any, .any, .any, .any, .any, .any, .any, .any, .any, .any, .any, .any, .any, .any, .any, .any, .any, .any, .any, .any, .any, .any, .any, .any, .any, .any, .any, .any, .any, .any, .any, .any, .any, .any, .any, .any, .any, .any, .any, .any, .any, .any, .any, .any, .any, .any, .any, .any, .any, .any, .any, .any, .any, .any, .any, .any, .any, .any, .any, dn j, .any, .any, .any, .any, .any, .any, .any, .any, .any, .any, .any, .any, .any, .any, .any, .any, .any, .any, .any, .any, .any, .any, .any, .any, .any, .any, .any, .any, .any, .any, .any, .any, .any, .any, .any, .any, .any, .any, .any, .any, .any, .any, .any, .any, .any, .any, .any, .any, .any, .any, .any, .any, .any, .any, .any, .any, .any, .any, .any] ∧ s' = s) ?_ ?_
    · rcases Nat.lt_or_ge j 5 with hlt | hge
      · have hd : decide ((j : Int) < 5) = true := decide_eq_true (by omega)
        simp only [go_sem, hd, Try.results7]
        exact Wk.mask [2, 3, 4, 11, 12, 15, 136] ⟨hlt, rfl, rfl⟩
      · have hd : decide ((j : Int) < 5) = false := decide_eq_false (by omega)
        simp only [go_sem, hd, Try.results7]
        exact Wk.mask [2, 11, 12, 15] ⟨I, S, rfl, hD.a.mono (by omega) (by omega) (by omega), hD.b, hD.d⟩
    · rintro fr s' ⟨hlt, rfl, rfl⟩
      have w2 := wrapS j (by omega)
      simp only [go_sem, Try.results7]
      refine aw_cut (fun fr s => ∃ I S z, fr = [.any, .any, .d (isD asm), .d (.int .u16 ls), .d (.int .u16 mo), .any, .any, .any, .any, .any, .any, .ref (I .st) 0, .ref (J .st) 0, .any, .any, di y, .any, .any, .any, di z, .any, .any, .any, .any, .any, .any, .any, .any, .any, .any, .any, .any, .any, .any, .any, .any, .any, .any, .any, .any, .any, .any, .any, .any, .any, .any, .any, .any, .any, .any, .any, .any, .any, .any, .any, .any, .any, .any, .any, .any, .any, .any, .any, .any, .any, .any, .any, .any, .any, .any, .any, .any, .any, .any, .any, .any, .any, .any, .any, .any, .any, .any, .any, .any, .any, .any, .any, .any, .any, .any, .any, .any, .any, .any, .any, .any, .any, .any, .any, .any, .any, .any, .any, .any, .any, .any, .any, .any, .any, .any, .any, .any, .any, .any, .any, .any, .any, .any, .any, .any, .any, .any, .any, .any, .any, .any, .any, .any, .any, .any, .any, .any, .any, .any, .any, .any, dn j, .any, .any, .any, .any, .any, .any, .any, .any, .any, .any, .any, .any, .any, .any, .any, .any, .any, .any, .any, .any, .any, .any, .any, .any, .any, .any, .any, .any, .any, .any, .any, .any, .any, .any, .any, .any, .any, .any, .any, .any, .any, .any, .any, .any, .any, .any, .any, .any, .any, .any, .any, .any, .any, .any, .any, .any, .any, .any, .any] ∧ Duo s1 m (110 + (j + 1)) C (10000000 + 100000 * (j + 1)) (1000000 + 4096 * (j + 1)) I S 110 C 10000000 1000000 J T s ∧ Vs C asm z) ?_ ?_
      · simp only [go_sem, q1, Try.results7]
        refine ac' (hed_solve hD.a (by omega) (by omega) (by omega) asm (by omega) hav F1 (by omega) _ _ fun n1 r hr k1 I' s' k2 k3 => ?_)
        have hD2 := hD.fst k3 k2
        have hv := k1.vs
        rw [hD.a.cls.cls] at hv
        rw [← k3.st]
        simp only [go_sem, Try.results7]
        exact Wk.mask [2, 3, 4, 11, 12, 15, 19, 136] ⟨I', _, _, rfl, ⟨hD2.a.mono (by omega) (by omega) (by omega), hD2.b, hD2.d⟩, hv⟩
      clear hD I S
      rintro fr s ⟨I, S, z, rfl, hD, hz⟩
      simp only [go_sem, w2, Try.results7]
      refine ⟨fun e => ?_, fun _ => Wk.mask [2, 3, 4, 11, 12, 15, 136] ⟨5 - (j + 1), by omega, j + 1, I, S, by omega, rfl, rfl, hD⟩⟩
      exfalso
      simp only [Bool.and_eq_true, bne_iff_ne] at e
      exact e.2 (hz.eq hyv e.1.1 e.1.2)
  clear hD hD0 I S
  rintro fr s ⟨I, S, rfl, hD⟩
  simp only [go_sem, Try.results7]
  refine aw_cut (fun fr s => ∃ I S p, fr = [.any, .any, .d (isD asm), .any, .any, .any, .any, .any, .any, .any, .any, .ref (I .st) 0, .ref (J .st) 0, .any, .any, di y, .any, .any, .any, .any, .any, di p, .any, .any, .any, .any, .any, .any, .any, .any, .any, .any, .any, .any, .any, .any, .any, .any, .any, .any, .any, .any, .any, .any, .any, .any, .any, .any, .any, .any, .any, .any, .any, .any, .any, .any, .any, .any, .any, .any, .any, .any, .any, .any, .any, .any, .any, .any, .any, .any, .any, .any, .any, .any, .any, .any, .any, .any, .any, .any, .any, .any, .any, .any, .any, .any, .any, .any, .any, .any, .any, .any, .any, .any, .any, .any, .any, .any, .any, .any, .any, .any, .any, .any, .any, .any, .any, .any, .any, .any, .any, .any, .any, .any, .any, .any, .any, .any, .any, .any, .any, .any, .any, .any, .any, .any, .any, .any, .any, .any, .any, .any, .any, .any, .any, .any, .any, .any, .any, .any, .any, .any, .any, .any, .any, .any, .any, .any, .any, .any, .any, .any, .any, .any, .any, .any, .any, .any, .any, .any, .any, .any, .any, .any, .any, .any, .any, .any, .any, .any, .any, .any, .any, .any, .any, .any, .any, .any, .any, .any, .any, .any, .any, .any, .any, .any, .any, .any, .any, .any, .any, .any, .any, .any, .any, .any] ∧ Duo s1 m 121 C 21000000 2004096 I S 110 C 10000000 1000000 J T s ∧ Vx C asm p S.steps.length) ?_ ?_
  · simp only [go_sem, Try.results7]
    refine ac' (hed_solve hD.a (by omega) (by omega) (by omega) asm (by omega) hav 200000 (by decide) _ _ fun _ r _ k1 I' s' k2 k3 => ?_)
    have hvx := k1.vx (by rw [hD.a.cls.vars]; omega)
    rw [hD.a.cls.cls] at hvx
    have hD2 := hD.fst k3 k2
    rw [← k3.st]
    simp only [go_sem, Try.results7]
    exact Wk.mask [2, 11, 12, 15, 21] ⟨I', _, _, rfl, ⟨hD2.a.mono (by omega) (by omega) (by omega), hD2.b, hD2.d⟩, hvx⟩
  clear hD I S
  rintro fr s ⟨I, S, p, rfl, hD, hp⟩
  simp only [go_sem, Try.results7]
  refine aw_cut (fun fr s => ∃ J T q, fr = [.any, .any, .any, .any, .any, .any, .any, .any, .any, .any, .any, .ref (I .st) 0, .ref (J .st) 0, .any, .any, di y, .any, .any, .any, .any, .any, di p, .any, di q, .any, .any, .any, .any, .any, .any, .any, .any, .any, .any, .any, .any, .any, .any, .any, .any, .any, .any, .any, .any, .any, .any, .any, .any, .any, .any, .any, .any, .any, .any, .any, .any, .any, .any, .any, .any, .any, .any, .any, .any, .any, .any, .any, .any, .any, .any, .any, .any, .any, .any, .any, .any, .any, .any, .any, .any, .any, .any, .any, .any, .any, .any, .any, .any, .any, .any, .any, .any, .any, .any, .any, .any, .any, .any, .any, .any, .any, .any, .any, .any, .any, .any, .any, .any, .any, .any, .any, .any, .any, .any, .any, .any, .any, .any, .any, .any, .any, .any, .any, .any, .any, .any, .any, .any, .any, .any, .any, .any, .any, .any, .any, .any, .any, .any, .any, .any, .any, .any, .any, .any, .any, .any, .any, .any, .any, .any, .any, .any, .any, .any, .any, .any, .any, .any, .any, .any, .any, .any, .any, .any, .any, .any, .any, .any, .any, .any, .any, .any, .any, .any, .any, .any, .any, .any, .any, .any, .any, .any, .any, .any, .any, .any, .any, .any, .any, .any, .any, .any, .any, .any, .any, .any] ∧ Duo s1 m 121 C 21000000 2004096 I S 111 C 11000000 1004096 J T s ∧ Vx C asm q T.steps.length) ?_ ?_
  · simp only [go_sem, Try.results7]
    refine ac' (hed_solve hD.b (by omega) (by omega) (by omega) asm (by omega) hav 200000 (by decide) _ _ fun _ r _ k1 I' s' k2 k3 => ?_)
    have hvx := k1.vx (by rw [hD.b.cls.vars]; omega)
    rw [hD.b.cls.cls] at hvx
    have hD2 := (hD.symm.fst k3 k2).symm
    rw [← k3.st]
    simp only [go_sem, Try.results7]
    exact Wk.mask [11, 12, 15, 21, 23] ⟨I', _, _, rfl, ⟨hD2.a, hD2.b.mono (by omega) (by omega) (by omega), hD2.d⟩, hvx⟩
  clear hD hy J T
  rintro fr s ⟨J, T, q, rfl, hD, hq⟩
  have hSz := hD.a.cls.rest.szs
  have hTz := hD.b.cls.rest.szs
  simp only [go_sem, Try.results7]
  refine aw_cut (fun fr s' => p ≠ 0 ∧ q ≠ 0 ∧ fr = [.any, .any, .any, .any, .any, .any, .any, .any, .any, .any, .any, .any, .any, .any, .any, di y, .any, .any, .any, .any, .any, di p, .any, di q, .any, .any, .any, .any, .any, .any, .any, .any, .any, .any, .any, .any, .any, .any, .any, .any, .any, .any, .any, .any, .any, .any, .any, .any, .any, .any, .any, .any, .any, .any, .any, .any, .any, .any, .any, .any, .any, .any, .any, .any, .any, .any, .any, .any, .any, .any, .any, .any, .any, .any, .any, .any, .any, .any, .any, .any, .any, .any, .any, .any, .any, .any, .any, .any, .any, .any, .any, .any, .any, .any, .any, .any, .any, .any, .any, .any, .any, .any, .any, .any, .any, .any, .any, .any, .any, .any, .any, .any, .any, .any, .any, .any, .any, .any, .any, .any, .any, .any, .any, .any, .any, .any, .any, .any, .any, .any, .any, .any, .any, .any, .any, .any, .any, .any, .any, .any, .any, .any, .any, .any, .any, .any, .any, .any, .any, .any, .any, .any, .any, .any, .any, .any, .any, .any, .any, .any, .any, .any, .any, .any, .any, .any, .any, .any, .any, .any, .any, .any, .any, .any, .any, .any, .any, .any, .any, .any, .any, .any, .any, .any, .any, .any, .any, .any, .any, .any, .any, .any, .any, .any, .any, .any] ∧ s' = s) ?_ ?_
  · cases e0 : (p == 0 || q == 0) with
    | true =>
      simp only [go_sem, e0, Try.results7]
      refine ac' (full_ac hD.a.hs.sol hSz _ _ ?_)
      simp only [go_sem, e0, Try.results7]
      refine ex' (.bool (decide (10000 ≤ T.steps.length))) ⟨fun q => ?_, ?_⟩
      · simp only [go_sem]
        exact ⟨q, ac' (full_ac hD.b.hs.sol hTz _ _ (And.intro rfl rfl))⟩
      simp only [go_sem, e0, Try.results7]
      have hft : (decide (10000 ≤ S.steps.length) || decide (10000 ≤ T.steps.length)) = true := by
        simp only [Bool.or_eq_true, beq_iff_eq] at e0
        simp only [Bool.or_eq_true, decide_eq_true_eq]
        rcases e0 with e | e
        · have := hp.z e
          simp only [pmax] at this
          exact Or.inl (by omega)
        · have := hq.z e
          simp only [pmax] at this
          exact Or.inr (by omega)
      rw [hft]
      exact ⟨_, _, Weak.refl _ _ _ _, h _⟩
    | false =>
      simp only [go_sem, e0, Try.results7]
      simp only [Bool.or_eq_false_iff, beq_eq_false_iff_ne] at e0
      exact Wk.mask [15, 21, 23] ⟨e0.1, e0.2, rfl, rfl⟩
  rintro fr s' ⟨hp0, hq0, rfl, rfl⟩
  have hpq : p = q := hp.eq hq hp0 hq0
  have hyp : y = 0 ∨ y = p := by
    by_cases e : y = 0
    · exact Or.inl e
    · exact Or.inr (hyv.eq hp.vs e hp0)
  have e1 : (p == q) = true := by rw [hpq]; simp
  have e2 : (y == 0 || y == p) = true := by
    rcases hyp with e | e
    · rw [e]; simp
    · rw [e]; simp
  simp only [go_sem, e1, e2, Try.results7]
  exact ⟨_, _, Weak.refl _ _ _ _, h _⟩
end Go.Proofs.Ytnanofipjiclfaa
end PartX8
