/- A function with one deferred closure, where nothing panics. -/
import Derived.Test.YtnanofipjiclfaaAbDefer
set_option linter.unusedSimpArgs false
set_option linter.unusedVariables false
namespace Go.Ab
open Go Go.RowKit
section
variable {P : Program} {ρ ρ' : Ren} {w w' : World} {σ : St} {G G' : Glob}
/-- A function with one deferred closure is entered; no panic behind the deferring statement. -/
theorem ac_enterN (hm : P.follows .mixedOrders = true) {tx : Md} {f : FuncId} {fn : Func} {c : Code} {n : Nat} {args : List A} {R : A → St → Prop} (hf : P.funcs[f]? = some fn) (hb : fn.body = some c) (hn : fn.ntmps = n) (hcall : callable P f = true)
    (hlex : (!tx.tx || lexCode c) = true) (hdv : dvB [] c = true)
    (h : Bd σ.length σ → awD P G.calm ⟨G.g, fun _ _ => False⟩ σ.length tx (fun _ _ _ _ => True) c (Ends P G σ.length fn R) (endD P G ⟨G.g, fun _ _ => False⟩ σ.length fn R) (args ++ List.replicate (n - args.length) .any) σ) : AC P G f args σ R := by
  refine ⟨hcall, fun ρ w vs hI hL => ?_⟩
  refine (callsIn_wide (n := 0)).1 (callsIn_of_wp_marks (F := RF none) hf hb trivial ?_ rfl)
  have hF : HoldsF (pre w.heap.size) ρ w (args ++ List.replicate (n - args.length) .any) { tmps := vs.toArray ++ Array.replicate (fn.ntmps - vs.toArray.size) undef, defers := [] } := by
    refine ⟨⟨⟨[], rfl, trivial, fun _ => rfl⟩, fun p hp => by cases hp⟩, by have := hL.1; simp [hn]; omega, fun i x v hx hv => ?_⟩
    by_cases hi : i < args.length
    · rw [List.getElem?_append_left hi] at hx
      simp only [Array.toList_append] at hv
      rw [List.getElem?_append_left (by have := hL.1; simpa using by omega)] at hv
      exact hL.2 i x v hx hv
    · rw [List.getElem?_append_right (by omega), List.getElem?_replicate] at hx
      split at hx
      · injection hx with hx; subst hx; exact .any _
      · cases hx
  refine wpIn_mono (awD_sound hm (G := G.calm) (G' := ⟨G.g, fun _ _ => False⟩) rfl hI.len c hlex hdv (Ext.refl ρ w) (hI.turn rfl) hF (h hI.bd)) fun e a' w' hq => ?_
  rcases hq with hq | ⟨d, g, as, fr1, ρ1, σ1, w1, t1, k1, k2, k3, k4, k5, hq⟩
  · cases e with
    | normal =>
      obtain ⟨fr, σ', ρ', h1, h2, h3, h4⟩ := hq
      exact ret_sound (b := pre w.heap.size) rfl rfl hI.len h4 h1 (h2.turn rfl) h3
    | ret =>
      obtain ⟨fr, σ', ρ', h1, h2, h3, h4⟩ := hq
      exact ret_sound (b := pre w.heap.size) rfl rfl hI.len h4 h1 (h2.turn rfl) h3
    | exit i => obtain ⟨_, _, _, _, _, _, h⟩ := hq; exact h.elim
    | goto l => exact hq.elim
    | panic c => obtain ⟨⟨_, _, _, _, _, _, _, _, h⟩, _⟩ := hq; exact h.elim
    | outgrown => exact hq.elim
  · have fin : ∀ (fr : Fr) (σ2 : St) (ρ2 : Ren), Ext ρ1 w1 ρ2 w' → Inv ⟨G.g, fun _ _ => False⟩ ρ2 σ2 w' → HoldsF ⟨w1.heap.size, [d], true, keepOf [] t1⟩ ρ2 w' fr a' → AD P ⟨G.g, fun _ _ => False⟩ g as none σ2 (fun σ2 => RetOK P G σ.length fn R fr σ2) → LeavesInM (RF none) 0 P fn a'.tmps (Called P G ρ w R) a'.defers .returning w' := fun fr σ2 ρ2 h1 h2 h3 h4 => by
      obtain ⟨⟨⟨ms, q1, q2, _⟩, _⟩, hL2⟩ := h3
      rw [q1]
      refine marks_sound (by simp) h1 h2 q2 fun w2 x1 x2 x3 => ?_
      have hL3 : RepL ρ2 w2 fr a'.tmps.toList := ⟨hL2.1, fun i x v a b => x3 _ _ (hL2.2 i x v a b)⟩
      exact AD.leaves (rv := none) (by simp) x2 (k3.ext x1) rfl h4 fun ρ3 σ3 w3 y1 y2 y3 => res_sound hI.len y3 (k1.trans (x1.trans y1)) (y2.turn rfl) fun r _ => (slot_rep hL3 (slotR r)).ext y1
    cases e with
    | normal => obtain ⟨fr, σ2, ρ2, h1, h2, h3, h4⟩ := hq; exact fin fr σ2 ρ2 h1 h2 h3 h4
    | ret => obtain ⟨fr, σ2, ρ2, h1, h2, h3, h4⟩ := hq; exact fin fr σ2 ρ2 h1 h2 h3 h4
    | exit i => obtain ⟨_, _, _, _, _, _, h⟩ := hq; exact h.elim
    | goto l => exact hq.elim
    | panic c =>
      obtain ⟨⟨v, ρ2, σ2, r, rfl, h1, h2, h3, h4⟩, ⟨⟨ms, q1, q2, _⟩, q3⟩⟩ := hq
      exact h4.elim
    | outgrown => exact hq.elim
end
end Go.Ab
