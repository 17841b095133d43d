/- Closures that are called as deferred calls: plain ones; those that call recover. -/
import Derived.Test.YtnanofipjiclfaaAbDefer
set_option linter.unusedSimpArgs false
set_option linter.unusedVariables false
namespace Go.Ab
open Go Go.RowKit

section
variable {P : Program} {ρ ρ' : Ren} {w w' : World} {σ : St} {G : Glob}

/-- The end of a deferred closure. -/
def endS (P : Program) (G : Glob) (n0 : Nat) (fn : Func) (R : St → Prop) : Pst := Ends P G n0 fn fun _ s => R s
theorem deferred_frame {n : Nat} {fn : Func} {args : List A} {vs : List Value} (hn : fn.ntmps = n) (hL : RepL ρ w args vs) : HoldsF (pre w.heap.size) ρ w (args ++ List.replicate (n - args.length) .any) { tmps := vs.toArray ++ Array.replicate (fn.ntmps - vs.toArray.size) undef, defers := [] } := by
  refine ⟨⟨⟨[], rfl, trivial, fun _ => rfl⟩, fun p hp => by cases hp⟩, by have := hL.1; simp [hn]; omega, fun i x v hx hv => ?_⟩
  by_cases hi : i < args.length
  · rw [List.getElem?_append_left hi] at hx
    simp only [Array.toList_append] at hv
    rw [List.getElem?_append_left (by have := hL.1; simpa using by omega)] at hv
    exact hL.2 i x v hx hv
  · rw [List.getElem?_append_right (by omega), List.getElem?_replicate] at hx
    split at hx
    · injection hx with hx; subst hx; exact .any _
    · cases hx
theorem ends_run {n0 : Nat} {fn : Func} {R : St → Prop} {ρ0 : Ren} {w0 : World} {fr : Fr} {a : Act} (h0 : ρ0.length = n0) (h : RetOK P G n0 fn (fun _ s => R s) fr σ) (hx : Ext ρ0 w0 ρ w) (hI : Inv G ρ σ w) (hF : HoldsF (pre w0.heap.size) ρ w fr a) :
    a.defers = [] ∧ ∃ v, (results fn a.tmps).run P w = .ok v w ∧ ∃ ρ' σ', Ext ρ0 w0 ρ' w ∧ Inv G ρ' σ' w ∧ R σ' := by
  obtain ⟨⟨⟨ms, h1, h2, h3⟩, _⟩, hL⟩ := hF
  refine ⟨by rw [h1, h3 rfl]; rfl, ?_⟩
  obtain ⟨as, vs, ⟨r, σ', hw, hR⟩, hrep, hrun⟩ := resK_sound hI fn.results.toList (fun r _ => slot_rep hL (slotR r)) h
  have hp := pack_rep hrep
  obtain ⟨ρ', k1, k2, k3⟩ := hw ρ0 w0 ρ w [if h : vs.toArray.size = 1 then vs.toArray[0] else .tuple vs.toArray] h0 hx hI ⟨rfl, fun i x v hx hv => by
    match i with
    | 0 => injection hx with hx; injection hv with hv; subst hx; subst hv; exact hp
    | i + 1 => simp at hx⟩
  refine ⟨if h : vs.toArray.size = 1 then vs.toArray[0] else .tuple vs.toArray, ?_, ρ', σ', k1, k2, hR⟩
  rw [results_eq]
  simp only [Array.mapM_eq_mapM_toList, Sem.run_bind, Sem.run_map, hrun, Result.andThen_ok, Sem.run_pure]
/-- A DEFERRED CLOSURE THAT DOES NOT RECOVER, in a return. -/
theorem ad_enter (hm : P.follows .mixedOrders = true) {tx : Md} {f : FuncId} {fn : Func} {c : Code} {n : Nat} {args : List A} {R : St → Prop} (hf : P.funcs[f]? = some fn) (hb : fn.body = some c) (hn : fn.ntmps = n) (hcall : callable P f = true)
    (hlex : (!tx.tx || lexCode c) = true) (h : Bd σ.length σ → aw P G.calm σ.length ⟨tx.tx, tx.cuts, true⟩ c (endS P G.calm σ.length fn R) (args ++ List.replicate (n - args.length) .any) σ) : AD P G f args none σ R := by
  refine ⟨hcall, fun ρ w vs u hI hL hu => ?_⟩
  subst hu
  have hI' : Inv G.calm ρ σ w := hI.turn rfl
  refine CallsDIn.mono (callsDIn_of_wp (R := fun e w' => ∃ v ρ' σ', e = .returned v ∧ Ext ρ w ρ' w' ∧ Inv G.calm ρ' σ' w' ∧ R σ') hf hb trivial ?_ rfl) ?_
  · refine wpIn_mono (aw_sound hm c (tx := ⟨tx.tx, tx.cuts, true⟩) (rn := none) (b := pre w.heap.size) hI'.len rfl (fun h => by cases h) hlex (avoids_nil _) (Ext.refl ρ w) hI' (deferred_frame hn hL) (h hI.bd)) fun e a' w' hq => ?_
    have fin : ∀ {fr σ' ρ'}, Ext ρ w ρ' w' → Inv G.calm ρ' σ' w' → HoldsF (pre w.heap.size) ρ' w' fr a' → RetOK P G.calm σ.length fn (fun _ s => R s) fr σ' → a'.defers = [] ∧ ∃ v, (results fn a'.tmps).run P w' = .ok v w' ∧ ∃ v' ρ' σ', Ending.returned v = .returned v' ∧ Ext ρ w ρ' w' ∧ Inv G.calm ρ' σ' w' ∧ R σ' := fun h1 h2 h3 h4 => by
      obtain ⟨k1, v, k2, ρ2, σ2, k3⟩ := ends_run hI.len h4 h1 h2 h3
      exact ⟨k1, v, k2, v, ρ2, σ2, rfl, k3⟩
    cases e with
    | normal => obtain ⟨fr, σ', ρ', h1, h2, h3, h4⟩ := hq; exact fin h1 h2 h3 h4
    | ret => obtain ⟨fr, σ', ρ', h1, h2, h3, h4⟩ := hq; exact fin h1 h2 h3 h4
    | exit i => obtain ⟨_, _, _, _, _, _, h⟩ := hq; exact h.elim
    | goto l => exact hq.elim
    | panic c => obtain ⟨⟨_, _, _, _, _, _, _, _, h⟩, _⟩ := hq; exact h.elim
    | outgrown => exact hq.elim
  · rintro e u' w' ⟨rfl, v, ρ', σ', rfl, k1, k2, k3⟩
    exact ⟨v, ρ', σ', rfl, rfl, k1, k2.turn rfl, k3⟩
end
end Go.Ab
