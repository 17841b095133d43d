/- A function with one deferred closure; a closure that is called as a deferred call. -/
import Derived.Test.YtmjlhbkgljcnoaaGreatDoorAbAw
import Derived.RecoverIn
set_option linter.unusedSimpArgs false
set_option linter.unusedVariables false
namespace Go.Ab
open Go Go.RowKit

/-- THE CONTRACT OF A CLOSURE THAT IS CALLED AS A DEFERRED CALL: in a return, or behind a panic of a value. It lets the function return. -/
def AD (P : Program) (G : Glob) (f : FuncId) (args : List A) (rv : Option A) (σ : St) (R : St → Prop) : Prop :=
  callable P f = true ∧ ∀ ρ w vs u, Inv G ρ σ w → RepL ρ w args vs →
    (match rv with | none => u = .returning | some a => ∃ v, u = .panicking [{ v, recovered := false }] ∧ RepA ρ w a v) →
    CallsDIn (RF none) 0 P f vs.toArray u w fun e u' w' => ∃ v ρ' σ', e = .returned v ∧ settle u' = .returning ∧ Ext ρ w ρ' w' ∧ Inv G ρ' σ' w' ∧ R σ'

section
variable {P : Program} {ρ ρ' : Ren} {w w' : World} {σ : St} {G G' : Glob}

def DefR (ρ : Ren) (w : World) (d : Deferred) (g : FuncId) (as : List A) : Prop := ∃ vs us : List Value, d = { target := .fn (.func g) us.toArray, args := vs.toArray } ∧ RepL ρ w as (vs ++ us)
def pre (B : Nat) : Df := ⟨B, [], false, []⟩
/-- One deferred closure, at the door. -/
theorem AD.leaves {fn : Func} {Q : Ending → World → Prop} {tmps : Array Value} {d : Deferred} {g : FuncId} {as : List A} {rv : Option A} {R : St → Prop} {u : FrameMode} (hu : u ≠ .run) (hI : Inv G ρ σ w) (hd : DefR ρ w d g as)
    (hr : match rv with | none => u = .returning | some a => ∃ v, u = .panicking [{ v, recovered := false }] ∧ RepA ρ w a v) (h : AD P G g as rv σ R)
    (hk : ∀ ρ' σ' w', Ext ρ w ρ' w' → Inv G ρ' σ' w' → R σ' → LeavesInM (RF none) 0 P fn tmps Q [] .returning w') : LeavesInM (RF none) 0 P fn tmps Q [d] u w := by
  obtain ⟨vs, us, rfl, hL⟩ := hd
  obtain ⟨hcall, h⟩ := h
  refine ⟨hu, .inr ⟨(fun h => by cases h), .func g, us.toArray, g, (vs ++ us).toArray, rfl, ?_, fun _ _ => trivial, ?_⟩⟩
  · have : (callFunc g (vs ++ us).toArray).run P w = .ok (.enter g (vs ++ us).toArray) w := by
      unfold callable at hcall
      split at hcall
      · rename_i fn hfn
        simp only [Bool.and_eq_true, bne_iff_ne, ne_eq] at hcall
        obtain ⟨hn, hb⟩ := hcall
        have hbn : ¬ fn.body = none := by intro hb'; rw [hb'] at hb; simp at hb
        simp [callFunc, hfn, hn, hbn]
      · cases hcall
    simpa [invoke] using this
  · refine CallsDIn.mono (h ρ w (vs ++ us) u hI hL hr) ?_
    rintro e u' w' ⟨v, ρ', σ', rfl, h1, h2, h3, h4⟩
    simp only [h1]
    exact hk ρ' σ' w' h2 h3 h4
theorem DefR.ext {d : Deferred} {g : FuncId} {as : List A} (h : DefR ρ w d g as) (hx : Ext ρ w ρ' w') : DefR ρ' w' d g as := by
  obtain ⟨vs, us, e, hL⟩ := h
  exact ⟨vs, us, e, hL.ext hx⟩
end
end Go.Ab
