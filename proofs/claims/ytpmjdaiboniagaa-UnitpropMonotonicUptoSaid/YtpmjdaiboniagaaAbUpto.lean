/- Rows whose arguments are small together: what a bound on each weight gives a law's contract. -/
import Derived.Test.YtpmjdaiboniagaaAbPlain
set_option linter.unusedSimpArgs false
set_option linter.unusedVariables false
namespace Go.Ab
open Go Go.RowKit Go.ChangeShapes Go.WideShapes
section
variable {P : Program} {H : Type} {enc : TypeId × Value → H}
/-- A law's function, from abstract contract to row: the weights are at most N. -/
theorem calls_trueN {f : FuncId} {fn : Func} {G : Glob} {s : ChangeSpec} {apart fresh handsOn again : Bool} {W : World} {args : Array Value} {ds gs : List (DataW H)} {before : List MemPlace} {tb : TypeId} {S : List TypeId} {b0 N : Nat} {r : Reach}
    (hW : DataW.Whole enc P fn.params.toList s.vars apart W args.toList ds gs before) (hval : ∀ (j : Nat) t v, fn.params[j]? = some t → args[j]? = some v → Value.okWide P W r b0 t v)
    (hl : laidOutB P = true) (hall : fn.params.toList.all (fun t => P.readableRec t && decide (t < P.types.size)) = true) (hS : closedT P S = true) (hSp : fn.params.toList.all (fun t => S.contains t) = true)
    (hv : s.vars = []) (hr : fn.resultTypes = #[tb]) (ht : P.underlying tb = some .bool) (hfn : ∀ ds : List (DataW H), ds.length = fn.params.size → s.fn H ds = { results := [.lit (.bool true)], args := ds })
    (hG : ∀ (g : Nat) (x : D), G g = some x → RepA [] W (.ea x 0) (.pointer (some ⟨g, 0, none⟩)))
    (hz : (DataW.weightsEach P fn.params.toList ds).all (· ≤ N) = true)
    (hac : ∀ xs, Opened P N W fn.params.toList args.toList xs → AC P G f (xs.map .d) [] fun r _ => r = .d (.bool true)) :
    Calls P f args W fun e W' => ∃ v, e = .returned v ∧ s.post enc P fn apart fresh handsOn again W args v W' := by
  obtain ⟨p, q, hA, hV, rfl, hzz, hn⟩ := hW
  have hV' := hV
  rw [hv] at hV'
  obtain ⟨rfl, -⟩ := trodVars_none hV'
  have hlen : ∀ {ts : List TypeId} {vs : List Value} {ds : List (DataW H)} {ps : List MemPlace}, DataW.TrodAll enc P W 0 (fun _ => true) true ts vs ds ps → ds.length = ts.length := by
    intro ts
    induction ts with
    | nil => intro vs ds ps h; obtain ⟨rfl, rfl, rfl⟩ := trodAll_nil h; rfl
    | cons t ts ih => intro vs ds ps h; obtain ⟨v, vs1, d, ds1, a, b, rfl, rfl, rfl, h1, h2⟩ := trodAll_cons h; simp [ih h2]
  obtain ⟨xs, hx⟩ := openAll hS hSp hz (fun j t v h1 h2 => hval j t v (by simpa using h1) (by simpa using h2)) hA
  have := (hac xs hx).2 [] W args.toList (Inv.start hG) hx.rep
  simp only [Array.toArray_toList] at this
  refine this.mono ?_
  rintro e W' ⟨v, ρ', σ', r, rfl, h1, h2, h3, rfl⟩
  have hv' : v = .bool true := bool_form h3
  subst hv'
  exact ⟨_, rfl, post_true ⟨p, q, hA, hV, rfl, hzz, hn⟩ (below_of_ext h1) hl hall hv hr ht (hfn ds (by rw [hlen hA]; simp))⟩
end
end Go.Ab
