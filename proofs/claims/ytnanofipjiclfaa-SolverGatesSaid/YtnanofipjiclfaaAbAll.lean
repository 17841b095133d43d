/- Operations that make something new, in whatever order: the rule for plans. -/
import Derived.Test.YtnanofipjiclfaaAbSimp
namespace Go.Ab
open Go
variable {P : Program} {σ : St} {G : Glob} {fr : Fr}
theorem awPlan_all {ops : Array Oper} {K : Fr → St → Prop} {p : Plan} (sp : List Sp) (hok : ∀ q ∈ sp, q.ok P G ops fr) (h : ∀ (ids : Nat → Nat) (σ' : St), Made ids sp σ σ' → awPlan P G ops K p (sp.foldl (spPut ids) fr) σ') : awPlan P G ops K (.all (sp.map Sp.i) p) fr σ := ⟨sp, rfl, hok, h⟩
theorem sp_ok {l : List Oper} {q : Sp} {op : Op} {ty : TypeId} {pos : String} {after : Array Edge} (h : l[q.i]? = some ⟨some q.dst, op, ty, pos, after, none⟩) (h2 : ∀ (σ : St) (k : A → St → Prop), k (q.x σ.length) (σ ++ [some q.ob]) → op1 P G σ (ev G fr) op k) : q.ok P G l.toArray fr :=
  ⟨_, by rw [List.getElem?_toArray]; exact h, rfl, fun σ k hk => by simp only [stepV]; exact h2 σ k hk⟩
end Go.Ab
