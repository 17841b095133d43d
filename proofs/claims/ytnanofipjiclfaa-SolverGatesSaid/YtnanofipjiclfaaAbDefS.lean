/- Evaluation of functions with a deferred closure. -/
import Derived.Test.YtnanofipjiclfaaAbRecover
import Derived.Test.YtnanofipjiclfaaAbSimp
set_option linter.unusedSimpArgs false
set_option linter.unusedVariables false
namespace Go.Ab
open Go Go.RowKit

def fnK (a : A) (k : FuncId → List A → List A → Prop) : Prop := match a with
  | .fn (.func g) first cap => k g first cap
  | _ => False
section
variable {P : Program} {G G' : Glob} {n0 : Nat} {tx : Md} {fr : Fr} {σ : St}
@[go_sem] theorem fnK_fn (g : FuncId) (first cap : List A) (k : FuncId → List A → List A → Prop) : fnK (.fn (.func g) first cap) k = k g first cap := (rfl)
@[congr] theorem fnK_congr {a a' : A} {k : FuncId → List A → List A → Prop} (h : a = a') : fnK a k = fnK a' k := by rw [h]
@[go_sem] theorem awOpsD_makeFunc (ops : Array Oper) (E : FuncId → List A → Fr → St → Prop) (K : FuncId → List A → Fr → Nat → Fr → St → Prop) (dst : Option Tmp) (f : Fn) (a b : Array Operand) (ty : TypeId) (pos : String) (after : Array Edge) (rest : List Oper) :
    awOpsD P G G' ops E K (⟨dst, .makeFunc f a b, ty, pos, after, none⟩ :: rest) fr σ = op1 P G σ (ev G fr) (.makeFunc f a b) fun x σ' => awOpsD P G G' ops E K rest (put fr dst x) σ' := (rfl)
@[go_sem] theorem awOpsD_defer (ops : Array Oper) (E : FuncId → List A → Fr → St → Prop) (K : FuncId → List A → Fr → Nat → Fr → St → Prop) (dst : Option Tmp) (f : Operand) (as : Array Operand) (ts : Array TypeId) (ty : TypeId) (pos : String) (after : Array Edge) (rest : List Oper) :
    awOpsD P G G' ops E K (⟨dst, .defer ⟨.value f, as, ts⟩, ty, pos, after, none⟩ :: rest) fr σ = fnK (ev G fr f) fun g first cap => E g (first ++ as.toList.map (ev G fr) ++ cap) fr σ ∧ awOps P G' ops rest (K g (first ++ as.toList.map (ev G fr) ++ cap) fr σ.length) (put fr dst .any) σ := by
  simp only [awOpsD, fnK]
  rcases ev G fr f with _ | _ | _ | _ | _ | ⟨_ | _, _, _⟩ | _ | _ | _ | _ | _ <;> rfl
/-- Before the deferring statement. -/
def preD (P : Program) (G G' : Glob) (n0 : Nat) (tx : Md) (E : FuncId → List A → Fr → St → Prop) (b : Code) (QA : Pst) (QB : FuncId → List A → Fr → Nat → Pst) : Pst
  | .normal, fr, σ => awD P G G' n0 tx E b QA QB fr σ
  | .exit i, fr, σ => QA (.exit i) fr σ
  | .ret, fr, σ => QA .ret fr σ
@[go_sem] theorem preD_normal (E : FuncId → List A → Fr → St → Prop) (b : Code) (QA : Pst) (QB : FuncId → List A → Fr → Nat → Pst) : preD P G G' n0 tx E b QA QB .normal fr σ = awD P G G' n0 tx E b QA QB fr σ := (rfl)
theorem awD_pre {E : FuncId → List A → Fr → St → Prop} {a b : Code} {QA : Pst} {QB : FuncId → List A → Fr → Nat → Pst} (hd : defB a = false) (h : aw P G n0 ⟨tx.tx, tx.cuts, true⟩ a (preD P G G' n0 tx E b QA QB) fr σ) : awD P G G' n0 tx E (.seq a b) QA QB fr σ := by
  simp only [awD, hd, cond_false]
  have gen : ∀ K K' : Pst, K = K' → aw P G n0 ⟨tx.tx, tx.cuts, true⟩ a K' fr σ → aw P G n0 ⟨tx.tx, tx.cuts, true⟩ a K fr σ := fun K K' e h => e ▸ h
  exact gen _ _ (by funext e fr σ; cases e <;> rfl) h
/-- Behind it. -/
def postD (P : Program) (G' : Glob) (tx : Md) (b : Code) (QB : FuncId → List A → Fr → Nat → Pst) (g : FuncId) (as : List A) (fr1 : Fr) (n1 : Nat) (fr : Fr) (σ : St) : Prop := aw P G' n1 ⟨tx.tx, tx.cuts, false⟩ b (QB g as fr1 n1) fr σ
@[go_sem] theorem postD_eq (b : Code) (QB : FuncId → List A → Fr → Nat → Pst) (g : FuncId) (as : List A) (fr1 : Fr) (n1 : Nat) : postD P G' tx b QB g as fr1 n1 fr σ = aw P G' n1 ⟨tx.tx, tx.cuts, false⟩ b (QB g as fr1 n1) fr σ := (rfl)
theorem awD_at {E : FuncId → List A → Fr → St → Prop} {id : Nat} {ops : Array Oper} {b : Code} {QA : Pst} {QB : FuncId → List A → Fr → Nat → Pst} (hd : defB (.region id ops false) = true) (h : awOpsD P G G' ops E (postD P G' tx b QB) ops.toList fr σ) : awD P G G' n0 tx E (.seq (.region id ops false) b) QA QB fr σ := by
  simp only [awD, hd, cond_true]
  have gen : ∀ K K' : FuncId → List A → Fr → Nat → Fr → St → Prop, K = K' → awOpsD P G G' ops E K' ops.toList fr σ → awOpsD P G G' ops E K ops.toList fr σ := fun K K' e h => e ▸ h
  refine gen _ _ ?_ h
  funext g as fr1 n1 fr σ
  have gen2 : ∀ K K' : Pst, K = K' → aw P G' n1 ⟨tx.tx, tx.cuts, false⟩ b K fr σ = aw P G' n1 ⟨tx.tx, tx.cuts, false⟩ b K' fr σ := fun K K' e => by rw [e]
  exact gen2 _ _ (by funext e fr σ; cases e <;> rfl)
end
end Go.Ab
