/- Maps of one's own, as the evaluation reads them; objects cut short. -/
import Derived.Test.YtmjlhbkgljcnoaaGreatDoorAbMove
set_option linter.unusedSimpArgs false
namespace Go.Ab
open Go Go.RowKit
section
variable {P : Program} {σ : St} {G : Glob} {n0 : Nat} {e : Operand → A}
@[go_sem, go_sem ↓] theorem op1_nilCheck (a : Operand) (k : A → St → Prop) : op1 P G σ e (.nilCheck a) k = rdNil σ (fun p a => p ∧ k a σ) (e a) := (rfl)
@[go_sem, go_sem ↓] theorem op1_clear (x : Operand) (t : TypeId) (k : A → St → Prop) : op1 P G σ e (.call ⟨.builtin .clear, #[x], #[t]⟩) k = wrClear P σ t (e x) fun p a σ' => p ∧ k a σ' := (rfl)
@[go_sem, go_sem ↓] theorem rd_nilCheck (a : Operand) (k : Prop → A → Prop) : rd P σ e (.nilCheck a) k = rdNil σ k (e a) := (rfl)
@[go_sem, go_sem ↓] theorem opG_nilCheck (c : Bool) (a : Operand) (k : A → St → Prop) : opG P G σ e c (.nilCheck a) k = rdG P σ e (.nilCheck a) fun p z => (c = true → p) ∧ k (.grd c z) σ := (rfl)
@[go_sem, go_sem ↓] theorem rdG_nilCheck (a : Operand) (k : Prop → A → Prop) : rdG P σ e (.nilCheck a) k = rd P σ (fun x => (e x).strip) (.nilCheck a) fun p z => k (([a].all fun x => (e x).cond) = true ∧ p) z := (rfl)

section
variable {k : Prop → A → Prop}
@[go_sem, go_sem ↓] theorem rdNil_ref (id off : Nat) : rdNil σ k (.ref id off) = k (liveId σ id = true) (.ref id off) := (rfl)
@[go_sem, go_sem ↓] theorem rdNil_ea (x : D) (off : Nat) : rdNil σ k (.ea x off) = k True (.ea x off) := (rfl)
@[congr] theorem rdNil_congr {a a' : A} (h : a = a') : rdNil σ k a = rdNil σ k a' := by rw [h]
@[congr] theorem rdLookup_congr {t : TypeId} {ok : Bool} {a a' b b' : A} (h : a = a') (h' : b = b') : rdLookup P σ t ok k a b = rdLookup P σ t ok k a' b' := by rw [h, h']
end
@[congr] theorem wrMapUpdate_congr {t : TypeId} {a a' b b' c c' : A} {k : Prop → A → St → Prop} (h : a = a') (h' : b = b') (h'' : c = c') : wrMapUpdate P σ t a b c k = wrMapUpdate P σ t a' b' c' k := by rw [h, h', h'']
@[congr] theorem wrDelete_congr {t : TypeId} {a a' b b' : A} {k : Prop → A → St → Prop} (h : a = a') (h' : b = b') : wrDelete P σ t a b k = wrDelete P σ t a' b' k := by rw [h, h']

@[congr] theorem wrClear_congr {t : TypeId} {a a' : A} {k : Prop → A → St → Prop} (h : a = a') : wrClear P σ t a k = wrClear P σ t a' k := by rw [h]
@[go_sem, go_sem ↓] theorem wrClear_rs (t id sz off len : Nat) (ow : Option TypeId) (k : Prop → A → St → Prop) : wrClear P σ t (.rs id sz off len ow) k = optK (mkT P t) fun q => objK σ id fun cs =>
    k (sz = q.2.1 ∧ 0 < len ∧ off + len * q.2.1 ≤ cs.length) .any (σ.set id (some (.cells (cs.take off ++ List.replicate (len * q.2.1) .any ++ cs.drop (off + len * q.2.1))))) := by
  simp only [wrClear, optK, objK]
  rcases mkT P t with _ | ⟨e, s, y, z⟩
  · rfl
  · simp only
    rcases σ[id]? with _ | _ | (_ | _ | _) <;> rfl
/-- A map of one's own. -/
def mapK (σ : St) (id : Nat) (k : List (D × A) → Prop) : Prop := match σ[id]? with
  | some (some (.map es)) => k es
  | _ => False
@[congr] theorem mapK_congr {id id' : Nat} {σ' : St} {k : List (D × A) → Prop} (h : σ = σ') (h' : id = id') : mapK σ id k = mapK σ' id' k := by rw [h, h']
attribute [go_sem] findD setD delD keyD Option.isSome_some mapOk
section
variable {id sz off : Nat} {xs : List D}
@[go_sem] theorem frz_d (x : D) : A.frz id sz off xs (.d x) = .d x := rfl
@[go_sem] theorem frz_ea (x : D) (o : Nat) : A.frz id sz off xs (.ea x o) = .ea x o := rfl
@[go_sem] theorem frz_ref (i o : Nat) : A.frz id sz off xs (.ref i o) = .ref i o := rfl
@[go_sem] theorem frz_fn (f : Fn) (a b : List A) : A.frz id sz off xs (.fn f a b) = .fn f a b := rfl
@[go_sem] theorem frz_mapr (i : Nat) : A.frz id sz off xs (.mapr i) = .mapr i := rfl
@[go_sem] theorem frz_grd (c : Bool) (a : A) : A.frz id sz off xs (.grd c a) = .grd c a := rfl
@[go_sem] theorem frz_any : A.frz id sz off xs .any = .any := rfl
@[go_sem] theorem frzL_nil : frzL id sz off xs [] = [] := rfl
@[go_sem] theorem frzL_cons (a : A) (r : List A) : frzL id sz off xs (a :: r) = a.frz id sz off xs :: frzL id sz off xs r := rfl
end
attribute [go_sem] Nat.add_left_cancel_iff Nat.left_eq_add Nat.add_eq_left Nat.add_lt_add_iff_left Nat.lt_add_right_iff_pos decide_true decide_false Nat.reduceMul
/-- What nobody asks for is forgotten first. -/
theorem Wk.pre {G : Glob} {n0 : Nat} {fr : Fr} {σ : St} {I : Fr → St → Prop} (live : List Nat) (h : Wk G n0 I (maskN live 0 fr) σ) : Wk G n0 I fr σ := by
  obtain ⟨a, b, h1, h2⟩ := h
  exact ⟨a, b, (Weak.mask live).trans h1, h2⟩
@[go_sem] theorem obren_map0 (n0 : Nat) (p : List Nat) : Ob.ren n0 p (.map []) = .map [] := rfl
/-- An object is cut short. -/
theorem Weak.short {fr : Fr} {l : St} (j n : Nat) {cs : List A} (h : l[j]? = some (some (.cells cs))) : Weak G n0 fr (σ ++ l) fr (σ ++ l.set j (some (.cells (cs.take n)))) := fun ρ0 w0 ρ w vs h0 hx hI hr => by
  have hk : (σ ++ l)[σ.length + j]? = some (some (.cells cs)) := by rw [List.getElem?_append_right (by omega), Nat.add_sub_cancel_left]; exact h
  refine ⟨ρ, hx, ?_, hr⟩
  rw [← set_app]
  refine ⟨by rw [hI.len, List.length_set], hI.inj, hI.lt, fun id o ho => ?_, hI.glob, ?_, hI.own⟩
  · rw [List.getElem?_set] at ho
    split at ho
    · rename_i e
      split at ho
      · injection ho with ho; injection ho with ho; subst ho
        subst e
        rcases hI.obj _ _ hk with ⟨b, h1, u, et, h2, h3, h4⟩ | ⟨h1, h2⟩
        · refine .inl ⟨b, h1, u, et, h2, by rw [List.length_take]; omega, fun i x hx' => ?_⟩
          rw [List.getElem?_take] at hx'
          split at hx'
          · exact h4 i x hx'
          · cases hx'
        · injection h2 with h2; subst h2
          exact .inr ⟨h1, by simp⟩
      · cases ho
    · exact hI.obj id o ho
  · rw [List.length_set]
    refine hI.bd.set _ fun o ho => ?_
    injection ho with ho; subst ho
    have := hI.bd _ _ hk
    exact bdL_of fun x hx => bdL_mem this x (List.mem_of_mem_take hx)
end
end Go.Ab
