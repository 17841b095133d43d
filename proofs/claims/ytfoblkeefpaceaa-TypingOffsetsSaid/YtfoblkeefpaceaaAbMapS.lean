/- Maps of one's own, as the evaluation reads them; objects cut short. -/
import Derived.Test.YtfoblkeefpaceaaAbMove
set_option linter.unusedSimpArgs false
namespace Go.Ab
open Go Go.RowKit
section
variable {P : Program} {σ : St} {G : Glob} {n0 : Nat} {e : Operand → A}
@[go_sem, go_sem ↓] theorem op1_lookup (t : TypeId) (a i : Operand) (ok : Bool) (k : A → St → Prop) : op1 P G σ e (.lookup t a i ok) k = rdLookup P σ t ok (fun p a => p ∧ k a σ) (e a) (e i) := (rfl)
@[go_sem, go_sem ↓] theorem op1_nilCheck (a : Operand) (k : A → St → Prop) : op1 P G σ e (.nilCheck a) k = rdNil σ (fun p a => p ∧ k a σ) (e a) := (rfl)
@[go_sem, go_sem ↓] theorem op1_makeMap (t : TypeId) (k : A → St → Prop) : op1 P G σ e (.makeMap t none) k = wrMakeMap σ fun p a σ' => p ∧ k a σ' := (rfl)
@[go_sem, go_sem ↓] theorem op1_mapUpdate (t : TypeId) (m x v : Operand) (k : A → St → Prop) : op1 P G σ e (.mapUpdate t m x v) k = wrMapUpdate P σ t (e m) (e x) (e v) fun p a σ' => p ∧ k a σ' := (rfl)
@[go_sem, go_sem ↓] theorem op1_insert (t : TypeId) (m x v : Operand) (k : A → St → Prop) : op1 P G σ e (.insert t m x v) k = wrMapUpdate P σ t (e m) (e x) (e v) fun p a σ' => p ∧ k a σ' := (rfl)
@[go_sem, go_sem ↓] theorem op1_delete (m x : Operand) (t u : TypeId) (k : A → St → Prop) : op1 P G σ e (.call ⟨.builtin .delete, #[m, x], #[t, u]⟩) k = wrDelete P σ t (e m) (e x) fun p a σ' => p ∧ k a σ' := (rfl)
@[go_sem, go_sem ↓] theorem op1_clear (x : Operand) (t : TypeId) (k : A → St → Prop) : op1 P G σ e (.call ⟨.builtin .clear, #[x], #[t]⟩) k = wrClear P σ t (e x) fun p a σ' => p ∧ k a σ' := (rfl)
@[go_sem, go_sem ↓] theorem opG_clear (c : Bool) (as : Array Operand) (ts : Array TypeId) (k : A → St → Prop) : opG P G σ e c (.call ⟨.builtin .clear, as, ts⟩) k = wrG P G σ e c (.call ⟨.builtin .clear, as, ts⟩) k := (rfl)
@[go_sem, go_sem ↓] theorem opG_makeMap (c : Bool) (t : TypeId) (r : Option Operand) (k : A → St → Prop) : opG P G σ e c (.makeMap t r) k = wrG P G σ e c (.makeMap t r) k := (rfl)
@[go_sem, go_sem ↓] theorem opG_mapUpdate (c : Bool) (t : TypeId) (m x v : Operand) (k : A → St → Prop) : opG P G σ e c (.mapUpdate t m x v) k = wrG P G σ e c (.mapUpdate t m x v) k := (rfl)
@[go_sem, go_sem ↓] theorem opG_delete (c : Bool) (as : Array Operand) (ts : Array TypeId) (k : A → St → Prop) : opG P G σ e c (.call ⟨.builtin .delete, as, ts⟩) k = wrG P G σ e c (.call ⟨.builtin .delete, as, ts⟩) k := (rfl)
@[go_sem, go_sem ↓] theorem rd_lookup (t : TypeId) (a i : Operand) (ok : Bool) (k : Prop → A → Prop) : rd P σ e (.lookup t a i ok) k = rdLookup P σ t ok k (e a) (e i) := (rfl)
@[go_sem, go_sem ↓] theorem rd_nilCheck (a : Operand) (k : Prop → A → Prop) : rd P σ e (.nilCheck a) k = rdNil σ k (e a) := (rfl)
@[go_sem, go_sem ↓] theorem opG_lookup (c : Bool) (t : TypeId) (a i : Operand) (ok : Bool) (k : A → St → Prop) : opG P G σ e c (.lookup t a i ok) k = rdG P σ e (.lookup t a i ok) fun p z => (c = true → p) ∧ k (.grd c z) σ := (rfl)
@[go_sem, go_sem ↓] theorem rdG_lookup (t : TypeId) (a i : Operand) (ok : Bool) (k : Prop → A → Prop) : rdG P σ e (.lookup t a i ok) k = rd P σ (fun x => (e x).strip) (.lookup t a i ok) fun p z => k (([a, i].all fun x => (e x).cond) = true ∧ p) z := (rfl)
@[go_sem, go_sem ↓] theorem opG_nilCheck (c : Bool) (a : Operand) (k : A → St → Prop) : opG P G σ e c (.nilCheck a) k = rdG P σ e (.nilCheck a) fun p z => (c = true → p) ∧ k (.grd c z) σ := (rfl)
@[go_sem, go_sem ↓] theorem rdG_nilCheck (a : Operand) (k : Prop → A → Prop) : rdG P σ e (.nilCheck a) k = rd P σ (fun x => (e x).strip) (.nilCheck a) fun p z => k (([a].all fun x => (e x).cond) = true ∧ p) z := (rfl)

@[go_sem, go_sem ↓] theorem opG_build (c : Bool) (t : TypeId) (ps : Array (Nat × Operand)) (k : A → St → Prop) : opG P G σ e c (.build t ps) k = rdG P σ e (.build t ps) fun p z => (c = true → p) ∧ k (.grd c z) σ := (rfl)
@[go_sem, go_sem ↓] theorem rdG_build (t : TypeId) (ps : Array (Nat × Operand)) (k : Prop → A → Prop) : rdG P σ e (.build t ps) k = rd P σ (fun x => (e x).strip) (.build t ps) fun p z => k (((Op.build t ps).operands.toList.all fun x => (e x).cond) = true ∧ p) z := (rfl)
@[go_sem, go_sem ↓] theorem opG_makeInterface (c : Bool) (t : TypeId) (a : Operand) (k : A → St → Prop) : opG P G σ e c (.makeInterface t a) k = rdG P σ e (.makeInterface t a) fun p z => (c = true → p) ∧ k (.grd c z) σ := (rfl)
@[go_sem, go_sem ↓] theorem rdG_makeInterface (t : TypeId) (a : Operand) (k : Prop → A → Prop) : rdG P σ e (.makeInterface t a) k = rd P σ (fun x => (e x).strip) (.makeInterface t a) fun p z => k (([a].all fun x => (e x).cond) = true ∧ p) z := (rfl)
@[go_sem, go_sem ↓] theorem rd_makeInterface (t : TypeId) (a : Operand) (k : Prop → A → Prop) : rd P σ e (.makeInterface t a) k = k (aggT P t ≠ none ∧ isIfaceT P t = false) (.ifc t (e a)) := (rfl)
@[go_sem, go_sem ↓] theorem opG_typeAssert (c : Bool) (a : Operand) (t u : TypeId) (ok : Bool) (k : A → St → Prop) : opG P G σ e c (.typeAssert a t u ok) k = rdG P σ e (.typeAssert a t u ok) fun p z => (c = true → p) ∧ k (.grd c z) σ := (rfl)
@[go_sem, go_sem ↓] theorem rdG_typeAssert (a : Operand) (t u : TypeId) (ok : Bool) (k : Prop → A → Prop) : rdG P σ e (.typeAssert a t u ok) k = rd P σ (fun x => (e x).strip) (.typeAssert a t u ok) fun p z => k (([a].all fun x => (e x).cond) = true ∧ p) z := (rfl)
section
variable {k : Prop → A → Prop}
@[go_sem, go_sem ↓] theorem rdNil_ref (id off : Nat) : rdNil σ k (.ref id off) = k (liveId σ id = true) (.ref id off) := (rfl)
@[go_sem, go_sem ↓] theorem rdNil_ea (x : D) (off : Nat) : rdNil σ k (.ea x off) = k True (.ea x off) := (rfl)
@[go_sem, go_sem ↓] theorem rdNil_fn (f : FuncId) (a b : List A) : rdNil σ k (.fn (.func f) a b) = k True (.fn (.func f) a b) := (rfl)
@[go_sem, go_sem ↓] theorem rdNil_ifc (t : TypeId) (a : A) : rdNil σ k (.ifc t a) = k True (.ifc t a) := (rfl)
@[congr] theorem rdNil_congr {a a' : A} (h : a = a') : rdNil σ k a = rdNil σ k a' := by rw [h]
@[congr] theorem rdLookup_congr {t : TypeId} {ok : Bool} {a a' b b' : A} (h : a = a') (h' : b = b') : rdLookup P σ t ok k a b = rdLookup P σ t ok k a' b' := by rw [h, h']
end
@[congr] theorem wrMapUpdate_congr {t : TypeId} {a a' b b' c c' : A} {k : Prop → A → St → Prop} (h : a = a') (h' : b = b') (h'' : c = c') : wrMapUpdate P σ t a b c k = wrMapUpdate P σ t a' b' c' k := by rw [h, h', h'']
@[congr] theorem wrDelete_congr {t : TypeId} {a a' b b' : A} {k : Prop → A → St → Prop} (h : a = a') (h' : b = b') : wrDelete P σ t a b k = wrDelete P σ t a' b' k := by rw [h, h']

@[congr] theorem wrClear_congr {t : TypeId} {a a' : A} {k : Prop → A → St → Prop} (h : a = a') : wrClear P σ t a k = wrClear P σ t a' k := by rw [h]
@[go_sem, go_sem ↓] theorem wrClear_rs (t id sz off len : Nat) (ow : Option TypeId) (k : Prop → A → St → Prop) : wrClear P σ t (.rs id sz off len ow) k = optK (mkT P t) fun q => objK σ id fun cs =>
    k (sz = q.2.1 ∧ 0 < len ∧ off + len * q.2.1 ≤ cs.length) .any (σ.set id (some (.cells (cs.take off ++ List.replicate (len * q.2.1) .any ++ cs.drop (off + len * q.2.1))))) := by
  simp only [wrClear, optK, objK]
  rcases mkT P t with _ | ⟨e, s, y, z⟩
  · rfl
  · simp only
    rcases σ[id]? with _ | _ | (_ | _ | _) <;> rfl
/-- A map of one's own. -/
def mapK (σ : St) (id : Nat) (k : List (D × A) → Prop) : Prop := match σ[id]? with
  | some (some (.map es)) => k es
  | _ => False
@[congr] theorem mapK_congr {id id' : Nat} {σ' : St} {k : List (D × A) → Prop} (h : σ = σ') (h' : id = id') : mapK σ id k = mapK σ' id' k := by rw [h, h']
theorem mapK_of {id : Nat} {es : List (D × A)} {k : List (D × A) → Prop} (h : σ[id]? = some (some (.map es))) : mapK σ id k = k es := by simp only [mapK, h]
/-- What a look finds. -/
def lookV (ok : Bool) (kd : D) (z : Option A) (es : List (D × A)) : Option A := match findD kd es, z with
  | some (some v), _ => some (mapOk ok v true)
  | some none, some z => some (mapOk ok z false)
  | _, _ => none
@[go_sem, go_sem ↓] theorem rdLookup_mapr (t : TypeId) (ok : Bool) (id : Nat) (kd : D) (k : Prop → A → Prop) : rdLookup P σ t ok k (.mapr id) (.d kd) = optK (mapT P t) fun q => mapK σ id fun es => optK (lookV ok kd (zeroV P q.2) es) fun v => k (plainK P q.1 kd = true) v := by
  simp only [rdLookup, optK, mapK, lookV]
  rcases mapT P t with _ | ⟨kt, e⟩
  · rfl
  · simp only
    rcases σ[id]? with _ | _ | (_ | es | _)
    · rfl
    · rfl
    · rfl
    · simp only
      rcases findD kd es with _ | _ | v
      · rcases zeroV P e with _ | _ <;> rfl
      · simp only
        rcases zeroV P e with _ | z <;> rfl
      · rfl
    · rfl
@[go_sem, go_sem ↓] theorem wrMakeMap_eq (k : Prop → A → St → Prop) : wrMakeMap σ k = k True (.mapr σ.length) (σ ++ [some (.map [])]) := (rfl)
@[go_sem, go_sem ↓] theorem wrMapUpdate_mapr (t : TypeId) (id : Nat) (kd : D) (v : A) (k : Prop → A → St → Prop) : wrMapUpdate P σ t (.mapr id) (.d kd) v k = optK (mapT P t) fun q => mapK σ id fun es =>
    k (plainK P q.1 kd = true ∧ (findD kd es).isSome = true ∧ v.bd σ.length = true) .any (σ.set id (some (.map (setD kd v es)))) := by
  simp only [wrMapUpdate, optK, mapK]
  rcases mapT P t with _ | ⟨kt, e⟩
  · rfl
  · simp only
    rcases σ[id]? with _ | _ | (_ | es | _) <;> rfl
@[go_sem, go_sem ↓] theorem wrDelete_mapr (t : TypeId) (id : Nat) (kd : D) (k : Prop → A → St → Prop) : wrDelete P σ t (.mapr id) (.d kd) k = optK (mapT P t) fun q => mapK σ id fun es =>
    k (plainK P q.1 kd = true ∧ (findD kd es).isSome = true) .any (σ.set id (some (.map (delD kd es)))) := by
  simp only [wrDelete, optK, mapK]
  rcases mapT P t with _ | ⟨kt, e⟩
  · rfl
  · simp only
    rcases σ[id]? with _ | _ | (_ | es | _) <;> rfl
@[go_sem, go_sem ↓] theorem mapK_app {l : St} (j : Nat) (k : List (D × A) → Prop) : mapK (σ ++ l) (σ.length + j) k = mapK l j k := by
  simp only [mapK]
  rw [List.getElem?_append_right (by omega), Nat.add_sub_cancel_left]
@[go_sem, go_sem ↓] theorem mapK_app0 {l : St} (k : List (D × A) → Prop) : mapK (σ ++ l) σ.length k = mapK l 0 k := by
  exact mapK_app (σ := σ) (l := l) 0 k
@[go_sem, go_sem ↓] theorem mapK_zero (es : List (D × A)) (l : St) (k : List (D × A) → Prop) : mapK (some (.map es) :: l) 0 k = k es := (rfl)
@[go_sem, go_sem ↓] theorem mapK_succ (o : Option Ob) (l : St) (n : Nat) (k : List (D × A) → Prop) : mapK (o :: l) (n + 1) k = mapK l n k := (rfl)
/-- Are a type's values integers (as keys)? -/
def plainI (P : Program) (t : TypeId) : Bool := match P.underlying t with
  | some (.int _) => true
  | _ => false
@[go_sem] theorem plainK_int (t : TypeId) (ik : IntKind) (n : Int) : plainK P t (.int ik n) = plainI P t := by
  unfold plainK plainI
  cases P.underlying t with
  | none => rfl
  | some u => cases u <;> rfl
attribute [go_sem] findD setD delD keyD Option.isSome_some mapOk
@[go_sem] theorem lookV_nil (ok : Bool) (kd : D) (z : A) : lookV ok kd (some z) [] = some (mapOk ok z false) := (rfl)

/-- A set of integers, as a map into the bools. -/
def setM (l : List Int) : List (D × A) := l.map fun n => (.int .i64 n, .d (.bool true))
theorem findD_setM (n : Int) : ∀ l : List Int, findD (.int .i64 n) (setM l) = some (if n ∈ l then some (.d (.bool true)) else none)
  | [] => rfl
  | x :: l => by
    have ih := findD_setM n l
    simp only [setM, List.map_cons, findD, keyD, if_true] at ih ⊢
    by_cases hx : n = x
    · subst hx; simp
    · have h1 : (n == x) = false := by simpa using hx
      rw [h1]
      simp only
      rw [ih]
      simp [hx]
@[go_sem high] theorem findD_setM_some (n : Int) (l : List Int) : (findD (.int .i64 n) (setM l)).isSome = true := by rw [findD_setM]; rfl
@[go_sem high] theorem lookV_setM (n : Int) (l : List Int) : lookV false (.int .i64 n) (some (.d (.bool false))) (setM l) = some (.d (.bool (decide (n ∈ l)))) := by
  simp only [lookV, findD_setM]
  by_cases h : n ∈ l <;> simp [h, mapOk]
@[go_sem high] theorem setD_setM (n : Int) : ∀ l : List Int, setD (.int .i64 n) (.d (.bool true)) (setM l) = setM (if n ∈ l then l else l ++ [n])
  | [] => rfl
  | x :: l => by
    have ih := setD_setM n l
    simp only [setM, List.map_cons, setD, keyD, if_true] at ih ⊢
    by_cases hx : n = x
    · subst hx; simp
    · have h1 : (n == x) = false := by simpa using hx
      rw [h1]
      simp only
      rw [ih]
      by_cases h : n ∈ l <;> simp [h, hx]
@[go_sem high] theorem delD_setM (n : Int) : ∀ l : List Int, delD (.int .i64 n) (setM l) = setM (l.erase n)
  | [] => rfl
  | x :: l => by
    have ih := delD_setM n l
    simp only [setM, List.map_cons, delD, keyD, if_true] at ih ⊢
    by_cases hx : n = x
    · subst hx; simp
    · have h1 : (n == x) = false := by simpa using hx
      have h2 : (x == n) = false := by simpa using fun h => hx h.symm
      rw [h1]
      simp only
      rw [ih, List.erase_cons, h2]
      rfl
theorem setM_nil : setM [] = [] := rfl
section
variable {id sz off : Nat} {xs : List D}
@[go_sem] theorem frz_rs (i s o l : Nat) (w : Option TypeId) : A.frz id sz off xs (.rs i s o l w) = if i = id ∧ s = sz ∧ o = off ∧ l = xs.length then .d (.sl sz xs) else .rs i s o l w := by rw [A.frz]
@[go_sem] theorem frz_d (x : D) : A.frz id sz off xs (.d x) = .d x := rfl
@[go_sem] theorem frz_ea (x : D) (o : Nat) : A.frz id sz off xs (.ea x o) = .ea x o := rfl
@[go_sem] theorem frz_ref (i o : Nat) : A.frz id sz off xs (.ref i o) = .ref i o := rfl
@[go_sem] theorem frz_fn (f : Fn) (a b : List A) : A.frz id sz off xs (.fn f a b) = .fn f a b := rfl
@[go_sem] theorem frz_mapr (i : Nat) : A.frz id sz off xs (.mapr i) = .mapr i := rfl
@[go_sem] theorem frz_grd (c : Bool) (a : A) : A.frz id sz off xs (.grd c a) = .grd c a := rfl
@[go_sem] theorem frz_any : A.frz id sz off xs .any = .any := rfl
@[go_sem] theorem frz_agg (l : List A) : A.frz id sz off xs (.agg l) = mkAgg (frzL id sz off xs l) := by rw [A.frz]
@[go_sem] theorem frz_tup (l : List A) : A.frz id sz off xs (.tup l) = .tup (frzL id sz off xs l) := by rw [A.frz]
@[go_sem] theorem frz_ifc (t : TypeId) (a : A) : A.frz id sz off xs (.ifc t a) = .ifc t (a.frz id sz off xs) := by rw [A.frz]
@[go_sem] theorem frzL_nil : frzL id sz off xs [] = [] := rfl
@[go_sem] theorem frzL_cons (a : A) (r : List A) : frzL id sz off xs (a :: r) = a.frz id sz off xs :: frzL id sz off xs r := rfl
end
attribute [go_sem] Nat.add_left_cancel_iff Nat.left_eq_add Nat.add_eq_left Nat.add_lt_add_iff_left Nat.lt_add_right_iff_pos decide_true decide_false Nat.reduceMul
/-- What nobody asks for is forgotten first. -/
theorem Wk.pre {G : Glob} {n0 : Nat} {fr : Fr} {σ : St} {I : Fr → St → Prop} (live : List Nat) (h : Wk G n0 I (maskN live 0 fr) σ) : Wk G n0 I fr σ := by
  obtain ⟨a, b, h1, h2⟩ := h
  exact ⟨a, b, (Weak.mask live).trans h1, h2⟩
@[go_sem] theorem obren_map0 (n0 : Nat) (p : List Nat) : Ob.ren n0 p (.map []) = .map [] := rfl
@[go_sem] theorem obren_setM (n0 : Nat) (p : List Nat) (l : List Int) : Ob.ren n0 p (.map (setM l)) = .map (setM l) := by
  simp [Ob.ren, setM, A.ren, Function.comp_def]

/-- An object is cut short. -/
theorem Weak.short {fr : Fr} {l : St} (j n : Nat) {cs : List A} (h : l[j]? = some (some (.cells cs))) : Weak G n0 fr (σ ++ l) fr (σ ++ l.set j (some (.cells (cs.take n)))) := fun ρ0 w0 ρ w vs h0 hx hI hr => by
  have hk : (σ ++ l)[σ.length + j]? = some (some (.cells cs)) := by rw [List.getElem?_append_right (by omega), Nat.add_sub_cancel_left]; exact h
  refine ⟨ρ, hx, ?_, hr⟩
  rw [← set_app]
  refine ⟨by rw [hI.len, List.length_set], hI.inj, hI.lt, fun id o ho => ?_, hI.glob, ?_, hI.own⟩
  · rw [List.getElem?_set] at ho
    split at ho
    · rename_i e
      split at ho
      · injection ho with ho; injection ho with ho; subst ho
        subst e
        rcases hI.obj _ _ hk with ⟨b, h1, u, et, h2, h3, h4⟩ | ⟨h1, h2⟩
        · refine .inl ⟨b, h1, u, et, h2, by rw [List.length_take]; omega, fun i x hx' => ?_⟩
          rw [List.getElem?_take] at hx'
          split at hx'
          · exact h4 i x hx'
          · cases hx'
        · injection h2 with h2; subst h2
          exact .inr ⟨h1, by simp⟩
      · cases ho
    · exact hI.obj id o ho
  · rw [List.length_set]
    refine hI.bd.set _ fun o ho => ?_
    injection ho with ho; subst ho
    have := hI.bd _ _ hk
    exact bdL_of fun x hx => bdL_mem this x (List.mem_of_mem_take hx)
end
end Go.Ab
