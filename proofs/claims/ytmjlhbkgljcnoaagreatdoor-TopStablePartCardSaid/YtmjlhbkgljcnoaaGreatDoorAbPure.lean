/- Calls that only read: what is one's own is read as data while the call lasts. -/
import Derived.Test.YtmjlhbkgljcnoaaGreatDoorAbMore
set_option linter.unusedSimpArgs false
namespace Go.Ab
open Go
section
variable {ρ ρ' : Ren} {w w' : World} {σ : St} {G : Glob}
theorem RepD.less {m m' : Nat → Prop} (hm : ∀ b, m' b → m b) {x : D} {v : Value} (h : RepD w m x v) : RepD w m' x v := by
  induction h with
  | int k n => exact .int k n
  | bool b => exact .bool b
  | str s => exact .str s
  | nilp => exact .nilp
  | nilf => exact .nilf
  | nili => exact .nili
  | nilm => exact .nilm
  | nils => exact .nils
  | sl0 sz a c => exact .sl0 sz a c
  | sl sz xs b o c vs hm' hb hc len one cell rep ih => exact .sl sz xs b o c vs (fun h => hm' (hm b h)) hb hc len one cell ih
  | agg cs vs len one rep ih => exact .agg cs vs len one ih
theorem M_nil {b : Nat} : ¬ M [] b := fun ⟨i, h⟩ => by simp at h
theorem RepD.nil {x : D} {v : Value} (h : RepD w (M ρ) x v) : RepD w (M []) x v := h.less fun _ hb => (M_nil hb).elim
theorem Inv.nil (hI : Inv G ρ σ w) : Inv G [] [] w := by
  refine ⟨rfl, fun i j b h => by simp at h, fun i b h => by simp at h, fun i o h => by simp at h, fun g x h => ?_, fun i o h => by simp at h, fun b ⟨i, h⟩ => by simp at h⟩
  have := hI.glob g x h
  generalize hv : Value.pointer (some ⟨g, 0, none⟩) = v at this
  cases this with
  | ea _ _ b o vs hm hb one cell rep =>
    injection hv with hv; injection hv with hv; injection hv with h1 h2 h3
    subst h1
    have ho : o = 0 := by omega
    subst ho
    exact .ea x 0 g 0 vs M_nil hb one cell fun j y h1 => (rep j y h1).nil
/-- What a's value reads as while nothing is one's own. -/
def Views (σ : St) (a a' : A) : Prop := ∀ (G : Glob) (ρ : Ren) (w : World) (v : Value), Inv G ρ σ w → RepA ρ w a v → RepA [] w a' v
def ViewsL (σ : St) : List A → List A → Prop
  | [], [] => True
  | a :: l, a' :: l' => Views σ a a' ∧ ViewsL σ l l'
  | _, _ => False
theorem Views.d (x : D) : Views σ (.d x) (.d x) := fun G ρ w v _ h => by cases h with | d h => exact .d h.nil
theorem Views.ea (x : D) (off : Nat) : Views σ (.ea x off) (.ea x off) := fun G ρ w v _ h => by
  cases h with
  | ea _ _ b o vs hm hb one cell rep => exact .ea x off b o vs M_nil hb one cell fun j y h1 => (rep j y h1).nil
theorem views_d {x : D} {a : A} (hV : Views σ a (.d x)) {v : Value} (hI : Inv G ρ σ w) (h : RepA ρ w a v) : RepD w (M []) x v := by
  have := hV G ρ w v hI h
  cases this with
  | d h => exact h
theorem Views.rs {id sz off len : Nat} {ow : Option TypeId} {cs : List A} {xs : List D} (hσ : σ[id]? = some (some (.cells cs))) (hn : xs.length = len)
    (hl : ∀ (i : Nat) (x : D), xs[i]? = some x → x.cells.length = sz)
    (hc : ∀ (i : Nat) (x : D) (j : Nat) (y : D), xs[i]? = some x → x.cells[j]? = some y → y.one = true ∧ ∃ c, cs[off + i * sz + j]? = some c ∧ Views σ c (.d y)) : Views σ (.rs id sz off len ow) (.d (.sl sz xs)) := fun G ρ w v hI hv => by
  subst hn
  rcases rs_at hI (live_of hσ) hv with ⟨b, cap, us, e, z, h1, rfl, h3, h4, h5, -⟩ | ⟨h1, h2, h3, rfl⟩
  · cases xs with
    | nil => exact .d (.sl0 sz _ cap)
    | cons x0 xt =>
      rcases hI.obj id _ hσ with ⟨b', g1, us', e', g2, g3, g4⟩ | ⟨g1, g2⟩
      · rw [h1] at g1; injection g1 with g1; injection g1 with g1; subst g1
        rw [h3] at g2; injection g2 with g2; injection g2 with g2 g2' g2''; subst g2
        refine .d (.sl sz _ b off cap (fun i j => us.toList.getD (off + i * sz + j) undef) M_nil (hI.lt id b h1) h4 hl (fun i x j y a1 a2 => (hc i x j y a1 a2).1) (fun i x j y a1 a2 => ?_) (fun i x j y a1 a2 => ?_))
        · obtain ⟨_, c, k1, k2⟩ := hc i x j y a1 a2
          obtain ⟨u, b1, b2, b3⟩ := g4 _ _ k1
          rw [cell_of_heap h3, b1]
          simp [List.getD, b1]
        · obtain ⟨_, c, k1, k2⟩ := hc i x j y a1 a2
          obtain ⟨u, b1, b2, b3⟩ := g4 _ _ k1
          have := views_d k2 hI b3
          simp only [List.getD, Array.getElem?_toList, b1, Option.getD_some]
          exact this
      · rw [h1] at g1; cases g1
  · cases xs with
    | nil => exact .d (.sl0 sz none 0)
    | cons => simp at h3
theorem Views.ref {id off : Nat} {cs : List A} {ds : List D} (hσ : σ[id]? = some (some (.cells cs)))
    (hc : ∀ (j : Nat) (y : D), ds[j]? = some y → y.one = true ∧ ∃ c, cs[j]? = some c ∧ Views σ c (.d y)) : Views σ (.ref id off) (.ea (.agg ds) off) := fun G ρ w v hI hv => by
  obtain ⟨b, hb, rfl⟩ := ref_at hI (live_of hσ) hv
  rcases hI.obj id _ hσ with ⟨b', g1, us, e, g2, g3, g4⟩ | ⟨g1, g2⟩
  · rw [hb] at g1; injection g1 with g1; injection g1 with g1; subst g1
    have := RepA.ea (ρ := []) (w := w) (.agg ds) off b 0 (fun j => us.toList.getD j undef) M_nil (hI.lt id b hb) (fun j y h => (hc j y h).1) (fun j y h => by
      obtain ⟨_, c, k1, k2⟩ := hc j y h
      obtain ⟨u, b1, b2, b3⟩ := g4 _ _ k1
      rw [Nat.zero_add, cell_of_heap g2, b1]
      simp [List.getD, b1]) (fun j y h => by
      obtain ⟨_, c, k1, k2⟩ := hc j y h
      obtain ⟨u, b1, b2, b3⟩ := g4 _ _ k1
      have := views_d k2 hI b3
      simp only [List.getD, Array.getElem?_toList, b1, Option.getD_some]
      exact this)
    rw [Nat.zero_add] at this
    exact this
  · rw [hb] at g1; cases g1
theorem views_list : ∀ {args args' : List A} {vs : List Value}, ViewsL σ args args' → Inv G ρ σ w → RepL ρ w args vs → RepL [] w args' vs
  | [], [], vs, _, _, h => ⟨h.1, fun i x v hi => by simp at hi⟩
  | [], _ :: _, _, hv, _, _ => hv.elim
  | _ :: _, [], _, hv, _, _ => hv.elim
  | a :: l, a' :: l', [], _, _, h => by have := h.1; simp at this
  | a :: l, a' :: l', v :: vs, hv, hI, h => by
    have ht := views_list (vs := vs) hv.2 hI ⟨by simpa using h.1, fun i x u h1 h2 => h.2 (i + 1) x u (by simpa using h1) (by simpa using h2)⟩
    refine ⟨by simp [ht.1], fun i x u h1 h2 => ?_⟩
    match i with
    | 0 => simp at h1 h2; subst h1 h2; exact hv.1 G ρ w _ hI (h.2 0 a _ rfl rfl)
    | i + 1 => exact ht.2 i x u (by simpa using h1) (by simpa using h2)
theorem views3 {a a' b b' c c' : A} (h : Views σ a a') (k : Views σ b b') (m : Views σ c c') : ViewsL σ [a, b, c] [a', b', c'] := ⟨h, k, m, trivial⟩
/-- Data that points at nothing. -/
def D.scal : D → Bool
  | .int _ _ => true
  | .bool _ => true
  | .str _ => true
  | _ => false
def A.scal : A → Bool
  | .d x => x.scal
  | .tup l => l.all fun a => match a with | .d x => x.scal | _ => false
  | _ => false
theorem scal_rep {m m' : Nat → Prop} {x : D} (hs : x.scal = true) {v : Value} (h : RepD w m x v) : RepD w m' x v := by
  cases h <;> first | exact .int _ _ | exact .bool _ | exact .str _ | cases hs
theorem scalA_rep {a : A} (hs : a.scal = true) {v : Value} (h : RepA ρ w a v) : RepA ρ' w a v := by
  cases h <;> simp only [A.scal] at hs <;> first | cases hs | skip
  case d h => exact .d (scal_rep hs h)
  case tup cs vs len rep =>
    refine .tup cs vs len fun i x v hx hv => ?_
    have h1 := List.all_eq_true.1 hs x (List.mem_of_getElem? hx)
    have h2 := rep i x v hx hv
    cases x <;> first | cases h1 | skip
    case d y =>
      cases h2 with
      | d h2 => exact .d (scal_rep h1 h2)
/-- A CALL THAT ONLY READS. -/
theorem ac_pure {P : Program} {f : FuncId} {args args' : List A} {R : A → St → Prop} (a : A) (hs : a.scal = true) (hv : ViewsL σ args args') (h : AC P G.calm f args' [] fun r _ => r = a) (hR : R a σ) : AC P G f args σ R := by
  refine ⟨h.1, fun ρ w vs hI hL => ?_⟩
  refine (h.2 [] w vs (hI.nil.turn rfl) (views_list hv hI hL)).mono fun e w' hc => ?_
  rcases hc with ⟨v, ρ', σ', r, a1, hx, hI', hr, e1⟩ | ⟨_, _, _, _, _, _, _, _, _, _, h⟩
  case inr => exact h.elim
  subst e1
  have hE : Ext ρ w ρ w' := by
    refine ⟨hx.os, hx.tape, hx.output, hx.size, Nat.le_refl _, fun _ _ h => .inl h, fun _ h _ => h, fun b hb _ => hx.block b hb M_nil, fun b us e z hb => ?_⟩
    have hlt : b < w.heap.size := by
      rcases Nat.lt_or_ge b w.heap.size with h | h
      · exact h
      · rw [Array.getElem?_eq_none h] at hb; cases hb
    exact ⟨us, by rw [hx.block b hlt M_nil]; exact hb, rfl⟩
  refine .inl ⟨v, ρ, σ, r, a1, hE, ?_, scalA_rep hs hr, hR⟩
  refine ⟨hI.len, hI.inj, fun i b h => Nat.lt_of_lt_of_le (hI.lt i b h) hx.size, fun id o ho => ?_, fun g x h => (hI.glob g x h).ext hE, hI.bd, fun b ⟨i, h⟩ ds => by rw [hx.block b (hI.lt i b h) M_nil]; exact hI.own b ⟨i, h⟩ ds⟩
  rcases hI.obj id o ho with ⟨b, h1, h2⟩ | h1
  · refine .inl ⟨b, h1, ?_⟩
    have hb := hx.block b (hI.lt id b h1) M_nil
    cases o with
    | cells cs =>
      obtain ⟨us, e, k1, k2, k3⟩ := h2
      exact ⟨us, e, by rw [hb]; exact k1, k2, fun i x hx' => let ⟨v, q1, q2, q3⟩ := k3 i x hx'; ⟨v, q1, q2, q3.ext hE⟩⟩
    | map es =>
      obtain ⟨ms, clock, k1, k2, k3⟩ := h2
      exact ⟨ms, clock, by rw [hb]; exact k1, k2, fun i x m hx' hm => let ⟨q1, q2⟩ := k3 i x m hx' hm; ⟨q1.ext hE, q2.ext hE⟩⟩
    | lp l r fr =>
      obtain ⟨k1, k2, k3⟩ := h2
      exact ⟨k1, by rw [hb]; exact k2, k3.ext hE⟩
  · exact .inr h1
@[go_sem] theorem rdCmp_any {P : Program} {o : BinOp} {t : TypeId} {k : Prop → A → Prop} (b : A) : rdCmp P o t k .any b = k False .any := by
  unfold rdCmp
  cases isCmp o <;> rfl
/-- A slice of one's own, sliced. -/
@[go_sem, go_sem ↓] theorem rdSlice_rs_none {P : Program} {k : Prop → A → Prop} (t id sz off len : Nat) (ow : Option TypeId) (hi : Option A) : rdSlice P σ t k (.rs id sz off len ow) none hi = b2K (some 0) (boundV hi len) fun _ h => optK (elemT P t) fun q => k (liveId σ id = true ∧ q.2 = sz ∧ 0 ≤ h ∧ h ≤ len) (.rs id sz off h.toNat ow) := by
  simp only [rdSlice, b2K]
  rcases boundV hi len with _ | _ <;> rcases elemT P t with _ | ⟨_, _⟩ <;> rfl
@[go_sem, go_sem ↓] theorem rdSlice_rs_some {P : Program} {k : Prop → A → Prop} (t id sz off len : Nat) (ow : Option TypeId) (ik : IntKind) (l : Int) (hi : Option A) : rdSlice P σ t k (.rs id sz off len ow) (some (.d (.int ik l))) hi = b2K (some l) (boundV hi len) fun l h => optK (elemT P t) fun q => k (liveId σ id = true ∧ q.2 = sz ∧ 0 ≤ l ∧ l < h ∧ h ≤ len) (.rs id sz (off + l.toNat * sz) (h - l).toNat none) := by
  simp only [rdSlice, b2K]
  rcases boundV hi len with _ | _ <;> rcases elemT P t with _ | ⟨_, _⟩ <;> rfl
end
end Go.Ab
