/- Calls that only read: what is one's own is read as data while the call lasts. -/
import Derived.Test.YtnanofipjiclfaaAbMore
set_option linter.unusedSimpArgs false
namespace Go.Ab
open Go
section
variable {ρ ρ' : Ren} {w w' : World} {σ : St} {G : Glob}
theorem RepD.less {m m' : Nat → Prop} (hm : ∀ b, m' b → m b) {x : D} {v : Value} (h : RepD w m x v) : RepD w m' x v := by
  induction h with
  | int k n => exact .int k n
  | bool b => exact .bool b
  | str s => exact .str s
  | nilp => exact .nilp
  | nilf => exact .nilf
  | nili => exact .nili
  | nilm => exact .nilm
  | nils => exact .nils
  | sl0 sz a c => exact .sl0 sz a c
  | sl sz xs b o c vs hm' hb hc len one cell rep ih => exact .sl sz xs b o c vs (fun h => hm' (hm b h)) hb hc len one cell ih
  | agg cs vs len one rep ih => exact .agg cs vs len one ih
theorem M_nil {b : Nat} : ¬ M [] b := fun ⟨i, h⟩ => by simp at h
theorem RepD.nil {x : D} {v : Value} (h : RepD w (M ρ) x v) : RepD w (M []) x v := h.less fun _ hb => (M_nil hb).elim
theorem Inv.nil (hI : Inv G ρ σ w) : Inv G [] [] w := by
  refine ⟨rfl, fun i j b h => by simp at h, fun i b h => by simp at h, fun i o h => by simp at h, fun g x h => ?_, fun i o h => by simp at h, fun b ⟨i, h⟩ => by simp at h⟩
  have := hI.glob g x h
  generalize hv : Value.pointer (some ⟨g, 0, none⟩) = v at this
  cases this with
  | ea _ _ b o vs hm hb one cell rep =>
    injection hv with hv; injection hv with hv; injection hv with h1 h2 h3
    subst h1
    have ho : o = 0 := by omega
    subst ho
    exact .ea x 0 g 0 vs M_nil hb one cell fun j y h1 => (rep j y h1).nil
/-- What a's value reads as while nothing is one's own. -/
def Views (σ : St) (a a' : A) : Prop := ∀ (G : Glob) (ρ : Ren) (w : World) (v : Value), Inv G ρ σ w → RepA ρ w a v → RepA [] w a' v
theorem Views.d (x : D) : Views σ (.d x) (.d x) := fun G ρ w v _ h => by cases h with | d h => exact .d h.nil
theorem Views.ea (x : D) (off : Nat) : Views σ (.ea x off) (.ea x off) := fun G ρ w v _ h => by
  cases h with
  | ea _ _ b o vs hm hb one cell rep => exact .ea x off b o vs M_nil hb one cell fun j y h1 => (rep j y h1).nil
theorem views_d {x : D} {a : A} (hV : Views σ a (.d x)) {v : Value} (hI : Inv G ρ σ w) (h : RepA ρ w a v) : RepD w (M []) x v := by
  have := hV G ρ w v hI h
  cases this with
  | d h => exact h
theorem Views.rs {id sz off len : Nat} {ow : Option TypeId} {cs : List A} {xs : List D} (hσ : σ[id]? = some (some (.cells cs))) (hn : xs.length = len)
    (hl : ∀ (i : Nat) (x : D), xs[i]? = some x → x.cells.length = sz)
    (hc : ∀ (i : Nat) (x : D) (j : Nat) (y : D), xs[i]? = some x → x.cells[j]? = some y → y.one = true ∧ ∃ c, cs[off + i * sz + j]? = some c ∧ Views σ c (.d y)) : Views σ (.rs id sz off len ow) (.d (.sl sz xs)) := fun G ρ w v hI hv => by
  subst hn
  rcases rs_at hI (live_of hσ) hv with ⟨b, cap, us, e, z, h1, rfl, h3, h4, h5, -⟩ | ⟨h1, h2, h3, rfl⟩
  · cases xs with
    | nil => exact .d (.sl0 sz _ cap)
    | cons x0 xt =>
      rcases hI.obj id _ hσ with ⟨b', g1, us', e', g2, g3, g4⟩ | ⟨g1, g2⟩
      · rw [h1] at g1; injection g1 with g1; injection g1 with g1; subst g1
        rw [h3] at g2; injection g2 with g2; injection g2 with g2 g2' g2''; subst g2
        refine .d (.sl sz _ b off cap (fun i j => us.toList.getD (off + i * sz + j) undef) M_nil (hI.lt id b h1) h4 hl (fun i x j y a1 a2 => (hc i x j y a1 a2).1) (fun i x j y a1 a2 => ?_) (fun i x j y a1 a2 => ?_))
        · obtain ⟨_, c, k1, k2⟩ := hc i x j y a1 a2
          obtain ⟨u, b1, b2, b3⟩ := g4 _ _ k1
          rw [cell_of_heap h3, b1]
          simp [List.getD, b1]
        · obtain ⟨_, c, k1, k2⟩ := hc i x j y a1 a2
          obtain ⟨u, b1, b2, b3⟩ := g4 _ _ k1
          have := views_d k2 hI b3
          simp only [List.getD, Array.getElem?_toList, b1, Option.getD_some]
          exact this
      · rw [h1] at g1; cases g1
  · cases xs with
    | nil => exact .d (.sl0 sz none 0)
    | cons => simp at h3
theorem Views.ref {id off : Nat} {cs : List A} {ds : List D} (hσ : σ[id]? = some (some (.cells cs)))
    (hc : ∀ (j : Nat) (y : D), ds[j]? = some y → y.one = true ∧ ∃ c, cs[j]? = some c ∧ Views σ c (.d y)) : Views σ (.ref id off) (.ea (.agg ds) off) := fun G ρ w v hI hv => by
  obtain ⟨b, hb, rfl⟩ := ref_at hI (live_of hσ) hv
  rcases hI.obj id _ hσ with ⟨b', g1, us, e, g2, g3, g4⟩ | ⟨g1, g2⟩
  · rw [hb] at g1; injection g1 with g1; injection g1 with g1; subst g1
    have := RepA.ea (ρ := []) (w := w) (.agg ds) off b 0 (fun j => us.toList.getD j undef) M_nil (hI.lt id b hb) (fun j y h => (hc j y h).1) (fun j y h => by
      obtain ⟨_, c, k1, k2⟩ := hc j y h
      obtain ⟨u, b1, b2, b3⟩ := g4 _ _ k1
      rw [Nat.zero_add, cell_of_heap g2, b1]
      simp [List.getD, b1]) (fun j y h => by
      obtain ⟨_, c, k1, k2⟩ := hc j y h
      obtain ⟨u, b1, b2, b3⟩ := g4 _ _ k1
      have := views_d k2 hI b3
      simp only [List.getD, Array.getElem?_toList, b1, Option.getD_some]
      exact this)
    rw [Nat.zero_add] at this
    exact this
  · rw [hb] at g1; cases g1
/-- A slice of one's own, sliced. -/
@[go_sem, go_sem ↓] theorem rdSlice_rs_none {P : Program} {k : Prop → A → Prop} (t id sz off len : Nat) (ow : Option TypeId) (hi : Option A) : rdSlice P σ t k (.rs id sz off len ow) none hi = b2K (some 0) (boundV hi len) fun _ h => optK (elemT P t) fun q => k (liveId σ id = true ∧ q.2 = sz ∧ 0 ≤ h ∧ h ≤ len) (.rs id sz off h.toNat ow) := by
  simp only [rdSlice, b2K]
  rcases boundV hi len with _ | _ <;> rcases elemT P t with _ | ⟨_, _⟩ <;> rfl
end
end Go.Ab
