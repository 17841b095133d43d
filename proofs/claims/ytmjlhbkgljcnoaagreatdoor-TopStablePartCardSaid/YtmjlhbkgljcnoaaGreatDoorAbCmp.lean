/- Comparison with nil; copy into a slice of one's own. -/
import Derived.Test.YtmjlhbkgljcnoaaGreatDoorAbClear
set_option linter.unusedSimpArgs false
namespace Go.Ab
open Go Go.RowKit
/-- A comparison with a nil that stands in the text: of pointers? equal? -/
def nilC : BinOp → Operand → Option (Bool × Bool)
  | .eql, .const (.pointer none) => some (true, true)
  | .neq, .const (.pointer none) => some (true, false)
  | .eql, .const (.slice none 0 0) => some (false, true)
  | .neq, .const (.slice none 0 0) => some (false, false)
  | _, _ => none
section
variable (P : Program) (σ : St)
/-- What it comes to; of an empty slice it may come to either. -/
def wrNil (q : Bool × Bool) (t : TypeId) (k : A → St → Prop) (a : A) : Prop := match q.1, a with
  | true, .ref id _ => (liveId σ id = true ∧ ptrT P t = true) ∧ k (.d (.bool (!q.2))) σ
  | true, .d .nilp => ptrT P t = true ∧ k (.d (.bool q.2)) σ
  | false, .d .nils => sliceT P t = true ∧ k (.d (.bool q.2)) σ
  | false, .d (.sl _ xs) => sliceT P t = true ∧ ∀ b : Bool, (b = true → xs = []) → k (.d (.bool (b == q.2))) σ
  | false, .rs id _ _ len _ => (liveId σ id = true ∧ sliceT P t = true) ∧ ∀ b : Bool, (b = true → len = 0) → k (.d (.bool (b == q.2))) σ
  | _, _ => False
/-- The whole of a slice of one's own is copied over. -/
def wrCopy (t tx : TypeId) (a x : A) (k : Prop → A → St → Prop) : Prop := match mkT P t with
  | some (_, s, _, _) => match srcA P σ s tx x with
    | some (p, m, news) => match a with
      | .rs id sz off len _ => match σ[id]? with
        | some (some (.cells cs)) => k (p ∧ sz = s ∧ len = m ∧ off + len * s ≤ cs.length) (.d (.int .i64 len)) (σ.set id (some (.cells (cs.take off ++ news ++ cs.drop (off + len * s)))))
        | _ => False
      | _ => False
    | none => False
  | none => False
end
section
variable {P : Program} {ρ ρ' : Ren} {w w' : World} {σ : St} {G : Glob}
theorem nilC_spec {o : BinOp} {y : Operand} {q : Bool × Bool} (h : nilC o y = some q) : (o = .eql ∧ q.2 = true ∨ o = .neq ∧ q.2 = false) ∧ (q.1 = true ∧ y = .const (.pointer none) ∨ q.1 = false ∧ y = .const (.slice none 0 0)) := by
  unfold nilC at h
  split at h <;> first | (injection h with h; subst h; simp; done) | cases h
theorem wrNil_sound {o : BinOp} {y : Operand} {q : Bool × Bool} {t : TypeId} {k : A → St → Prop} {a : A} {u : Value} (x : Operand) (ve : Operand → Value) (hc : ∀ v, ve (.const v) = v) (hq : nilC o y = some q) (hI : Inv G ρ σ w) (ha : RepA ρ w a u) (h : wrNil P σ q t k a) :
    ∃ b : Bool, (do eqGuard o t x y u (ve y); binOp o t u (ve y) : Sem Value).run P w = .ok (.bool b) w ∧ k (.d (.bool b)) σ := by
  obtain ⟨ho, hy⟩ := nilC_spec hq
  have ptr : ∀ p : Option Addr, q.1 = true → ptrT P t = true → (do eqGuard o t x y (.pointer p) (ve y); binOp o t (.pointer p) (ve y) : Sem Value).run P w = .ok (.bool (p.isNone == q.2)) w := fun p h1 hp => by
    rcases hy with ⟨_, rfl⟩ | ⟨h2, _⟩
    · obtain ⟨hg, he⟩ := nilp_run (P := P) (t := t) p x (.const (.pointer none)) w
      rw [hc]
      rcases ho with ⟨rfl, h3⟩ | ⟨rfl, h3⟩ <;> simp [hg, binOp, he hp, h3]
    · rw [h1] at h2; cases h2
  have slc : ∀ (p : Option Addr) (n c : Nat), q.1 = false → sliceT P t = true → (do eqGuard o t x y (.slice p n c) (ve y); binOp o t (.slice p n c) (ve y) : Sem Value).run P w = .ok (.bool (p.isNone == q.2)) w := fun p n c h1 hp => by
    rcases hy with ⟨h2, _⟩ | ⟨_, rfl⟩
    · rw [h1] at h2; cases h2
    · obtain ⟨hg, he⟩ := nils_run (P := P) (t := t) p n c x (.const (.slice none 0 0)) w
      rw [hc]
      rcases ho with ⟨rfl, h3⟩ | ⟨rfl, h3⟩ <;> simp [hg, binOp, he hp, h3]
  unfold wrNil at h
  split at h
  · rename_i id off h1
    obtain ⟨⟨hl, hp⟩, hk⟩ := h
    obtain ⟨b, hb, rfl⟩ := ref_at hI hl ha
    refine ⟨_, ptr _ h1 hp, ?_⟩
    simpa using hk
  · rename_i h1
    cases ha with | d ha => cases ha with | nilp =>
    refine ⟨_, ptr _ h1 h.1, ?_⟩
    simpa using h.2
  · rename_i h1
    cases ha with | d ha => cases ha with | nils =>
    refine ⟨_, slc _ _ _ h1 h.1, ?_⟩
    simpa using h.2
  · rename_i xs h1
    cases ha with
    | d ha =>
      cases ha with
      | sl0 _ a c => exact ⟨_, slc _ _ _ h1 h.1, h.2 _ fun _ => rfl⟩
      | sl => exact ⟨_, slc _ _ _ h1 h.1, h.2 _ fun h => by cases h⟩
  · rename_i id sz off len ow h1
    obtain ⟨⟨hl, hp⟩, hk⟩ := h
    rcases rs_at hI hl ha with ⟨b, cap, us, e, z, h1', rfl, -⟩ | ⟨h1', h2, h3, rfl⟩
    · exact ⟨_, slc _ _ _ h1 hp, hk _ fun h => by cases h⟩
    · exact ⟨_, slc _ _ _ h1 hp, hk _ fun _ => h3⟩
  · exact h.elim
theorem wrCopy_sound {t tx ty : TypeId} {a x : A} {u v : Value} {k : Prop → A → St → Prop} (hI : Inv G ρ σ w) (ha : RepA ρ w a u) (hx : RepA ρ w x v) (h : wrCopy P σ t tx a x k) :
    Does P G ρ w (Builtin.copy_ #[t, tx] ty #[u, v]) k := by
  unfold wrCopy at h
  split at h
  · rename_i e s bytes zs hmk
    obtain ⟨i, z, hu, hs, hi, hz, rfl, hzl, p0, hall, _⟩ := mkT_spec hmk
    split at h
    · rename_i p m news hsrc
      split at h
      · rename_i id sz off len ow
        split at h
        · rename_i cs hσ
          refine ⟨_, _, _, h, fun ⟨p1, p2, p3, p4⟩ => ?_⟩
          subst p2
          subst p3
          obtain ⟨us, hS, hL⟩ := srcA_sound hI hx hsrc p1
          have hul : us.length = len * sz := hS.size
          have hsz : i.size = sz := by rw [← hs]; simp [Program.cellsOf, hi]
          have hnl : news.length = len * sz := by rw [hL.1, hul]
          rcases rs_at hI (live_of hσ) ha with ⟨b, cap, vs, e', z', hb, rfl, hh, hcap, hfit, _⟩ | ⟨he, h0, h3, rfl⟩
          · rcases obj_live hI hσ with ⟨b', vs', et, hb', hh', hlen, hcs⟩ | ⟨he', _⟩
            case inr => rw [hb] at he'; injection he' with he'; cases he'
            rw [hb] at hb'; injection hb' with hb'; injection hb' with hb'; subst hb'
            rw [hh] at hh'; injection hh' with hh'; injection hh' with e1 e2 e3; subst e1; subst e2; subst e3
            have h1 : ∀ u ∈ us, u.oneCell' = true := hL.2.1
            have hw := hI.write (vs' := (vs.toList.take off ++ us ++ vs.toList.drop (off + us.length)).toArray) (cs := cs.take off ++ news ++ cs.drop (off + len * sz)) hb hh rfl (by simp; omega) (bdL_of fun y hy => by
                have hold : bdL σ.length cs = true := hI.bd id _ hσ
                simp only [List.mem_append] at hy
                rcases hy with (hy | hy) | hy
                · exact bdL_mem hold y (List.mem_of_mem_take hy)
                · exact bdL_mem (srcA_bd hI hsrc) y hy
                · exact bdL_mem hold y (List.mem_of_mem_drop hy)) (by simp; omega)
              (fun i y hy => by
                have := splice_reps (ρ := ρ) (w := w) (cs := cs) (new := news) (vs := vs.toList) (us := us) (off := off) (by omega) (by omega) (by simpa using hlen) h1 hL.2.2 (fun i x hx => by simpa using hcs i x hx) i y (by simpa [hnl] using hy)
                simpa using this)
            have hst := run_storeCells_at P b off _ us 0 vs w hh (by omega) h1
            simp only [Nat.add_zero] at hst
            have hfc := hS.cells w rfl
            refine ⟨goInt len, _, _, ?_, hw.1, hw.2, .d (.int _ _)⟩
            simp [Builtin.copy_, run_underlying hu, hS.len, sizeOf, typeInfo, hi, hsz, hfc, hst]
          · subst h3
            have hu0 : us = [] := List.eq_nil_of_length_eq_zero (by omega)
            have hn0 : news = [] := List.eq_nil_of_length_eq_zero (by omega)
            subst hu0; subst hn0
            have hfc := hS.cells w rfl
            have hse : σ.set id (some (.cells (cs.take off ++ [] ++ cs.drop (off + 0 * sz)))) = σ := by
              simp only [List.append_nil, Nat.zero_mul, Nat.add_zero, List.take_append_drop]
              apply List.ext_getElem? 
              intro n
              rw [List.getElem?_set]
              split
              · rename_i e; subst e
                rw [hσ, if_pos (List.getElem?_eq_some_iff.1 hσ).1]
              · rfl
            refine ⟨goInt 0, ρ, w, ?_, Ext.refl _ _, by rw [hse]; exact hI, .d (.int _ _)⟩
            simp [Builtin.copy_, run_underlying hu, hS.len, sizeOf, typeInfo, hi, hsz, hfc]
        · exact h.elim
      · exact h.elim
    · exact h.elim
  · exact h.elim
end
end Go.Ab
