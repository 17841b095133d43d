/- clear of a slice of one's own. -/
import Derived.Test.YtmjlhbkgljcnoaaGreatDoorAbMap
set_option linter.unusedSimpArgs false
namespace Go.Ab
open Go Go.RowKit
section
variable (P : Program) (σ : St)
def wrClear (t : TypeId) (a : A) (k : Prop → A → St → Prop) : Prop := match a with
  | .rs id sz off len _ => match mkT P t with
    | some (_, s, _, _) => match σ[id]? with
      | some (some (.cells cs)) => k (sz = s ∧ 0 < len ∧ off + len * s ≤ cs.length) .any (σ.set id (some (.cells (cs.take off ++ List.replicate (len * s) .any ++ cs.drop (off + len * s)))))
      | _ => False
    | none => False
  | _ => False
end
section
variable {P : Program} {ρ ρ' : Ren} {w w' : World} {σ : St} {G : Glob}
theorem mem_zeroCells {z : Array Value} {n : Nat} {u : Value} (h : u ∈ (Builtin.zeroCells z n).toList) : u ∈ z.toList := by
  simp only [Builtin.zeroCells, Array.toList_map, Array.toList_range, List.mem_map, List.mem_range] at h
  obtain ⟨i, hi, rfl⟩ := h
  have hz : 0 < z.size := by
    rcases Nat.eq_zero_or_pos z.size with e | e
    · rw [e] at hi; omega
    · exact e
  have hlt : i % z.size < z.size := Nat.mod_lt _ hz
  rw [getElem!_pos z _ hlt]
  exact Array.mem_toList_iff.2 (Array.getElem_mem hlt)
theorem wrClear_sound {t ty : TypeId} {a : A} {u : Value} {k : Prop → A → St → Prop} (hI : Inv G ρ σ w) (ha : RepA ρ w a u) (h : wrClear P σ t a k) :
    Does P G ρ w (Builtin.clear_ #[t] ty #[u]) k := by
  unfold wrClear at h
  split at h
  · rename_i id sz off len ow
    split at h
    · rename_i e s bytes zs hmk
      obtain ⟨i, z, hu, hs, hi, hz, rfl, hzl, p0, hall, _⟩ := mkT_spec hmk
      split at h
      · rename_i cs hσ
        refine ⟨_, _, _, h, fun ⟨p1, p2, p3⟩ => ?_⟩
        subst p1
        rcases rs_at hI (live_of hσ) ha with ⟨b, cap, vs, e', z', hb, rfl, hh, hcap, hfit, _⟩ | ⟨_, _, rfl, _⟩
        case inr => omega
        rcases obj_live hI hσ with ⟨b', vs', et, hb', hh', hlen, hcs⟩ | ⟨he', _⟩
        case inr => rw [hb] at he'; injection he' with he'; cases he'
        rw [hb] at hb'; injection hb' with hb'; injection hb' with hb'; subst hb'
        rw [hh] at hh'; injection hh' with hh'; injection hh' with e1 e2 e3; subst e1; subst e2; subst e3
        have hzsz : z.cells.size = sz := by simpa using hzl
        obtain ⟨us, hus⟩ : ∃ us, us = (Builtin.zeroCells z.cells len).toList := ⟨_, rfl⟩
        have hul : us.length = len * sz := by rw [hus, Array.length_toList, size_zeroCells, hzsz]
        have h1 : ∀ u ∈ us, u.oneCell' = true := fun u hu => (zero_reps (ρ := ρ) (w := w) hall).1 u (mem_zeroCells (hus ▸ hu))
        have hw := hI.write (vs' := (vs.toList.take off ++ us ++ vs.toList.drop (off + us.length)).toArray) (cs := cs.take off ++ List.replicate (len * sz) .any ++ cs.drop (off + len * sz)) hb hh rfl (by simp; omega) (bdL_of fun y hy => by
            have hold : bdL σ.length cs = true := hI.bd id _ hσ
            simp only [List.mem_append] at hy
            rcases hy with (hy | hy) | hy
            · exact bdL_mem hold y (List.mem_of_mem_take hy)
            · rw [(List.mem_replicate.1 hy).2]; rfl
            · exact bdL_mem hold y (List.mem_of_mem_drop hy)) (by simp; omega)
          (fun i y hy => by
            have := splice_reps (ρ := ρ) (w := w) (cs := cs) (new := List.replicate (len * sz) .any) (vs := vs.toList) (us := us) (off := off) (by simp [hul]) (by simpa using p3) (by simpa using hlen) h1 (fun i x u hx hu => by
              rw [(List.mem_replicate.1 (List.mem_of_getElem? hx)).2]; exact .any _) (fun i x hx => by simpa using hcs i x hx) i y (by simpa using hy)
            simpa using this)
        have hst := run_storeCells_at P b off _ us 0 vs w hh (by omega) h1
        simp only [Nat.add_zero] at hst
        have hzv : (zeroValue e).run P w = .ok z w := by simp [zeroValue, typeInfo, hi, hz]
        refine ⟨.tuple #[], _, _, ?_, hw.1, hw.2, .any _⟩
        obtain ⟨n, rfl⟩ : ∃ n, len = n + 1 := ⟨len - 1, by omega⟩
        simp [Builtin.clear_, run_underlying hu, hzv, ← hus, hst]
      · exact h.elim
    · exact h.elim
  · exact h.elim
end
end Go.Ab
