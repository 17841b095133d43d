/- append over abstract stores. -/
import Derived.Test.YtmjlhbkgljcnoaaGreatDoorAbWrite3
namespace Go.Ab
open Go Go.RowKit
section
variable {P : Program} {ρ ρ' : Ren} {w w' : World} {σ : St} {G : Glob}

/-- An object's block goes to a new number. -/
theorem Inv.rename (hI : Inv G ρ σ w) {id b : Nat} {o : Ob} (hid : ρ[id]? = some (.live b)) (hσ : σ[id]? = some (some o)) :
    Ext ρ w (ρ.set id .dead ++ [.live b]) w ∧ Inv G (ρ.set id .dead ++ [.live b]) (σ.set id none ++ [some o]) w := by
  have hidl : id < ρ.length := (List.getElem?_eq_some_iff.1 hid).1
  have hget : ∀ (i k : Nat), (ρ.set id .dead ++ [Rs.live b])[i]? = some (.live k) → (i < ρ.length ∧ i ≠ id ∧ ρ[i]? = some (.live k)) ∨ (i = ρ.length ∧ k = b) := fun i k h => by
    by_cases hil : i < ρ.length
    · rw [List.getElem?_append_left (by simpa using hil), List.getElem?_set] at h
      split at h
      · injection h with h; cases h
      · rename_i hne; exact .inl ⟨hil, fun e => hne e.symm, h⟩
    · rw [List.getElem?_append_right (by simp; omega)] at h
      have e0 : i - (ρ.set id .dead).length = 0 := by
        have := (List.getElem?_eq_some_iff.1 h).1
        simp at this ⊢; omega
      rw [e0] at h
      simp at h
      have := e0
      simp at this
      exact .inr ⟨by omega, h.symm⟩
  have hx : Ext ρ w (ρ.set id .dead ++ [.live b]) w := by
    refine ⟨rfl, rfl, rfl, Nat.le_refl _, by simp, fun i r h => ?_, fun k ⟨i, h⟩ _ => ?_, fun _ _ _ => rfl, fun _ vs _ _ h => ⟨vs, h, rfl⟩⟩
    · have hil : i < ρ.length := (List.getElem?_eq_some_iff.1 h).1
      rw [List.getElem?_append_left (by simpa using hil), List.getElem?_set]
      split
      · exact .inr rfl
      · exact .inl h
    · rcases hget i k h with ⟨_, _, h⟩ | ⟨_, h⟩
      · exact ⟨i, h⟩
      · rw [h]; exact ⟨id, hid⟩
  have hobj := hI.obj id o hσ
  refine ⟨hx, by simp [hI.len], fun i j k h1 h2 => ?_, fun i k h => ?_, fun i o' h => ?_, fun g x h => (hI.glob g x h).ext hx, by
    rw [List.length_append, List.length_set]
    exact ((hI.bd.set id fun o h => by cases h).mono (by simp)).snoc (fun o' h => by injection h with h; subst h; exact Ob.bd_mono (by simp) _ (hI.bd id _ hσ)), fun k ⟨i, h⟩ => by
    rcases hget i k h with ⟨_, _, h⟩ | ⟨_, h⟩
    · exact hI.own k ⟨i, h⟩
    · rw [h]; exact hI.own b ⟨id, hid⟩⟩
  · rcases hget i k h1 with ⟨a1, a2, a3⟩ | ⟨a1, a2⟩ <;> rcases hget j k h2 with ⟨b1, b2, b3⟩ | ⟨b1, b2⟩
    · exact hI.inj i j k a3 b3
    · exact (a2 (hI.inj i id k a3 (by rw [b2]; exact hid))).elim
    · exact (b2 (hI.inj j id k b3 (by rw [a2]; exact hid))).elim
    · omega
  · rcases hget i k h with ⟨_, _, h⟩ | ⟨_, h⟩
    · exact hI.lt i k h
    · rw [h]; exact hI.lt id b hid
  · by_cases hil : i < σ.length
    · rw [List.getElem?_append_left (by simpa using hil), List.getElem?_set] at h
      split at h
      · split at h <;> cases h
      · rename_i hne
        have hiρ : i < ρ.length := by rw [hI.len]; exact hil
        have e : (ρ.set id .dead ++ [Rs.live b])[i]? = ρ[i]? := by
          rw [List.getElem?_append_left (by simpa using hiρ), List.getElem?_set, if_neg hne]
        rcases hI.obj i o' h with ⟨k, h1, h2⟩ | ⟨h1, h2⟩
        · exact .inl ⟨k, e.trans h1, h2.keep hx rfl⟩
        · exact .inr ⟨e.trans h1, h2⟩
    · rw [List.getElem?_append_right (by simp; omega)] at h
      have e0 : i - (σ.set id none).length = 0 := by
        have := (List.getElem?_eq_some_iff.1 h).1
        simp at this ⊢; omega
      rw [e0] at h
      simp at h
      subst h
      have e1 : i = (ρ.set id .dead).length := by simp [hI.len]; simp at e0; omega
      rcases hobj with ⟨k, h1, h2⟩ | ⟨h1, h2⟩
      · rw [hid] at h1; injection h1 with h1; injection h1 with h1; subst h1
        exact .inl ⟨b, by rw [e1]; exact getElem?_snoc_eq, h2.keep hx rfl⟩
      · rw [hid] at h1; injection h1 with h1; cases h1

theorem SameL.ext {cs : List A} {vs : List Value} (h : SameL ρ w cs vs) (hx : Ext ρ w ρ' w') : SameL ρ' w' cs vs := ⟨h.1, h.2.1, fun i x u a b => (h.2.2 i x u a b).ext hx⟩
theorem SameL.append {cs ds : List A} {vs us : List Value} (h : SameL ρ w cs vs) (k : SameL ρ w ds us) : SameL ρ w (cs ++ ds) (vs ++ us) := by
  refine ⟨by simp [h.1, k.1], fun u hu => ?_, fun i x u hx hu => ?_⟩
  · rcases List.mem_append.1 hu with hu | hu
    · exact h.2.1 u hu
    · exact k.2.1 u hu
  · by_cases hi : i < cs.length
    · rw [List.getElem?_append_left hi] at hx
      rw [List.getElem?_append_left (by have := h.1; omega)] at hu
      exact h.2.2 i x u hx hu
    · rw [List.getElem?_append_right (by omega)] at hx
      rw [List.getElem?_append_right (by have := h.1; omega), ← h.1] at hu
      exact k.2.2 _ x u hx hu

/-- A new row behind a growing append. -/
theorem grown_new (hI : Inv G ρ σ w) {e : TypeId} {cs : List A} {vs : List Value} (hbd : bdL σ.length cs = true) (hS : SameL ρ w cs vs) (rest : Array Value) :
    Ext ρ w (ρ ++ [.live w.heap.size]) (w.drew.alloc (.cells (vs.toArray ++ rest) e)) ∧ Inv G (ρ ++ [.live w.heap.size]) (σ ++ [some (.cells cs)]) (w.drew.alloc (.cells (vs.toArray ++ rest) e)) := by
  have h1 := hI.ext_same (Ext.drew ρ w) rfl
  obtain ⟨hx, hI'⟩ := h1.push (ob := .cells (vs.toArray ++ rest) e) (o := .cells cs) (bdL_mono (Nat.le_succ _) cs hbd) (fun ρ' w' hx hb => ⟨_, e, hb, by simp [← hS.1], fun i x hx' => by
    have hi : i < vs.length := by have := (List.getElem?_eq_some_iff.1 hx').1; have := hS.1; omega
    refine ⟨vs[i], by simp [Array.getElem?_append, hi], hS.2.1 _ (List.getElem_mem hi), ((hS.2.2 i x _ hx' (List.getElem?_eq_getElem hi)).ext (Ext.drew ρ w)).ext hx⟩⟩) (fun ds h => by cases h)
  exact ⟨(Ext.drew ρ w).trans hx, hI'⟩

theorem wrAppend_sound {t tx ty : TypeId} {a x : A} {u v : Value} {k : Prop → A → St → Prop} (hI : Inv G ρ σ w) (ha : RepA ρ w a u) (hx : RepA ρ w x v) (h : wrAppend P σ t tx a x k) :
    Does P G ρ w (Builtin.append_ #[t, tx] ty #[u, v]) k := by
  unfold wrAppend at h
  split at h
  case h_2 => exact h.elim
  rename_i e s bytes zs hmk
  obtain ⟨i, z, hu, hs, hi, hz, rfl, hzl, p0, _, rfl⟩ := mkT_spec hmk
  split at h
  case h_2 => exact h.elim
  rename_i p m news hsrc
  have hsz : i.size = s := by rw [← hs]; simp [Program.cellsOf, hi]
  have hzs : z.cells.size = s := by simpa using hzl
  -- onto a nil slice
  have onNil : p → m ≤ maxLen → m * i.bytes ≤ 140737488355328 → ∃ v' r w', (Builtin.append_ #[t, tx] ty #[.slice none 0 0, v]).run P w = .ok v' w' ∧ Ext ρ w (ρ ++ [r]) w' ∧
      Inv G (ρ ++ [r]) (σ ++ [some (.cells news)]) w' ∧ ((r = .empty ∧ m = 0 ∧ v' = .slice none 0 0) ∨ ∃ b cap vs, r = .live b ∧ v' = .slice (some ⟨b, 0, none⟩) m cap ∧ w'.heap[b]? = some (.cells vs e (0, 0)) ∧ m ≤ cap ∧ vs.size = cap * s ∧ cap ≤ maxLen) := fun p1 p3 p4 => by
    obtain ⟨us, hS, hsame⟩ := srcA_sound hI hx hsrc p1
    rw [← hsz] at hS
    by_cases hm : m = 0
    · subst hm
      have hus : us = [] := List.eq_nil_of_length_eq_zero (by simpa using hS.size)
      subst hus
      have hnews : news = [] := List.eq_nil_of_length_eq_zero hsame.1
      subst hnews
      obtain ⟨h1, h2⟩ := hI.pushEmpty
      refine ⟨.slice none 0 0, _, w, ?_, h1, h2, .inl ⟨rfl, rfl, rfl⟩⟩
      rcases hS.type with hd | ⟨d, hd⟩ <;> simp [Builtin.append_, run_underlying hu, run_underlying hd, sizeOf, typeInfo, hi, hS.len, hS.cells w rfl]
    · have hrun := run_append_new (P := P) (w := w) (ty := ty) hu hi hz hS (base := none) (n := 0) (cap := 0) (olds := []) (fun w' _ => rfl) (by omega) (by simp only [maxLen] at p3; omega) (growslice_fits (by omega) (by simpa using p4))
      simp only [Nat.zero_add] at hrun
      obtain ⟨h1, h2⟩ := grown_new (e := e) hI (srcA_bd hI hsrc) hsame (Builtin.zeroCells z.cells (grownCap w m 0 e - m))
      have hge := grownCap_ge w m 0 e
      have hcm : grownCap w m 0 e ≤ maxLen := grownCap_le_maxLen w m 0 e p3
      refine ⟨_, _, _, hrun, by simpa using h1, by simpa using h2, .inr ⟨_, _, _, rfl, rfl, heap_alloc_new _ _, hge, ?_, hcm⟩⟩
      simp only [Array.size_append, List.size_toArray, List.length_nil, Nat.zero_add, size_zeroCells, hS.size, hzs, hsz, ← Nat.add_mul]
      congr 1; omega
  split at h
  · refine ⟨_, _, _, h, fun ⟨p1, p2, p3⟩ => ?_⟩
    have hu' : u = .slice none 0 0 := by cases ha with | d ha => cases ha; rfl
    subst hu'
    obtain ⟨v', r, w', hr, hE, hI', hv⟩ := onNil p1 p2 p3
    refine ⟨v', _, w', hr, hE, hI', ?_⟩
    have hr' : (ρ ++ [r])[σ.length]? = some r := by rw [← hI.len]; exact getElem?_snoc_eq
    rcases hv with ⟨rfl, rfl, rfl⟩ | ⟨b, cap, vs, rfl, rfl, h1, h2, h3, h4⟩
    · exact .rsEmpty _ _ hr'
    · exact .rs hr' h1 h2 (by omega) (fun e' he' => by injection he' with he'; subst he'; exact ⟨rfl, rfl, h3, h4⟩)
  · rename_i id sz off len ow
    split at h
    · rename_i cs hσ
      refine ⟨_, _, _, h, fun ⟨p1, p2, p3, p4, p5, p6, p7⟩ => ?_⟩
      subst p2; subst p3; subst p4
      rcases rs_at hI (live_of hσ) ha with ⟨b, cap, vs, e', z', hb, rfl, hh, hcap, hfit, ho⟩ | ⟨hb, _, rfl, rfl⟩
      · obtain ⟨rfl, _, hvs, hcm⟩ := ho _ rfl
        rcases obj_live hI hσ with ⟨b', vs', et, hb', hh', hlen, hcs⟩ | ⟨he', _⟩
        case inr => rw [hb] at he'; injection he' with he'; cases he'
        rw [hb] at hb'; injection hb' with hb'; injection hb' with hb'; subst hb'
        rw [hh] at hh'; injection hh' with hh'; injection hh' with e1 e2 e3; subst e1; subst e2; subst e3
        obtain ⟨us, hS, hsame⟩ := srcA_sound hI hx hsrc p1
        rw [← hsz] at hS
        have hold : SameL ρ w cs (vs.toList.take cs.length) := ⟨by simp; omega, fun u hu' => by
            obtain ⟨j, hj, rfl⟩ := List.getElem_of_mem hu'
            have hj' : j < cs.length := by simp at hj; omega
            obtain ⟨v, h1, h2, _⟩ := hcs j (cs.getD j .any) (getD_some hj')
            have : (vs.toList.take cs.length)[j] = v := by
              have h3 := (Array.getElem?_eq_some_iff.1 h1).2
              simpa using h3
            rw [this]; exact h2, fun j x u hx' hu' => by
            have hj' : j < cs.length := (List.getElem?_eq_some_iff.1 hx').1
            obtain ⟨v, h1, _, h3⟩ := hcs j x hx'
            rw [List.getElem?_take_of_lt hj', Array.getElem?_toList, h1] at hu'
            injection hu' with hu'; subst hu'; exact h3⟩
        have hall := hold.append hsame
        have hbdall : bdL σ.length (cs ++ news) = true := bdL_append (hI.bd id _ hσ) (srcA_bd hI hsrc)
        by_cases hroom : len + m ≤ cap
        · have hmul : (len + m) * sz ≤ cap * sz := Nat.mul_le_mul_right _ hroom
          rw [Nat.add_mul] at hmul
          have husz : us.length = m * sz := by rw [hS.size, hsz]
          have hrun := run_append_in (P := P) (w := w) (ty := ty) hu hi hS hh hsame.2.1 hroom (by rw [hsz]; omega)
          rw [hsz] at hrun
          obtain ⟨hE, hI1⟩ := hI.write (vs' := (vs.toList.take (len * sz) ++ us ++ vs.toList.drop (len * sz + us.length)).toArray) (cs := cs ++ news) hb hh rfl (by simp; omega) hbdall (by have := hall.1; simp at this ⊢; omega)
            (fun j y hy => by
              have hj : j < (cs ++ news).length := (List.getElem?_eq_some_iff.1 hy).1
              have hj2 : j < (vs.toList.take cs.length ++ us).length := by rw [← hall.1]; exact hj
              refine ⟨_, ?_, hall.2.1 _ (List.getElem_mem hj2), hall.2.2 j y _ hy (List.getElem?_eq_getElem hj2)⟩
              rw [← p5, List.getElem?_toArray, List.getElem?_append_left hj2]
              exact List.getElem?_eq_getElem hj2)
          obtain ⟨hE2, hI2⟩ := hI1.rename (o := .cells (cs ++ news)) hb (by rw [List.getElem?_set, if_pos rfl, if_pos (List.getElem?_eq_some_iff.1 hσ).1])
          refine ⟨_, _, _, hrun, hE.trans hE2, by simpa using hI2, ?_⟩
          refine .rs (b := b) (by rw [← hI.len]; have : ρ.length = (ρ.set id .dead).length := by simp
                                  rw [this]; exact getElem?_snoc_eq) (setRow_heap w b vs _ e _ hh) hroom (by simp; omega) (fun e' he' => by
            injection he' with he'; subst he'; exact ⟨rfl, rfl, by simp; omega, hcm⟩)
        · have hrun := run_append_new (P := P) (w := w) (ty := ty) hu hi hz hS (base := some ⟨b, 0, none⟩) (n := len) (cap := cap) (olds := vs.toList.take cs.length)
            (firstCells_some (by rw [hsz]; simp; omega) (fun j v hj => by
              rw [cell_of_heap hh]
              simp only [List.getElem?_take] at hj
              split at hj
              · simpa using hj
              · cases hj)) (by omega) (by simp only [maxLen] at p6; omega) (growslice_fits (by omega) p7)
          obtain ⟨k1, k2⟩ := hI.kill id
          obtain ⟨h1, h2⟩ := grown_new (e := e) k2 (by rw [List.length_set]; exact hbdall) (hall.ext k1) (Builtin.zeroCells z.cells (grownCap w (len + m) cap e - (len + m)))
          have hge := grownCap_ge w (len + m) cap e
          have hcm' : grownCap w (len + m) cap e ≤ maxLen := grownCap_le_maxLen w (len + m) cap e p6
          have harr : ((vs.toList.take cs.length).toArray ++ us.toArray) = (vs.toList.take cs.length ++ us).toArray := by simp
          rw [harr] at hrun
          have hl2 : (vs.toList.take cs.length ++ us).length = (len + m) * sz := by
            rw [← hall.1, List.length_append, p5, hsame.1, hS.size, hsz, Nat.add_mul]
          refine ⟨_, _, _, hrun, k1.trans h1, h2, ?_⟩
          have hvsz : (((vs.toList.take cs.length ++ us).toArray) ++ Builtin.zeroCells z.cells (grownCap w (len + m) cap e - (len + m))).size = grownCap w (len + m) cap e * sz := by
            rw [Array.size_append, List.size_toArray, hl2, size_zeroCells, hzs, ← Nat.add_mul]
            congr 1; omega
          refine .rs (b := w.heap.size) (by rw [← hI.len]; have : ρ.length = (ρ.set id .dead).length := by simp
                                            rw [this]; exact getElem?_snoc_eq) (heap_alloc_new w.drew _) hge (by rw [hvsz]; omega) (fun e' he' => by
            injection he' with he'; subst he'; exact ⟨rfl, rfl, hvsz, hcm'⟩)
      · obtain ⟨v', r, w', hr, hE, hI', hv⟩ := onNil p1 (by omega) (by simpa using p7)
        have hcs : cs = [] := List.eq_nil_of_length_eq_zero (by simpa using p5)
        subst hcs
        obtain ⟨k1, k2⟩ := hI'.kill id
        have hid : id < σ.length := (List.getElem?_eq_some_iff.1 hσ).1
        have e1 : (ρ ++ [r]).set id .dead = ρ.set id .dead ++ [r] := List.set_append_left _ _ (by rw [hI.len]; exact hid)
        have e2 : (σ ++ [some (Ob.cells news)]).set id none = σ.set id none ++ [some (.cells news)] := List.set_append_left _ _ hid
        rw [e1] at k1 k2
        rw [e2] at k2
        refine ⟨v', _, w', hr, hE.trans k1, by simpa using k2, ?_⟩
        have hr' : (ρ.set id .dead ++ [r])[σ.length]? = some r := by
          rw [← hI.len]; have : ρ.length = (ρ.set id .dead).length := by simp
          rw [this]; exact getElem?_snoc_eq
        rw [Nat.zero_add]
        rcases hv with ⟨rfl, rfl, rfl⟩ | ⟨b, cap, vs, rfl, rfl, h1, h2, h3, h4⟩
        · exact .rsEmpty _ _ hr'
        · exact .rs hr' h1 h2 (by omega) (fun e' he' => by injection he' with he'; subst he'; exact ⟨rfl, rfl, h3, h4⟩)
    · exact h.elim
  · exact h.elim
/-- Is a type one of the integers? -/
def isIntK (P : Program) (t : TypeId) : Bool := match P.underlying t with
  | some (.int _) => true
  | _ => false
theorem run_append_grow {t tx ty e : TypeId} {i : TypeInfo} {z : Value} (ht : P.underlying t = some (.slice e)) (hi : P.info? e = some i) (hz : i.zero = some z) (htx : isIntK P tx = true) {ik : IntKind} {n : Int} {m : Nat} (hm : n = m) (h0 : 0 < m) (h1 : m ≤ maxLen) (hs : 0 < i.size) (hb : m * i.bytes ≤ 140737488355328) :
    (Builtin.append_ #[t, tx] ty #[.slice none 0 0, .int ik n]).run P w =
      .ok (.slice (some ⟨w.heap.size, 0, none⟩) m (grownCap w m 0 e)) (w.drew.alloc (.cells (Builtin.zeroCells z.cells m ++ Builtin.zeroCells z.cells (grownCap w m 0 e - m)) e)) := by
  subst hm
  unfold isIntK at htx
  split at htx
  case h_2 => cases htx
  rename_i jk hd
  simp only [maxLen] at h1
  have hw : IntKind.i64.wrap (m : Int) = (m : Int) := by rw [IntKind.wrap_i64]; omega
  have hn : ¬ (m ≤ 0) := by omega
  have h63' : ¬ (9223372036854775807 < (m : Int)) := by omega
  have hlt : ¬ ((m : Int) < 0) := by omega
  have h48 : ¬ (281474976710656 < (m : Int) * (i.bytes : Int)) := by
    have : (m : Int) * (i.bytes : Int) = ((m * i.bytes : Nat) : Int) := by simp
    omega
  have hms : ¬ (m = 0) := by omega
  have hss : ¬ (i.size = 0) := by omega
  have h48' : ¬ (281474976710656 < Builtin.nextslicecap m 0 * i.bytes) := Nat.not_lt.2 (growslice_fits (by omega) hb)
  simp [Builtin.append_, run_underlying ht, run_underlying hd, sizeOf, typeInfo, zeroValue, hi, hz, hw, hn, h63', hlt, h48, hms, hss, h48', Question.forced, newRow, grownCap, asInt, asIntOf, Builtin.firstCells]
  intro hc
  exact absurd hc (Nat.mul_ne_zero hms hss)
/-- An append of fresh zeros to a nil slice: a new object, of whose cells nothing is said. -/
def wrGrow (P : Program) (σ : St) (t tx : TypeId) (a : A) (n : Int) (k : Prop → A → St → Prop) : Prop := match a with
  | .d .nils => match mkT P t with
    | some (e, s, bytes, _) => k (isIntK P tx = true ∧ 0 < n ∧ n.toNat ≤ maxLen ∧ n.toNat * bytes ≤ 140737488355328) (.rs σ.length s 0 n.toNat (some e)) (σ ++ [some (.cells [])])
    | none => False
  | _ => False
theorem wrGrow_sound {t tx ty : TypeId} {a : A} {n : Int} {ik : IntKind} {u : Value} {k : Prop → A → St → Prop} (hI : Inv G ρ σ w) (ha : RepA ρ w a u) (h : wrGrow P σ t tx a n k) :
    Does P G ρ w (Builtin.append_ #[t, tx] ty #[u, .int ik n]) k := by
  unfold wrGrow at h
  split at h
  case h_2 => exact h.elim
  split at h
  case h_2 => exact h.elim
  rename_i e s bytes zs hmk
  obtain ⟨i, z, hu, hs, hi, hz, rfl, hzl, p0, _, rfl⟩ := mkT_spec hmk
  refine ⟨_, _, _, h, fun ⟨p1, p2, p3, p4⟩ => ?_⟩
  have hu' : u = .slice none 0 0 := by cases ha with | d ha => cases ha; rfl
  subst hu'
  have hsz : i.size = s := by rw [← hs]; simp [Program.cellsOf, hi]
  have hzs : z.cells.size = s := by simpa using hzl
  have hrun := run_append_grow (P := P) (w := w) (t := t) (tx := tx) (ty := ty) (ik := ik) (n := n) (m := n.toNat) hu hi hz p1 (by omega) (by omega) p3 (by omega) p4
  obtain ⟨h1, h2⟩ := grown_new (e := e) (cs := []) (vs := []) hI rfl ⟨rfl, fun u hu => by (cases hu), fun j x u hx hu => by simp at hx⟩ (Builtin.zeroCells z.cells n.toNat ++ Builtin.zeroCells z.cells (grownCap w n.toNat 0 e - n.toNat))
  have hge := grownCap_ge w n.toNat 0 e
  have hcm : grownCap w n.toNat 0 e ≤ maxLen := grownCap_le_maxLen w n.toNat 0 e p3
  have e0 : (([] : List Value).toArray ++ (Builtin.zeroCells z.cells n.toNat ++ Builtin.zeroCells z.cells (grownCap w n.toNat 0 e - n.toNat))) = (Builtin.zeroCells z.cells n.toNat ++ Builtin.zeroCells z.cells (grownCap w n.toNat 0 e - n.toNat)) := by simp
  rw [e0] at h1 h2
  have hsize : (Builtin.zeroCells z.cells n.toNat ++ Builtin.zeroCells z.cells (grownCap w n.toNat 0 e - n.toNat)).size = grownCap w n.toNat 0 e * s := by
    rw [Array.size_append, size_zeroCells, size_zeroCells, hzs, ← Nat.add_mul]
    congr 1; omega
  refine ⟨_, _, _, hrun, h1, h2, .rs (b := w.heap.size) (by rw [← hI.len]; exact getElem?_snoc_eq) (heap_alloc_new _ _) hge (by rw [hsize]; omega) (fun e' he' => by
    injection he' with he'; subst he'; exact ⟨rfl, rfl, hsize, hcm⟩)⟩
end
end Go.Ab
