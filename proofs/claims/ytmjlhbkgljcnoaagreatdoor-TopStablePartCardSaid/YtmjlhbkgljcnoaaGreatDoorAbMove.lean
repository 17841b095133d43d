/- Objects become data, and objects are laid anew under other numbers. -/
import Derived.Test.YtmjlhbkgljcnoaaGreatDoorAbSimp
set_option linter.unusedSimpArgs false
namespace Go.Ab
open Go

mutual
/-- The slice over object id is read as data. -/
def A.frz (id sz off : Nat) (xs : List D) : A → A
  | .rs i s o l w => if i = id ∧ s = sz ∧ o = off ∧ l = xs.length then .d (.sl sz xs) else .rs i s o l w
  | .agg cs => mkAgg (frzL id sz off xs cs)
  | .tup cs => .tup (frzL id sz off xs cs)
  | .ifc t a => .ifc t (a.frz id sz off xs)
  | .d x => .d x
  | .ea x o => .ea x o
  | .ref i o => .ref i o
  | .fn f cs ds => .fn f cs ds
  | .mapr i => .mapr i
  | .grd c a => .grd c a
  | .any => .any
def frzL (id sz off : Nat) (xs : List D) : List A → List A
  | [] => []
  | a :: r => a.frz id sz off xs :: frzL id sz off xs r
end
theorem frzL_eq (id sz off : Nat) (xs : List D) : ∀ (l : List A), frzL id sz off xs l = l.map (A.frz id sz off xs)
  | [] => rfl
  | a :: r => by simp [frzL, frzL_eq id sz off xs r]

def idx : List Nat → Nat → Option Nat
  | [], _ => none
  | a :: r, j => if a = j then some 0 else (idx r j).map (· + 1)
theorem idx_get : ∀ {p : List Nat} {j k : Nat}, idx p j = some k → p[k]? = some j
  | [], j, k, h => by simp [idx] at h
  | a :: r, j, k, h => by
    unfold idx at h
    split at h
    · rename_i e; cases h; simp [e]
    · cases hr : idx r j with
      | none => simp [hr] at h
      | some k' => simp [hr] at h; subst h; simp; exact idx_get hr
def newId (n0 : Nat) (p : List Nat) (id : Nat) : Option Nat := if id < n0 then some id else (idx p (id - n0)).map (n0 + ·)
mutual
def A.ren (n0 : Nat) (p : List Nat) : A → A
  | .ref id off => match newId n0 p id with | some k => .ref k off | none => .any
  | .rs id sz off l w => match newId n0 p id with | some k => .rs k sz off l w | none => .any
  | .mapr id => match newId n0 p id with | some k => .mapr k | none => .any
  | .agg cs => .agg (renL n0 p cs)
  | .tup cs => .tup (renL n0 p cs)
  | .fn f cs ds => .fn f (renL n0 p cs) (renL n0 p ds)
  | .ifc t a => .ifc t (a.ren n0 p)
  | .d x => .d x
  | .ea x o => .ea x o
  | .grd _ _ => .any
  | .any => .any
def renL (n0 : Nat) (p : List Nat) : List A → List A
  | [] => []
  | a :: r => a.ren n0 p :: renL n0 p r
end
theorem renL_eq (n0 : Nat) (p : List Nat) : ∀ (l : List A), renL n0 p l = l.map (A.ren n0 p)
  | [] => rfl
  | a :: r => by simp [renL, renL_eq n0 p r]
def Ob.ren (n0 : Nat) (p : List Nat) : Ob → Ob
  | .cells cs => .cells (renL n0 p cs)
  | .map es => .map (es.map fun e => (e.1, e.2.ren n0 p))
  | .lp l r fr => .lp l r (renL n0 p fr)
def pickOb (n0 : Nat) (p : List Nat) (l : St) (j : Nat) : Option Ob := (l.getD j none).map (Ob.ren n0 p)
def keepL (n0 : Nat) (p : List Nat) (l : St) : St := p.map (pickOb n0 p l)

section
variable {ρ ρ' : Ren} {w w' : World} {σ : St} {G : Glob}

mutual
theorem rep_frz {id sz off : Nat} {xs : List D} (hx : Ext ρ w ρ' w) (hs : ∀ ow v, RepA ρ w (.rs id sz off xs.length ow) v → RepA ρ' w (.d (.sl sz xs)) v) : ∀ (a : A) (v : Value), RepA ρ w a v → RepA ρ' w (a.frz id sz off xs) v
  | .rs i s o l ow, v, h => by
    unfold A.frz
    split
    · rename_i e; obtain ⟨rfl, rfl, rfl, rfl⟩ := e; exact hs ow v h
    · exact h.ext hx
  | .agg cs, v, h => by
    unfold A.frz
    cases h with
    | agg _ vs len one rep =>
      have := rep_frzL hx hs cs vs ⟨len, rep⟩
      exact rep_mkAgg this.1 one this.2
  | .tup cs, v, h => by
    unfold A.frz
    cases h with
    | tup _ vs len rep =>
      have := rep_frzL hx hs cs vs ⟨len, rep⟩
      exact .tup _ vs this.1 this.2
  | .ifc t a, v, h => by
    unfold A.frz
    cases h with
    | ifc _ h => exact .ifc t (rep_frz hx hs a _ h)
  | .d x, v, h => h.ext hx
  | .ea x o, v, h => h.ext hx
  | .ref i o, v, h => h.ext hx
  | .fn f cs ds, v, h => h.ext hx
  | .mapr i, v, h => h.ext hx
  | .grd c a, v, h => h.ext hx
  | .any, v, h => h.ext hx
theorem rep_frzL {id sz off : Nat} {xs : List D} (hx : Ext ρ w ρ' w) (hs : ∀ ow v, RepA ρ w (.rs id sz off xs.length ow) v → RepA ρ' w (.d (.sl sz xs)) v) : ∀ (l : List A) (vs : List Value), RepL ρ w l vs → RepL ρ' w (frzL id sz off xs l) vs
  | [], vs, h => ⟨h.1, fun i x v hi => by simp [frzL] at hi⟩
  | a :: l, [], h => by have := h.1; simp at this
  | a :: l, v :: vs, h => by
    have ht := rep_frzL hx hs l vs ⟨by simpa using h.1, fun i x u h1 h2 => h.2 (i + 1) x u (by simpa using h1) (by simpa using h2)⟩
    refine ⟨by simp [frzL, ht.1], fun i x u h1 h2 => ?_⟩
    match i with
    | 0 => simp [frzL] at h1 h2; subst h1 h2; exact rep_frz hx hs a v (h.2 0 a v rfl rfl)
    | i + 1 => exact ht.2 i x u (by simpa [frzL] using h1) (by simpa using h2)
end

/-- What is in an object's cells is the data xs, from off on. -/
def Lies (cs : List A) (sz off : Nat) (xs : List D) : Prop :=
  (∀ (i : Nat) (x : D), xs[i]? = some x → x.cells.length = sz) ∧
  ∀ (i : Nat) (x : D) (j : Nat) (y : D), xs[i]? = some x → x.cells[j]? = some y → cs[off + i * sz + j]? = some (.d y) ∧ y.one = true

theorem Weak.freeze {n0 : Nat} {fr : Fr} {σ : St} (id sz off : Nat) (xs : List D) {cs : List A} (hσ : σ[id]? = some (some (.cells cs))) (hl : Lies cs sz off xs) :
    Weak G n0 fr σ (frzL id sz off xs fr) (σ.set id none) := fun ρ0 w0 ρ w vs h0 hx hI hr => by
  obtain ⟨hk, hI'⟩ := hI.kill id
  refine ⟨ρ.set id .dead, hx.trans hk, hI', rep_frzL hk (fun ow v hv => ?_) fr vs hr⟩
  rcases rs_at hI (live_of hσ) hv with ⟨b, cap, us, e, z, h1, rfl, h3, h4, h5, -⟩ | ⟨h1, h2, h3, rfl⟩
  · cases xs with
    | nil => exact .d (.sl0 sz _ cap)
    | cons x0 xt =>
      rcases hI.obj id _ hσ with ⟨b', g1, us', e', g2, g3, g4⟩ | ⟨g1, g2⟩
      · rw [h1] at g1; injection g1 with g1; injection g1 with g1; subst g1
        rw [h3] at g2; injection g2 with g2; injection g2 with g2 g2' g2''; subst g2
        have hnm : ¬ M (ρ.set id .dead) b := fun ⟨i, hi⟩ => by
          rw [List.getElem?_set] at hi
          split at hi
          · split at hi
            · injection hi with hi; cases hi
            · cases hi
          · rename_i hne; exact hne (hI.inj id i b h1 hi)
        refine .d (.sl sz _ b off cap (fun i j => us.toList.getD (off + i * sz + j) undef) hnm (hI.lt id b h1) h4 hl.1 (fun i x j y a1 a2 => (hl.2 i x j y a1 a2).2) (fun i x j y a1 a2 => ?_) (fun i x j y a1 a2 => ?_))
        · obtain ⟨u, b1, b2, b3⟩ := g4 _ _ (hl.2 i x j y a1 a2).1
          rw [cell_of_heap h3, b1]
          simp [List.getD, b1]
        · obtain ⟨u, b1, b2, b3⟩ := g4 _ _ (hl.2 i x j y a1 a2).1
          cases b3 with
          | d b3 =>
            have := b3.ext hk
            simp only [List.getD, Array.getElem?_toList, b1, Option.getD_some]
            exact this
      · rw [h1] at g1; cases g1
  · cases xs with
    | nil => exact .d (.sl0 sz none 0)
    | cons => simp at h3

theorem newId_M {n0 : Nat} {p : List Nat} (hn : n0 ≤ ρ.length) {id k : Nat} (h : newId n0 p id = some k) : (ρ.take n0 ++ p.map fun j => ρ.getD (n0 + j) .dead)[k]? = some (ρ.getD id .dead) := by
  unfold newId at h
  split at h
  · rename_i hlt
    cases h
    rw [List.getElem?_append_left (by simp; omega), List.getElem?_take_of_lt hlt]
    exact getD_some (by omega)
  · rename_i hge
    cases hi : idx p (id - n0) with
    | none => simp [hi] at h
    | some q =>
      simp [hi] at h
      subst h
      rw [List.getElem?_append_right (by simp; omega)]
      simp only [List.length_take, Nat.min_eq_left hn, Nat.add_sub_cancel_left, List.getElem?_map, idx_get hi, Option.map_some]
      rw [show n0 + (id - n0) = id by omega]

mutual
theorem RepA.ren {n0 : Nat} {p : List Nat} (hk : ∀ id k r, newId n0 p id = some k → ρ[id]? = some r → ρ'[k]? = some r) (hm : ∀ b, M ρ' b → M ρ b) : ∀ (a : A) (v : Value), RepA ρ w a v → RepA ρ' w (a.ren n0 p) v
  | .ref id off, v, h => by
    unfold A.ren
    split
    · rename_i k e
      cases h with
      | ref _ h => exact .ref off (hk _ _ _ e h)
      | refDead _ _ h => exact .refDead off _ (hk _ _ _ e h)
    · exact .any _
  | .rs id sz off l ow, v, h => by
    unfold A.ren
    split
    · rename_i k e
      cases h with
      | rs h h1 h2 h3 h4 => exact .rs (hk _ _ _ e h) h1 h2 h3 h4
      | rsEmpty _ _ h => exact .rsEmpty _ _ (hk _ _ _ e h)
      | rsDead _ _ _ _ _ h => exact .rsDead _ _ _ _ _ (hk _ _ _ e h)
    · exact .any _
  | .mapr id, v, h => by
    unfold A.ren
    split
    · rename_i k e
      cases h with
      | mapr h => exact .mapr (hk _ _ _ e h)
      | mapDead _ h => exact .mapDead _ (hk _ _ _ e h)
    · exact .any _
  | .agg cs, v, h => by
    unfold A.ren
    cases h with
    | agg _ vs len one rep => have := RepL.ren hk hm cs vs ⟨len, rep⟩; exact .agg _ vs this.1 one this.2
  | .tup cs, v, h => by
    unfold A.ren
    cases h with
    | tup _ vs len rep => have := RepL.ren hk hm cs vs ⟨len, rep⟩; exact .tup _ vs this.1 this.2
  | .fn f cs ds, v, h => by
    unfold A.ren
    cases h with
    | fn _ _ _ vs us len len' rep rep' =>
      have h1 := RepL.ren hk hm cs vs ⟨len, rep⟩
      have h2 := RepL.ren hk hm ds us ⟨len', rep'⟩
      exact .fn f _ _ vs us h1.1 h2.1 h1.2 h2.2
  | .ifc t a, v, h => by
    unfold A.ren
    cases h with
    | ifc _ h => exact .ifc t (RepA.ren hk hm a _ h)
  | .d x, v, h => by
    have := h.cut (n := 0) (ρ' := ρ') (fun i hi => by omega) hm rfl
    exact this
  | .ea x o, v, h => by
    have := h.cut (n := 0) (ρ' := ρ') (fun i hi => by omega) hm rfl
    exact this
  | .grd c a, v, h => .any _
  | .any, v, h => .any _
theorem RepL.ren {n0 : Nat} {p : List Nat} (hk : ∀ id k r, newId n0 p id = some k → ρ[id]? = some r → ρ'[k]? = some r) (hm : ∀ b, M ρ' b → M ρ b) : ∀ (l : List A) (vs : List Value), RepL ρ w l vs → RepL ρ' w (renL n0 p l) vs
  | [], vs, h => ⟨h.1, fun i x v hi => by simp [renL] at hi⟩
  | a :: l, [], h => by have := h.1; simp at this
  | a :: l, v :: vs, h => by
    have ht := RepL.ren hk hm l vs ⟨by simpa using h.1, fun i x u h1 h2 => h.2 (i + 1) x u (by simpa using h1) (by simpa using h2)⟩
    refine ⟨by simp [renL, ht.1], fun i x u h1 h2 => ?_⟩
    match i with
    | 0 => simp [renL] at h1 h2; subst h1 h2; exact RepA.ren hk hm a v (h.2 0 a v rfl rfl)
    | i + 1 => exact ht.2 i x u (by simpa [renL] using h1) (by simpa using h2)
end
mutual
theorem A.ren_bd {n0 m : Nat} {p : List Nat} (hp : n0 + p.length ≤ m) : ∀ (a : A), (a.ren n0 p).bd m = true
  | .ref id off => by
    unfold A.ren; split
    · rename_i k e; simp only [A.bd, decide_eq_true_eq]; exact Nat.lt_of_lt_of_le (newId_lt e) hp
    · rfl
  | .rs id sz off l w => by
    unfold A.ren; split
    · rename_i k e; simp only [A.bd, decide_eq_true_eq]; exact Nat.lt_of_lt_of_le (newId_lt e) hp
    · rfl
  | .mapr id => by
    unfold A.ren; split
    · rename_i k e; simp only [A.bd, decide_eq_true_eq]; exact Nat.lt_of_lt_of_le (newId_lt e) hp
    · rfl
  | .agg cs => by unfold A.ren; simp only [A.bd]; exact renL_bd hp cs
  | .tup cs => by unfold A.ren; simp only [A.bd]; exact renL_bd hp cs
  | .fn f cs ds => by unfold A.ren; simp only [A.bd, renL_bd hp cs, renL_bd hp ds, Bool.and_self]
  | .ifc t a => by unfold A.ren; simp only [A.bd]; exact A.ren_bd hp a
  | .d x => rfl
  | .ea x o => rfl
  | .grd _ _ => rfl
  | .any => rfl
theorem renL_bd {n0 m : Nat} {p : List Nat} (hp : n0 + p.length ≤ m) : ∀ (l : List A), bdL m (renL n0 p l) = true
  | [] => rfl
  | a :: l => by simp only [renL, bdL, A.ren_bd hp a, renL_bd hp l, Bool.and_self]
theorem newId_lt {n0 : Nat} {p : List Nat} {id k : Nat} (h : newId n0 p id = some k) : k < n0 + p.length := by
  unfold newId at h
  split at h
  · cases h; omega
  · cases hi : idx p (id - n0) with
    | none => simp [hi] at h
    | some q =>
      simp [hi] at h
      subst h
      have := (List.getElem?_eq_some_iff.1 (idx_get hi)).1
      omega
end

theorem getD_opt {α : Type} {l : List α} {i : Nat} {d x : α} (h : l[i]? = some x) : l.getD i d = x := by simp [List.getD, h]
theorem Bd.keep {n0 : Nat} {σ l : St} {p : List Nat} (hn : n0 = σ.length) (hbd : Bd σ.length σ) : Bd (σ ++ keepL n0 p l).length (σ ++ keepL n0 p l) := by
  refine Bd.append (hbd.mono (by simp)) fun o ho => ?_
  simp only [keepL, List.mem_map, pickOb] at ho
  obtain ⟨j, _, hj⟩ := ho
  cases hg : l.getD j none with
  | none => rw [hg] at hj; cases hj
  | some o' =>
    rw [hg] at hj
    cases hj
    have hp : n0 + p.length ≤ (σ ++ keepL n0 p l).length := by simp [keepL, hn]
    cases o' with
    | cells cs => exact renL_bd hp cs
    | map es =>
      simp only [Ob.ren, Ob.bd, List.all_map, List.all_eq_true]
      exact fun e _ => A.ren_bd hp _
    | lp l r fr => exact renL_bd hp fr
/-- THE OBJECTS OF ONE's OWN ARE LAID ANEW: p says which stay, and in which order. -/
theorem Weak.keep {n0 : Nat} {fr : Fr} {σ l : St} (p : List Nat) (hp : p.Nodup) (hn : n0 ≤ σ.length) (hbd : Bd σ.length σ) : Weak G n0 fr (σ ++ l) (renL σ.length p fr) (σ ++ keepL σ.length p l) := fun ρ0 w0 ρ w vs h0 hx hI hr => by
  have hlen : ρ.length = σ.length + l.length := by have := hI.len; simpa using this
  have hn1 : σ.length ≤ ρ.length := by omega
  let ρ' : Ren := ρ.take σ.length ++ p.map fun j => ρ.getD (σ.length + j) .dead
  have hk : ∀ id k r, newId σ.length p id = some k → ρ[id]? = some r → ρ'[k]? = some r := fun id k r h1 h2 => by
    have := newId_M (ρ := ρ) hn1 h1
    rw [this, getD_opt h2]
  have hold : ∀ i, i < σ.length → ρ'[i]? = ρ[i]? := fun i hi => by
    show (ρ.take σ.length ++ _)[i]? = _
    rw [List.getElem?_append_left (by simp; omega), List.getElem?_take_of_lt hi]
  have hnew : ∀ k, σ.length ≤ k → ∀ r, ρ'[k]? = some r → ∃ j, p[k - σ.length]? = some j ∧ r = ρ.getD (σ.length + j) .dead := fun k hk r h => by
    change (ρ.take σ.length ++ _)[k]? = _ at h
    rw [List.getElem?_append_right (by simp; omega)] at h
    simp only [List.length_take, Nat.min_eq_left hn1, List.getElem?_map, Option.map_eq_some_iff] at h
    obtain ⟨j, h1, h2⟩ := h
    exact ⟨j, h1, h2.symm⟩
  have hsrc : ∀ k b, ρ'[k]? = some (.live b) → ∃ i, ρ[i]? = some (.live b) ∧ (k < σ.length ∧ i = k ∨ σ.length ≤ k ∧ σ.length ≤ i ∧ p[k - σ.length]? = some (i - σ.length)) := fun k b h => by
    by_cases hlt : k < σ.length
    · exact ⟨k, by rw [← hold k hlt]; exact h, .inl ⟨hlt, rfl⟩⟩
    · obtain ⟨j, h1, h2⟩ := hnew k (by omega) _ h
      refine ⟨σ.length + j, ?_, .inr ⟨by omega, by omega, by rw [h1]; congr 1; omega⟩⟩
      cases hg : ρ[σ.length + j]? with
      | none => simp [List.getD, hg] at h2
      | some r => rw [getD_opt hg] at h2; rw [h2]
  have hM : ∀ b, M ρ' b → M ρ b := fun b ⟨k, h⟩ => let ⟨i, h1, _⟩ := hsrc k b h; ⟨i, h1⟩
  have hreD : ∀ {y : D} {u : Value}, RepD w (M ρ) y u → RepD w (M ρ') y u := fun {y u} h => by
    have := (RepA.d h : RepA ρ w (.d y) u).ren (n0 := σ.length) (p := p) hk hM
    cases this with | d h => exact h
  refine ⟨ρ', ⟨hx.os, hx.tape, hx.output, hx.size, by show _ ≤ (ρ.take σ.length ++ _).length; simp; omega, fun id r h => ?_, fun b h hlt => hx.fresh b (hM b h) hlt, hx.block, hx.shape⟩, ⟨by show (ρ.take σ.length ++ _).length = _; simp [keepL]; omega, fun i j b h1 h2 => ?_, fun i b h => ?_, fun id o h => ?_, fun g x h => ?_, Bd.keep rfl hbd, fun b hb => hI.own b (hM b hb)⟩, RepL.ren hk hM fr vs hr⟩
  · have hid : id < ρ0.length := (List.getElem?_eq_some_iff.1 h).1
    rw [hold id (by omega)]
    exact hx.ids id r h
  · obtain ⟨i', a1, a2⟩ := hsrc i b h1
    obtain ⟨j', b1, b2⟩ := hsrc j b h2
    have e := hI.inj _ _ _ a1 b1
    subst e
    rcases a2 with ⟨a2, a3⟩ | ⟨a2, a3, a4⟩ <;> rcases b2 with ⟨b2, b3⟩ | ⟨b2, b3, b4⟩
    · omega
    · omega
    · omega
    · have := (List.getElem?_inj (l := p) (i := i - σ.length) (j := j - σ.length) (List.getElem?_eq_some_iff.1 a4).1 hp).1 (a4.trans b4.symm)
      omega
  · obtain ⟨i', a1, _⟩ := hsrc i b h
    exact hI.lt i' b a1
  · by_cases hlt : id < σ.length
    · rw [List.getElem?_append_left hlt] at h
      have hob := hbd id o h
      rcases hI.obj id o (by rw [List.getElem?_append_left hlt]; exact h) with ⟨b, h1, h2⟩ | ⟨h1, h2⟩
      · refine .inl ⟨b, by rw [hold id hlt]; exact h1, ?_⟩
        cases o with
        | cells cs =>
          obtain ⟨us, e, a1, a2, a3⟩ := h2
          exact ⟨us, e, a1, a2, fun i x hx' => let ⟨v, b1, b2, b3⟩ := a3 i x hx'; ⟨v, b1, b2, b3.cut hold hM (bdL_spec hob i x hx')⟩⟩
        | map es =>
          obtain ⟨ms, c, a1, a2, a3⟩ := h2
          refine ⟨ms, c, a1, a2, fun i x m hx' hm => ⟨hreD (a3 i x m hx' hm).1, (a3 i x m hx' hm).2.cut hold hM ?_⟩⟩
          simp only [Ob.bd, List.all_eq_true] at hob
          exact hob x (List.mem_of_getElem? hx')
        | lp l r fr =>
          obtain ⟨a0, a1, a2⟩ := h2
          exact ⟨a0, a1, ⟨a2.1, fun i x v h1 h2 => (a2.2 i x v h1 h2).cut hold hM (bdL_spec hob i x h1)⟩⟩
      · exact .inr ⟨by rw [hold id hlt]; exact h1, h2⟩
    · rw [List.getElem?_append_right (by omega)] at h
      simp only [keepL, List.getElem?_map, Option.map_eq_some_iff, pickOb] at h
      obtain ⟨j, g1, o', g2, rfl⟩ := h
      have g2' : l[j]? = some (some o') := by
        cases hl : l[j]? with
        | none => simp [List.getD, hl] at g2
        | some r => rw [getD_opt hl] at g2; rw [g2]
      have hnewj : ∀ r, ρ[σ.length + j]? = some r → ρ'[id]? = some r := fun r hr => by
        show (ρ.take σ.length ++ _)[id]? = _
        rw [List.getElem?_append_right (by simp; omega)]
        simp only [List.length_take, Nat.min_eq_left hn1, List.getElem?_map, g1, Option.map_some, getD_opt hr]
      rcases hI.obj (σ.length + j) o' (by rw [List.getElem?_append_right (by omega), Nat.add_sub_cancel_left]; exact g2') with ⟨b, h1, h2⟩ | ⟨h1, h2⟩
      · refine .inl ⟨b, hnewj _ h1, ?_⟩
        cases o' with
        | cells cs =>
          obtain ⟨us, e, a1, a2, a3⟩ := h2
          refine ⟨us, e, a1, by rw [renL_eq, List.length_map]; exact a2, fun i x hx' => ?_⟩
          rw [renL_eq, List.getElem?_map, Option.map_eq_some_iff] at hx'
          obtain ⟨y, c1, rfl⟩ := hx'
          obtain ⟨v, b1, b2, b3⟩ := a3 i y c1
          exact ⟨v, b1, b2, b3.ren hk hM⟩
        | map es =>
          obtain ⟨ms, c, a1, a2, a3⟩ := h2
          refine ⟨ms, c, a1, by simpa using a2, fun i x m hx' hm => ?_⟩
          rw [List.getElem?_map, Option.map_eq_some_iff] at hx'
          obtain ⟨y, c1, rfl⟩ := hx'
          exact ⟨hreD (a3 i y m c1 hm).1, (a3 i y m c1 hm).2.ren hk hM⟩
        | lp l' r fr =>
          obtain ⟨a0, a1, a2⟩ := h2
          exact ⟨a0, a1, RepL.ren hk hM fr _ a2⟩
      · subst h2
        exact .inr ⟨hnewj _ h1, rfl⟩
  · have := (hI.glob g x h).ren (n0 := σ.length) (p := p) hk hM
    exact this

theorem Wk.keep {n0 : Nat} {fr : Fr} {σ l : St} {I : Fr → St → Prop} (live p : List Nat) (hp : p.Nodup) (hn : n0 ≤ σ.length) (hbd : Bd σ.length σ) (h : I (renL σ.length p (maskN live 0 fr)) (σ ++ keepL σ.length p l)) : Wk G n0 I fr (σ ++ l) :=
  ⟨_, _, (Weak.mask live).trans (Weak.keep p hp hn hbd), h⟩
attribute [go_sem] A.frz frzL
theorem ret_bd {σ junk : St} {x : A} {R : A → St → Prop} (hbd : Bd σ.length σ) (hx : x.bd σ.length = true) (h : R x σ) : ∃ r σ', Weak G σ.length [x] (σ ++ junk) [r] σ' ∧ R r σ' :=
  ⟨_, σ, Weak.cut (Nat.le_refl _) hbd (by simp only [bdL, hx, Bool.and_self]), h⟩
/-- An end: some objects become data, the rest are let go. -/
theorem ret_keep {σ l : St} {a : A} {R : A → St → Prop} (p : List Nat) (hp : p.Nodup) (hbd : Bd σ.length σ) (h : R (a.ren σ.length p) (σ ++ keepL σ.length p l)) : ∃ r σ', Weak G σ.length [a] (σ ++ l) [r] σ' ∧ R r σ' :=
  ⟨_, _, Weak.keep p hp (Nat.le_refl _) hbd, h⟩
theorem ret_frz {σ l : St} {a : A} {R : A → St → Prop} (j sz off : Nat) (xs : List D) {cs : List A} (hσ : l[j]? = some (some (.cells cs))) (hl : Lies cs sz off xs)
    (h : ∃ r σ', Weak G σ.length [a.frz (σ.length + j) sz off xs] (σ ++ l.set j none) [r] σ' ∧ R r σ') : ∃ r σ', Weak G σ.length [a] (σ ++ l) [r] σ' ∧ R r σ' := by
  obtain ⟨r, σ', h1, h2⟩ := h
  have hk : (σ ++ l)[σ.length + j]? = some (some (.cells cs)) := by rw [List.getElem?_append_right (by omega), Nat.add_sub_cancel_left]; exact hσ
  have := Weak.freeze (G := G) (n0 := σ.length) (fr := [a]) (σ.length + j) sz off xs hk hl
  rw [set_app] at this
  exact ⟨r, σ', this.trans h1, h2⟩
theorem Wk.frz {n0 : Nat} {fr : Fr} {σ l : St} {I : Fr → St → Prop} (j sz off : Nat) (xs : List D) {cs : List A} (hσ : l[j]? = some (some (.cells cs))) (hl : Lies cs sz off xs) (h : Wk G n0 I (frzL (σ.length + j) sz off xs fr) (σ ++ l.set j none)) : Wk G n0 I fr (σ ++ l) := by
  obtain ⟨r, σ', h1, h2⟩ := h
  have hk : (σ ++ l)[σ.length + j]? = some (some (.cells cs)) := by rw [List.getElem?_append_right (by omega), Nat.add_sub_cancel_left]; exact hσ
  have := Weak.freeze (G := G) (n0 := n0) (fr := fr) (σ.length + j) sz off xs hk hl
  rw [set_app] at this
  exact ⟨r, σ', this.trans h1, h2⟩
end
theorem ev_global {G : Glob} {g : Nat} {x : D} {fr : Fr} (h : G.g g = some x) : ev G fr (.global g) = .ea x 0 := by simp only [ev, h]
section
variable {P : Program} {σ : St}
@[go_sem, go_sem ↓] theorem rdBuild_eq (t : TypeId) (ps : List (Nat × A)) (k : Prop → A → Prop) : rdBuild P σ t ps k = optK (zeroA P t) fun zs => optK (placeOf P t) fun pl => optK (fillA pl zs ps) fun cs =>
    k (zs.all (oneA []) = true ∧ ps.all (fun p => okA σ p.2) = true) (mkAgg cs) := by
  simp only [rdBuild]
  rcases zeroA P t with _ | zs
  · rfl
  · rcases placeOf P t with _ | pl
    · rfl
    · simp only [optK]
      rcases fillA pl zs ps with _ | cs <;> rfl
@[go_sem] theorem fillA_nil (pl : Nat → Option (Nat × Nat)) (cs : List A) : fillA pl cs [] = some cs := rfl
@[go_sem] theorem fillA_cons (pl : Nat → Option (Nat × Nat)) (cs : List A) (i : Nat) (a : A) (r : List (Nat × A)) : fillA pl cs ((i, a) :: r) = (pl i).bind fun q => if a.cells.length = q.2 ∧ q.1 + q.2 ≤ cs.length then fillA pl (cs.take q.1 ++ a.cells ++ cs.drop (q.1 + q.2)) r else none := by
  simp only [fillA]
  rcases pl i with _ | ⟨_, _⟩ <;> rfl
attribute [go_sem] Option.bind_some Option.bind_none List.getElem?_toArray List.getElem?_cons_zero List.getElem?_cons_succ List.getElem?_nil Nat.le_add_left Nat.add_le_add_iff_right Nat.zero_le List.flatMap_cons List.flatMap_nil inOrder
end
-- evaluation
attribute [go_sem] Array.toList_append Option.toArray_some Option.toArray_none List.append_nil Bool.and_self List.take_length true_imp_iff false_imp_iff Bool.true_eq_false Bool.false_eq_true Option.isSome_some
section
variable {n0 : Nat} {p : List Nat}
@[go_sem] theorem newId_zero : newId n0 p n0 = (idx p 0).map (n0 + ·) := by simp [newId]
@[go_sem] theorem newId_add (j : Nat) : newId n0 p (n0 + j) = (idx p j).map (n0 + ·) := by rw [newId, if_neg (by omega), Nat.add_sub_cancel_left]
theorem newId_old {id : Nat} (h : id < n0) : newId n0 p id = some id := by simp [newId, h]
def refTo (o : Option Nat) (k : Nat → A) : A := match o with | some i => k i | none => .any
@[go_sem] theorem refTo_some (i : Nat) (k : Nat → A) : refTo (some i) k = k i := rfl
@[go_sem] theorem refTo_none (k : Nat → A) : refTo none k = .any := rfl
@[go_sem] theorem ren_ref (id off : Nat) : A.ren n0 p (.ref id off) = refTo (newId n0 p id) (.ref · off) := by unfold A.ren refTo; rfl
@[go_sem] theorem ren_rs (id sz off l : Nat) (w : Option TypeId) : A.ren n0 p (.rs id sz off l w) = refTo (newId n0 p id) (.rs · sz off l w) := by unfold A.ren refTo; rfl
@[go_sem] theorem ren_fn (f : Fn) (cs ds : List A) : A.ren n0 p (.fn f cs ds) = .fn f (renL n0 p cs) (renL n0 p ds) := by rw [A.ren]
@[go_sem] theorem ren_d (x : D) : A.ren n0 p (.d x) = .d x := rfl
@[go_sem] theorem ren_ea (x : D) (o : Nat) : A.ren n0 p (.ea x o) = .ea x o := rfl
@[go_sem] theorem ren_any : A.ren n0 p .any = .any := rfl
@[go_sem] theorem ren_grd (c : Bool) (a : A) : A.ren n0 p (.grd c a) = .any := rfl
@[go_sem] theorem renL_nil : renL n0 p [] = [] := rfl
@[go_sem] theorem renL_cons (a : A) (r : List A) : renL n0 p (a :: r) = a.ren n0 p :: renL n0 p r := rfl
@[go_sem] theorem keepL_nil (l : St) : keepL n0 [] l = [] := rfl
@[go_sem] theorem keepL_cons (l : St) (j : Nat) (r : List Nat) : keepL n0 (j :: r) l = pickOb n0 (j :: r) l j :: r.map (pickOb n0 (j :: r) l) := rfl
@[go_sem] theorem pickOb_eq (l : St) (j : Nat) : pickOb n0 p l j = (l.getD j none).map (Ob.ren n0 p) := rfl
@[go_sem] theorem obren_cells (cs : List A) : Ob.ren n0 p (.cells cs) = .cells (renL n0 p cs) := rfl
@[go_sem] theorem getD_st_zero (x : Option Ob) (l : St) : List.getD (x :: l) 0 none = x := rfl
@[go_sem] theorem getD_st_succ (x : Option Ob) (l : St) (n : Nat) : List.getD (x :: l) (n + 1) none = List.getD l n none := rfl
@[go_sem] theorem idx_nil (j : Nat) : idx [] j = none := rfl
@[go_sem] theorem idx_cons (a j : Nat) (r : List Nat) : idx (a :: r) j = if a = j then some 0 else (idx r j).map (· + 1) := rfl
@[go_sem] theorem renL_append (l m : List A) : renL n0 p (l ++ m) = renL n0 p l ++ renL n0 p m := by simp [renL_eq]
theorem lies_flat {sz : Nat} {xs : List D} (h : ∀ x ∈ xs, x.cells.length = sz ∧ ∀ y ∈ x.cells, y.one = true) : Lies (xs.flatMap fun x => x.cells.map .d) sz 0 xs := by
  refine ⟨fun i x hx => (h x (List.mem_of_getElem? hx)).1, fun i x j y hx hy => ⟨?_, (h x (List.mem_of_getElem? hx)).2 y (List.mem_of_getElem? hy)⟩⟩
  have key : ∀ (xs : List D), (∀ x ∈ xs, x.cells.length = sz) → ∀ (i : Nat), xs[i]? = some x → (xs.flatMap fun x => x.cells.map A.d)[i * sz + j]? = some (.d y) := by
    intro xs
    induction xs with
    | nil => intro _ i hi; simp at hi
    | cons x0 xt ih =>
      intro hs i hi
      match i with
      | 0 =>
        simp at hi; subst hi
        have hj := (List.getElem?_eq_some_iff.1 hy).1
        rw [List.flatMap_cons, List.getElem?_append_left (by simp; omega)]
        simp [hy]
      | i + 1 =>
        rw [List.flatMap_cons, List.getElem?_append_right (by have := hs x0 (by simp); simp [this, Nat.succ_mul]; omega)]
        have := ih (fun x hx => hs x (by simp [hx])) i (by simpa using hi)
        rw [← this]
        congr 1
        have := hs x0 (by simp)
        simp only [List.length_map, this, Nat.succ_mul]
        omega
  have := key xs (fun x hx => (h x hx).1) i hx
  simpa using this
theorem lies_of {sz : Nat} {xs : List D} (h : ∀ x ∈ xs, x.cells.length = sz ∧ ∀ y ∈ x.cells, y.one = true) : Lies (flat xs) sz 0 xs := lies_flat h
end
section
variable {G : Glob} {σ : St}
/-- A nil slice becomes an object of one's own, empty. -/
theorem Weak.empty {n0 : Nat} {fr : Fr} {σ : St} (i sz : Nat) (ow : Option TypeId) (h : fr[i]? = some (.d .nils)) : Weak G n0 fr σ (fr.set i (.rs σ.length sz 0 0 ow)) (σ ++ [some (.cells [])]) := fun ρ0 w0 ρ w vs h0 hx hI hr => by
  obtain ⟨h1, h2⟩ := hI.pushEmpty
  refine ⟨ρ ++ [.empty], hx.trans h1, h2, by simp [hr.1], fun k x v hk hv => ?_⟩
  rw [List.getElem?_set] at hk
  split at hk
  · rename_i e
    subst e
    split at hk
    · injection hk with hk; subst hk
      have := hr.2 i _ v h hv
      cases this with
      | d this =>
        cases this
        exact .rsEmpty sz ow (by rw [← hI.len]; exact getElem?_snoc_eq)
    · cases hk
  · exact (hr.2 k x v hk hv).ext h1
end
@[go_sem] theorem renL_mapd {α : Type} (n0 : Nat) (p : List Nat) (f : α → D) : ∀ (l : List α), renL n0 p (l.map fun x => A.d (f x)) = l.map fun x => A.d (f x)
  | [] => rfl
  | x :: l => by simp only [List.map_cons, renL, A.ren, renL_mapd n0 p f l]
/-- A call from a frame of which less is known. -/
theorem ac_weak {P : Program} {G : Glob} {f : FuncId} {args args' : List A} {σ σ' : St} {R : A → St → Prop} (hw : Weak G σ.length args σ args' σ') (h : AC P G f args' σ' R) : AC P G f args σ R := by
  refine ⟨h.1, fun ρ w vs hI hL => ?_⟩
  obtain ⟨ρ1, h1, h2, h3⟩ := hw ρ w ρ w vs hI.len (Ext.refl ρ w) hI hL
  exact (h.2 ρ1 w vs h2 h3).mono fun _ _ k => k.pre h1
/-- A call, a slice of one's own read as data. -/
theorem ac_frz {P : Program} {G : Glob} {f : FuncId} {args : List A} {σ l : St} {R : A → St → Prop} (j sz off : Nat) (xs : List D) {cs : List A} (hσ : l[j]? = some (some (.cells cs))) (hl : Lies cs sz off xs)
    (h : AC P G f (frzL (σ.length + j) sz off xs args) (σ ++ l.set j none) R) : AC P G f args (σ ++ l) R := by
  have hk : (σ ++ l)[σ.length + j]? = some (some (.cells cs)) := by rw [List.getElem?_append_right (by omega), Nat.add_sub_cancel_left]; exact hσ
  have := Weak.freeze (G := G) (n0 := (σ ++ l).length) (fr := args) (σ.length + j) sz off xs hk hl
  rw [set_app] at this
  exact ac_weak this h
end Go.Ab
