/- Slices of slices of one's own are read as data, all at once. -/
import Derived.Test.YtmjlhbkgljcnoaaGreatDoorAbPure
set_option linter.unusedSimpArgs false
namespace Go.Ab
open Go Go.RowKit

/-- The cells of an object of one's own that is to become data. -/
def ownC (n0 : Nat) (J : List Nat) (l : St) (id : Nat) : Option (List A) :=
  if id < n0 then none else if J.contains (id - n0) then (match l.getD (id - n0) none with | some (.cells cs) => some cs | _ => none) else none
def chunk (sz : Nat) : Nat → List D → List D
  | 0, _ => []
  | n + 1, ds => .agg (ds.take sz) :: chunk sz n (ds.drop sz)
def grp (sz len : Nat) (ds : List D) : List D := if sz = 1 then ds else chunk sz len ds
def dpL (g : A → Option D) : List A → Option (List D)
  | [] => some []
  | a :: r => (g a).bind fun x => (dpL g r).bind fun xs => some (x :: xs)
def oneAll (ds : List D) (k : D) : Option D := if ds.all D.one = true then some k else none
/-- What is read of an abstract value, as deep as it goes. -/
def dpD (n0 : Nat) (J : List Nat) (l : St) : Nat → A → Option D
  | 0, _ => none
  | _ + 1, .d x => some x
  | f + 1, .rs id sz off len _ => (ownC n0 J l id).bind fun cs => (dpL (dpD n0 J l f) ((cs.drop off).take (len * sz))).bind fun ds => if ds.length = len * sz then oneAll ds (.sl sz (grp sz len ds)) else none
  | f + 1, .agg cs => (dpL (dpD n0 J l f) cs).bind fun ds => oneAll ds (.agg ds)
  | _ + 1, _ => none
def dpA (n0 : Nat) (J : List Nat) (l : St) (f : Nat) (a : A) : A := (dpD n0 J l f a).elim a .d
def dpOb (g : A → A) : Ob → Ob
  | .cells cs => .cells (cs.map g)
  | .map es => .map es
  | .lp l r fr => .lp l r fr
def dpSt (J : List Nat) (g : A → A) : Nat → St → St
  | _, [] => []
  | k, o :: r => (if J.contains k then none else o.map (dpOb g)) :: dpSt J g (k + 1) r

section
variable {ρ ρ' : Ren} {w w' : World} {σ : St} {G : Glob} {n0 : Nat} {J : List Nat} {l : St}

theorem dpL_spec {g : A → Option D} : ∀ {cs : List A} {ds : List D}, dpL g cs = some ds → ds.length = cs.length ∧ ∀ (k : Nat) (c : A) (y : D), cs[k]? = some c → ds[k]? = some y → g c = some y
  | [], ds, h => by
    simp only [dpL, Option.some.injEq] at h; subst h
    exact ⟨rfl, fun k c y h => by simp at h⟩
  | a :: r, ds, h => by
    simp only [dpL, Option.bind_eq_some_iff, Option.some.injEq] at h
    obtain ⟨x, hx, xs, hxs, rfl⟩ := h
    obtain ⟨h1, h2⟩ := dpL_spec hxs
    refine ⟨by simp [h1], fun k c y hc hy => ?_⟩
    match k with
    | 0 => simp at hc hy; subst hc; subst hy; exact hx
    | k + 1 => exact h2 k c y (by simpa using hc) (by simpa using hy)
theorem chunk_spec {sz : Nat} : ∀ {n : Nat} {ds : List D} {i : Nat} {x : D}, (chunk sz n ds)[i]? = some x → i < n ∧ x = .agg ((ds.drop (i * sz)).take sz)
  | 0, ds, i, x, h => by simp [chunk] at h
  | n + 1, ds, 0, x, h => by simp [chunk] at h; exact ⟨by omega, by simp [← h]⟩
  | n + 1, ds, i + 1, x, h => by
    simp only [chunk, List.getElem?_cons_succ] at h
    obtain ⟨h1, h2⟩ := chunk_spec h
    refine ⟨by omega, ?_⟩
    rw [h2, List.drop_drop, Nat.succ_mul]
    congr 3
    omega
theorem chunk_len {sz : Nat} : ∀ (n : Nat) (ds : List D), (chunk sz n ds).length = n
  | 0, _ => rfl
  | n + 1, ds => by simp [chunk, chunk_len n]
theorem one_cells {x : D} (h : x.one = true) : x.cells = [x] := by cases x <;> first | rfl | cases h
theorem grp_len {sz len : Nat} {ds : List D} (h : ds.length = len * sz) : (grp sz len ds).length = len := by
  unfold grp
  split
  · rename_i e; subst e; omega
  · exact chunk_len _ _
theorem grp_spec {sz len : Nat} {ds : List D} (hl : ds.length = len * sz) (ho : ds.all D.one = true) {i : Nat} {x : D} (h : (grp sz len ds)[i]? = some x) :
    x.cells.length = sz ∧ ∀ (j : Nat) (y : D), x.cells[j]? = some y → y.one = true ∧ ds[i * sz + j]? = some y := by
  have hone : ∀ (k : Nat) (y : D), ds[k]? = some y → y.one = true := fun k y hy => List.all_eq_true.1 ho y (List.mem_of_getElem? hy)
  unfold grp at h
  split at h
  · rename_i e; subst e
    have h1 := one_cells (hone i x h)
    rw [h1]
    refine ⟨rfl, fun j y hy => ?_⟩
    match j with
    | 0 => simp at hy; subst hy; exact ⟨hone i _ h, by simpa using h⟩
    | j + 1 => simp at hy
  · obtain ⟨h1, rfl⟩ := chunk_spec h
    have h2 : i * sz + sz ≤ ds.length := by
      rw [hl]
      have : (i + 1) * sz ≤ len * sz := Nat.mul_le_mul_right _ h1
      rw [Nat.succ_mul] at this; exact this
    refine ⟨by simp [D.cells]; omega, fun j y hy => ?_⟩
    simp only [D.cells, List.getElem?_take] at hy
    split at hy
    · rw [List.getElem?_drop] at hy
      exact ⟨hone _ y hy, hy⟩
    · cases hy
/-- The objects of J are let go. -/
def killR (n0 : Nat) (J : List Nat) (ρ : Ren) : Ren := (List.range ρ.length).map fun i => if n0 ≤ i ∧ J.contains (i - n0) = true then .dead else ρ.getD i .dead
theorem killR_get {i : Nat} : (killR n0 J ρ)[i]? = if n0 ≤ i ∧ J.contains (i - n0) = true ∧ i < ρ.length then some .dead else ρ[i]? := by
  unfold killR
  rw [List.getElem?_map]
  by_cases hi : i < ρ.length
  · rw [List.getElem?_range hi, Option.map_some]
    by_cases h : n0 ≤ i ∧ J.contains (i - n0) = true
    · rw [if_pos h, if_pos ⟨h.1, h.2, hi⟩]
    · rw [if_neg h, if_neg (fun k => h ⟨k.1, k.2.1⟩), List.getD, List.getElem?_eq_getElem hi]; rfl
  · rw [List.getElem?_eq_none (by simp; omega), if_neg (fun k => hi k.2.2), List.getElem?_eq_none (by omega)]; rfl
theorem killR_live {i b : Nat} (h : (killR n0 J ρ)[i]? = some (.live b)) : ρ[i]? = some (.live b) ∧ ¬ (n0 ≤ i ∧ J.contains (i - n0) = true) := by
  rw [killR_get] at h
  split at h
  · cases h
  · rename_i hn
    exact ⟨h, fun k => hn ⟨k.1, k.2, (List.getElem?_eq_some_iff.1 h).1⟩⟩
theorem killR_len : (killR n0 J ρ).length = ρ.length := by simp [killR]
theorem killR_ext : Ext ρ w (killR n0 J ρ) w := by
  refine ⟨rfl, rfl, rfl, Nat.le_refl _, by rw [killR_len]; exact Nat.le_refl _, fun i r h => ?_, fun b ⟨i, h⟩ _ => ⟨i, (killR_live h).1⟩, fun _ _ _ => rfl, fun _ vs _ _ h => ⟨vs, h, rfl⟩⟩
  rw [killR_get]
  split
  · exact .inr rfl
  · exact .inl h
theorem ownC_spec {id : Nat} {cs : List A} (h : ownC σ.length J l id = some cs) : (σ ++ l)[id]? = some (some (.cells cs)) ∧ σ.length ≤ id ∧ J.contains (id - σ.length) = true := by
  unfold ownC at h
  split at h
  · cases h
  · rename_i hn
    split at h
    · rename_i hj
      split at h
      · rename_i cs' hc
        injection h with h; subst h
        refine ⟨?_, by omega, hj⟩
        rw [List.getElem?_append_right (by omega)]
        cases hl : l[id - σ.length]? with
        | none => simp [List.getD, hl] at hc
        | some o => simp [List.getD, hl] at hc; rw [hc]
      · cases h
    · cases h
theorem dp_rep (hI : Inv G ρ (σ ++ l) w) : ∀ (f : Nat) (a : A) (x : D) (v : Value), dpD σ.length J l f a = some x → RepA ρ w a v → RepD w (M (killR σ.length J ρ)) x v
  | 0, _, _, _, h, _ => by simp [dpD] at h
  | f + 1, a, x, v, h, hv => by
    cases a with
    | d y =>
      simp only [dpD, Option.some.injEq] at h; subst h
      cases hv with
      | d hv => exact hv.ext killR_ext
    | agg cs =>
      simp only [dpD, Option.bind_eq_some_iff, oneAll] at h
      obtain ⟨ds, hd, h⟩ := h
      split at h
      · rename_i ho
        injection h with h; subst h
        obtain ⟨h1, h2⟩ := dpL_spec hd
        cases hv with
        | agg _ vs len one rep =>
          refine .agg ds vs (by omega) (fun i y hy => List.all_eq_true.1 ho y (List.mem_of_getElem? hy)) fun i y u hy hu => ?_
          have hi : i < cs.length := by rw [← h1]; exact (List.getElem?_eq_some_iff.1 hy).1
          exact dp_rep hI f _ y u (h2 i _ y (List.getElem?_eq_getElem hi) hy) (rep i _ u (List.getElem?_eq_getElem hi) hu)
      · cases h
    | rs id sz off len ow =>
      simp only [dpD, Option.bind_eq_some_iff, oneAll] at h
      obtain ⟨cs, hc, ds, hd, h⟩ := h
      split at h
      · rename_i hlen
        split at h
        · rename_i ho
          injection h with h; subst h
          obtain ⟨h1, h2⟩ := dpL_spec hd
          obtain ⟨k1, k2, k3⟩ := ownC_spec hc
          rcases rs_at hI (live_of k1) hv with ⟨b, cap, us, e, z, q1, rfl, q3, q4, q5, -⟩ | ⟨q1, q2, q3, rfl⟩
          · have hxl := grp_len (sz := sz) (len := len) hlen
            by_cases h0 : len = 0
            · subst h0
              have : grp sz 0 ds = [] := List.eq_nil_of_length_eq_zero hxl
              rw [this]; exact .sl0 sz _ cap
            have hob : ∃ us' e', w.heap[b]? = some (.cells us' e' (0, 0)) ∧ cs.length ≤ us'.size ∧ ∀ (i : Nat) (x : A), cs[i]? = some x → ∃ v, us'[i]? = some v ∧ v.oneCell' = true ∧ RepA ρ w x v := by
              rcases hI.obj id _ k1 with ⟨b', g1, us', e', g2, g3, g4⟩ | ⟨g1, g2⟩
              · rw [q1] at g1; injection g1 with g1; injection g1 with g1; subst g1
                exact ⟨us', e', g2, g3, g4⟩
              · rw [q1] at g1; cases g1
            obtain ⟨us', e', g2, g3, g4⟩ := hob
            rw [q3] at g2; injection g2 with g2; injection g2 with g2 g2' g2''; subst g2
            have hnm : ¬ M (killR σ.length J ρ) b := fun ⟨i, hi⟩ => by
              obtain ⟨a1, a2⟩ := killR_live hi
              have := hI.inj i id b a1 q1
              subst this
              exact a2 ⟨k2, k3⟩
            have hcell : ∀ (k : Nat) (y : D), ds[k]? = some y → ∃ u, us[off + k]? = some u ∧ RepD w (M (killR σ.length J ρ)) y u := fun k y hy => by
              have hk : k < ((cs.drop off).take (len * sz)).length := by rw [← h1]; exact (List.getElem?_eq_some_iff.1 hy).1
              have hg := List.getElem?_eq_getElem hk
              have hd' := h2 k _ y hg hy
              generalize ((cs.drop off).take (len * sz))[k] = c at hg hd'
              rw [List.getElem?_take] at hg
              split at hg
              · rw [List.getElem?_drop] at hg
                obtain ⟨u, b1, b2, b3⟩ := g4 _ _ hg
                exact ⟨u, b1, dp_rep hI f _ y u hd' b3⟩
              · cases hg
            have := RepD.sl (w := w) (m := M (killR σ.length J ρ)) sz (grp sz len ds) b off cap (fun i j => us.toList.getD (off + i * sz + j) undef) hnm (hI.lt id b q1) (by rw [hxl]; exact q4) (fun i x hx => (grp_spec hlen ho hx).1)
              (fun i x j y a1 a2 => ((grp_spec hlen ho a1).2 j y a2).1) (fun i x j y a1 a2 => ?_) (fun i x j y a1 a2 => ?_)
            · rw [hxl] at this; exact this
            · obtain ⟨u, b1, b2⟩ := hcell _ y ((grp_spec hlen ho a1).2 j y a2).2
              rw [cell_of_heap q3, Nat.add_assoc, b1]
              simp [List.getD, b1, Nat.add_assoc]
            · obtain ⟨u, b1, b2⟩ := hcell _ y ((grp_spec hlen ho a1).2 j y a2).2
              simp only [List.getD, Array.getElem?_toList, Nat.add_assoc, b1, Option.getD_some]
              exact b2
          · subst q3
            have : grp sz 0 ds = [] := List.eq_nil_of_length_eq_zero (grp_len hlen)
            rw [this]; exact .sl0 sz none 0
        · cases h
      · cases h
    | _ => simp [dpD] at h
theorem dpA_rep (hI : Inv G ρ (σ ++ l) w) (f : Nat) (a : A) (v : Value) (hv : RepA ρ w a v) : RepA (killR σ.length J ρ) w (dpA σ.length J l f a) v := by
  unfold dpA
  cases h : dpD σ.length J l f a with
  | none => exact hv.ext killR_ext
  | some x => exact .d (dp_rep hI f a x v h hv)
theorem dpA_bd (f : Nat) {n : Nat} {a : A} (h : a.bd n = true) : (dpA n0 J l f a).bd n = true := by
  unfold dpA
  cases dpD n0 J l f a with
  | none => exact h
  | some x => rfl
theorem dpSt_get {g : A → A} : ∀ {l : St} {k j : Nat}, (dpSt J g k l)[j]? = (l[j]?).map fun o => if J.contains (k + j) then none else o.map (dpOb g)
  | [], k, j => by simp [dpSt]
  | o :: r, k, 0 => by simp [dpSt]
  | o :: r, k, j + 1 => by
    simp only [dpSt, List.getElem?_cons_succ, dpSt_get (l := r)]
    rw [show k + 1 + j = k + (j + 1) by omega]
theorem dpSt_len {g : A → A} : ∀ {l : St} {k : Nat}, (dpSt J g k l).length = l.length
  | [], _ => rfl
  | _ :: r, k => by simp [dpSt, dpSt_len (l := r)]
/-- SLICES OF ONE's OWN BECOME DATA: the objects of J, as deep as they go. -/
theorem Weak.deep {fr : Fr} (J : List Nat) (f : Nat) : Weak G n0 fr (σ ++ l) (fr.map (dpA σ.length J l f)) (σ ++ dpSt J (dpA σ.length J l f) 0 l) := fun ρ0 w0 ρ w vs h0 hx hI hr => by
  have hlen := hI.len
  rw [List.length_append] at hlen
  refine ⟨killR σ.length J ρ, hx.trans killR_ext, ⟨by rw [killR_len, hlen, List.length_append, dpSt_len], fun i j b h1 h2 => hI.inj i j b (killR_live h1).1 (killR_live h2).1, fun i b h => hI.lt i b (killR_live h).1, fun id o ho => ?_, fun g x h => (hI.glob g x h).ext killR_ext, fun id o ho => ?_, fun b ⟨i, h⟩ => hI.own b ⟨i, (killR_live h).1⟩⟩,
    by rw [List.length_map]; exact hr.1, fun i x v hi hv => ?_⟩
  · by_cases hid : id < σ.length
    · rw [List.getElem?_append_left hid] at ho
      have ho' : (σ ++ l)[id]? = some (some o) := by rw [List.getElem?_append_left hid]; exact ho
      have hk : (killR σ.length J ρ)[id]? = ρ[id]? := by rw [killR_get, if_neg (by omega)]
      rw [hk]
      rcases hI.obj id o ho' with ⟨b, h1, h2⟩ | h
      · exact .inl ⟨b, h1, h2.keep killR_ext rfl⟩
      · exact .inr h
    · rw [List.getElem?_append_right (by omega), dpSt_get, Option.map_eq_some_iff] at ho
      obtain ⟨o', h1, h2⟩ := ho
      split at h2
      · cases h2
      · rename_i hj
        cases o' with
        | none => cases h2
        | some o' =>
          simp only [Option.map_some, Option.some.injEq] at h2
          have ho' : (σ ++ l)[id]? = some (some o') := by rw [List.getElem?_append_right (by omega)]; exact h1
          have hk : (killR σ.length J ρ)[id]? = ρ[id]? := by rw [killR_get, if_neg (fun k => hj (by rw [Nat.zero_add]; exact k.2.1))]
          rw [hk]
          rcases hI.obj id o' ho' with ⟨b, g1, g2⟩ | ⟨g1, g2⟩
          · refine .inl ⟨b, g1, ?_⟩
            subst h2
            cases o' with
            | map es => exact g2.keep killR_ext rfl
            | lp l r fr => exact g2.keep killR_ext rfl
            | cells cs =>
              obtain ⟨us, e, q1, q2, q3⟩ := g2
              refine ⟨us, e, q1, by rw [List.length_map]; exact q2, fun i x hx => ?_⟩
              rw [List.getElem?_map, Option.map_eq_some_iff] at hx
              obtain ⟨y, hy, rfl⟩ := hx
              obtain ⟨u, b1, b2, b3⟩ := q3 i y hy
              exact ⟨u, b1, b2, dpA_rep hI f y u b3⟩
          · subst g2; subst h2; exact .inr ⟨g1, rfl⟩
  · have hl2 : (σ ++ dpSt J (dpA σ.length J l f) 0 l).length = (σ ++ l).length := by simp [dpSt_len]
    rw [hl2]
    by_cases hid : id < σ.length
    · rw [List.getElem?_append_left hid] at ho
      exact hI.bd id o (by rw [List.getElem?_append_left hid]; exact ho)
    · rw [List.getElem?_append_right (by omega), dpSt_get, Option.map_eq_some_iff] at ho
      obtain ⟨o', h1, h2⟩ := ho
      split at h2
      · cases h2
      · cases o' with
        | none => cases h2
        | some o' =>
          simp only [Option.map_some, Option.some.injEq] at h2
          have := hI.bd id o' (by rw [List.getElem?_append_right (by omega)]; exact h1)
          subst h2
          cases o' with
          | map es => exact this
          | lp l r fr => exact this
          | cells cs =>
            exact bdL_of fun x hx => by
              obtain ⟨y, hy, rfl⟩ := List.mem_map.1 hx
              exact dpA_bd f (bdL_mem this y hy)
  · rw [List.getElem?_map, Option.map_eq_some_iff] at hi
    obtain ⟨y, hy, rfl⟩ := hi
    exact dpA_rep hI f y v (hr.2 i y v hy hv)
theorem Wk.deep {fr : Fr} {I : Fr → St → Prop} (J : List Nat) (f : Nat) (h : Wk G n0 I (fr.map (dpA σ.length J l f)) (σ ++ dpSt J (dpA σ.length J l f) 0 l)) : Wk G n0 I fr (σ ++ l) := by
  obtain ⟨a, b, h1, h2⟩ := h
  exact ⟨a, b, (Weak.deep J f).trans h1, h2⟩
end
-- evaluation
section
variable {n0 f : Nat} {J : List Nat} {l : St}
@[go_sem] theorem ownC_zero : ownC n0 J l n0 = if J.contains 0 then (match l.getD 0 none with | some (.cells cs) => some cs | _ => none) else none := by simp [ownC]
@[go_sem] theorem ownC_add (j : Nat) : ownC n0 J l (n0 + j) = if J.contains j then (match l.getD j none with | some (.cells cs) => some cs | _ => none) else none := by
  rw [ownC, if_neg (by omega), Nat.add_sub_cancel_left]
@[go_sem] theorem dpA_d (x : D) : dpA n0 J l (f + 1) (.d x) = .d x := rfl
@[go_sem] theorem dpA_any : dpA n0 J l (f + 1) .any = .any := rfl
@[go_sem] theorem dpA_ref (i o : Nat) : dpA n0 J l (f + 1) (.ref i o) = .ref i o := rfl
@[go_sem] theorem dpA_ea (x : D) (o : Nat) : dpA n0 J l (f + 1) (.ea x o) = .ea x o := rfl
@[go_sem] theorem dpA_mapr (i : Nat) : dpA n0 J l (f + 1) (.mapr i) = .mapr i := rfl
@[go_sem] theorem dpA_fn (g : Fn) (a b : List A) : dpA n0 J l (f + 1) (.fn g a b) = .fn g a b := rfl
@[go_sem] theorem dpA_rs (id sz off len : Nat) (w : Option TypeId) : dpA n0 J l (f + 1) (.rs id sz off len w) = (dpD n0 J l (f + 1) (.rs id sz off len w)).elim (.rs id sz off len w) .d := rfl
@[go_sem] theorem dpA_agg (cs : List A) : dpA n0 J l (f + 1) (.agg cs) = (dpD n0 J l (f + 1) (.agg cs)).elim (.agg cs) .d := rfl
attribute [go_sem] dpD dpL dpSt dpOb oneAll grp chunk Option.elim_some Option.elim_none
/-- A stretch in the text's order. -/
def Plan.tk : Nat → Nat → Plan → Plan
  | 0, _, p => p
  | n + 1, k, p => .take k (Plan.tk n (k + 1) p)
attribute [go_sem] Plan.tk
end
end Go.Ab
