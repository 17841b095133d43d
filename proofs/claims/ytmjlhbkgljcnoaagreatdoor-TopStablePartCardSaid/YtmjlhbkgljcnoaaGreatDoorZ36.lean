import Derived.Test.YtmjlhbkgljcnoaaGreatDoorZ35

section PartT23
/- Deciding by enumeration: the supports, the pairs of states. -/
set_option linter.unusedSimpArgs false
set_option linter.unusedVariables false
set_option maxRecDepth 100000
namespace Go.Proofs.YtmjlhbkgljcnoaaGreatDoor
open Go Go.Ab

def cndD (h g : Ex) : D := .agg [.str [], iD 0, iD 0, iD 0, iD 0, iD 0, iD h.op, iD h.w, iD h.n, .sl 4 (h.kids.map Ex.d), iD g.op, iD g.w, iD g.n, .sl 4 (g.kids.map Ex.d)]
/-- An expression of a condition over cells. -/
structure Cx (cells : List Cel) (e : Ex) : Prop where
  ok : e.Ok
  nodes : e.nodes ≤ 600
  deep : e.deep 40 = true
  over : e.over cells true = true
  w : e.w = 1
theorem Cx.supp {cells : List Cel} {e : Ex} (h : Cx cells e) {o : Int} (ho : o = 2 ∨ o = 3) : ∀ x ∈ idxL (supB o e) 32, 0 ≤ x ∧ x < cells.length := fun x hx => supp_lt ho h.deep h.over hx
theorem idxL_nodup (bs : List Bool) (j : Nat) : (idxL bs j).Nodup := by
  unfold idxL
  have h : ((List.range j).filter fun i => bs.getD i false).Nodup := List.nodup_range.filter _
  unfold List.Nodup at h ⊢
  rw [List.pairwise_map]
  exact h.imp fun hab e => hab (Int.ofNat.inj e)
theorem nodup_le {l : List Int} {k : Nat} (hn : l.Nodup) (hb : ∀ x ∈ l, 0 ≤ x ∧ x < k) : l.length ≤ k := by
  have h1 : (l.map Int.toNat).Nodup := by
    unfold List.Nodup at hn ⊢
    rw [List.pairwise_map]
    exact hn.imp_of_mem fun {a b} ha hb' hab e => by have := hb a ha; have := hb b hb'; exact hab (by omega)
  have := nodup_bound (n := k) h1 fun x hx => by
    obtain ⟨y, hy, rfl⟩ := List.mem_map.1 hx
    have := hb y hy
    omega
  simpa using this
theorem Cx.supp_len {cells : List Cel} (hk : cells.length ≤ 6) {e : Ex} (h : Cx cells e) {o : Int} (ho : o = 2 ∨ o = 3) : (idxL (supB o e) 32).length ≤ 6 := Nat.le_trans (nodup_le (idxL_nodup _ _) (h.supp ho)) hk
/-- The cells in which a condition is enumerated. -/
structure Sup (o : Int) (cells : List Cel) (h g : Ex) (l : List Int) : Prop where
  nd : l.Nodup
  mem : ∀ x, x ∈ l ↔ x ∈ idxL (supB o h) 32 ∨ x ∈ idxL (supB o g) 32
theorem Sup.lt {o : Int} (ho : o = 2 ∨ o = 3) {cells : List Cel} {h g : Ex} {l : List Int} (hs : Sup o cells h g l) (h1 : Cx cells h) (h2 : Cx cells g) : ∀ x ∈ l, 0 ≤ x ∧ x < cells.length := fun x hx => by
  rcases (hs.mem x).1 hx with hx | hx
  · exact h1.supp ho x hx
  · exact h2.supp ho x hx
set_option maxHeartbeats 4000000 in
theorem dsupport_ac (cells : List Cel) (hk : cells.length ≤ 6) (h g : Ex) (hh : Cx cells h) (hg : Cx cells g) (σ : St) (G : Glob) (hG : G.g 0 = some masksD) (R : A → St → Prop) (hR : ∀ lo ln, Sup 3 cells h g lo → Sup 2 cells h g ln → R (.tup [.d (isD lo), .d (isD ln)]) σ) : AC Tryz.prog G 74 [.d (cndD h g)] σ R := by
  have a3 := hh.supp_len hk (o := 3) (.inr rfl)
  have a2 := hh.supp_len hk (o := 2) (.inl rfl)
  have b3 := hg.supp_len hk (o := 3) (.inr rfl)
  have b2 := hg.supp_len hk (o := 2) (.inl rfl)
  refine ac_enter' mixed Tryz.func74 rfl Tryz.ntmps74 (by simp only [go_sem]) fun hbd => ?_
  simp only [List.length_cons, List.length_nil, Nat.reduceAdd, Nat.reduceSub, List.replicate_succ, List.replicate_zero, List.cons_append, List.nil_append]
  simp only [cndD, go_sem, Tryz.results74]
  rw [← Ex.d_eq h]
  refine ac' (support_ac h hh.ok hh.nodes hh.deep _ _ hG _ ?_)
  simp only [go_sem, Tryz.results74]
  rw [← Ex.d_eq g]
  refine ac' (support_ac g hg.ok hg.nodes hg.deep _ _ hG _ ?_)
  simp only [go_sem, Tryz.results74]
  refine ac' (union_ac _ _ (by omega) _ _ _ fun lo n1 m1 => ?_)
  simp only [go_sem, Tryz.results74]
  refine ac' (union_ac _ _ (by omega) _ _ _ fun ln n2 m2 => ?_)
  simp only [go_sem, Tryz.results74]
  exact ret_bd hbd rfl (hR lo ln ⟨n1, m1⟩ ⟨n2, m2⟩)
theorem dpairs_ac (cells : List Cel) (lo ln : List Int) (bits : Nat) (σ : St) (G : Glob) (R : A → St → Prop) (h : R (.fn (.func 94) [] [.ref σ.length 0, .ref (σ.length + 3) 0, .ref (σ.length + 1) 0, .ref (σ.length + 2) 0]) (σ ++ [some (.cells [.d (celsD cells)]), some (.cells [.d (isD lo)]), some (.cells [.d (isD ln)]), some (.cells [dn bits])])) : AC Tryz.prog G 76 [.d (celsD cells), .d (isD lo), .d (isD ln), dn bits] σ R := by
  refine ac_enter mixed Tryz.func76 rfl Tryz.ntmps76 (by simp only [go_sem]) fun hbd => ?_
  simp only [List.length_cons, List.length_nil, Nat.reduceAdd, Nat.reduceSub, List.replicate_succ, List.replicate_zero, List.cons_append, List.nil_append]
  simp only [celsD, isD, go_sem, Tryz.results76]
  exact ⟨_, _, Weak.refl _ _ _ _, h⟩
/-- Where a cell's bits begin. -/
def offs (ws : List Nat) (l : List Int) (i : Nat) : Nat := ((l.take i).map fun c => ws.getD c.toNat 0).sum
theorem offs_succ {ws : List Nat} {l : List Int} {i : Nat} (h : i < l.length) : offs ws l (i + 1) = offs ws l i + ws.getD (l.getD i 0).toNat 0 := by
  unfold offs
  rw [take_snoc 0 h, List.map_append, List.sum_append]; simp
/-- The first cells of a list have their bits of a number. -/
structure PB (ws : List Nat) (k : Nat) (l : List Int) (r j : Nat) (B : List Int) : Prop where
  len : B.length = k
  at_ : ∀ i, i < j → B.getD (l.getD i 0).toNat 0 = ((r / 2 ^ offs ws l i % 2 ^ ws.getD (l.getD i 0).toNat 0 : Nat) : Int)
theorem PB.step {ws : List Nat} {k : Nat} {l : List Int} {r j : Nat} {B : List Int} (h : PB ws k l r j B) (hn : l.Nodup) (hb : ∀ x ∈ l, 0 ≤ x ∧ x < k) (hj : j < l.length) : PB ws k l r (j + 1) (B.set (l.getD j 0).toNat ((r / 2 ^ offs ws l j % 2 ^ ws.getD (l.getD j 0).toNat 0 : Nat) : Int)) := by
  have hl := h.len
  have hbj := hb _ (getD_mem 0 hj)
  refine ⟨by rw [List.length_set, hl], fun i hi => ?_⟩
  rw [getD_set, hl]
  by_cases e : j = i
  · subst e; rw [if_pos ⟨rfl, by omega⟩]
  · have hbi := hb _ (getD_mem 0 (by omega : i < l.length))
    have hne : l.getD j 0 ≠ l.getD i 0 := fun he => by
      unfold List.Nodup at hn
      rw [List.pairwise_iff_getElem] at hn
      rw [List.getD_eq_getElem?_getD, List.getD_eq_getElem?_getD, List.getElem?_eq_getElem hj, List.getElem?_eq_getElem (by omega : i < l.length)] at he
      exact hn i j (by omega) hj (by omega) he.symm
    rw [if_neg (fun q => by omega)]
    exact h.at_ i (by omega)
/-- States of a number. -/
structure Gn (ws : List Nat) (k : Nat) (lo ln : List Int) (n : Nat) (B A : List Int) : Prop where
  b : PB ws k lo n lo.length B
  a : PB ws k ln (n / 2 ^ offs ws lo lo.length) ln.length A
theorem zeros_cells (n : Nat) : (List.replicate n [A.d (.int .i64 0)]).flatten = (List.replicate n (0 : Int)).map fun x => A.d (iD x) := by
  induction n with
  | zero => rfl
  | succ n ih => rw [List.replicate_succ, List.flatten_cons, ih, List.replicate_succ, List.map_cons]; rfl
def intsC (l : List Int) : Ob := .cells (l.map fun x => A.d (iD x))
set_option maxHeartbeats 32000000 in
theorem dpairs1_ac (cells : List Cel) (ws : List Nat) (hws : cw cells = nL ws) (hk : cells.length ≤ 6) (hwl : ws.length = cells.length) (hw8 : ∀ w ∈ ws, 1 ≤ w ∧ w ≤ 8) (lo ln : List Int) (nlo : lo.Nodup) (nln : ln.Nodup) (blo : ∀ x ∈ lo, 0 ≤ x ∧ x < cells.length) (bln : ∀ x ∈ ln, 0 ≤ x ∧ x < cells.length) (bits : Nat) (hbits : bits ≤ 14)
    {ic il io in_ l : Nat} (X : St → Prop) (bad : List Int → List Int → Prop) (σ : St) (hc : σ[ic]? = some (some (.cells [.d (celsD cells)]))) (hi : σ[il]? = some (some (.cells [dn bits]))) (ho : σ[io]? = some (some (.cells [.d (isD lo)]))) (hn : σ[in_]? = some (some (.cells [.d (isD ln)]))) (G : Glob)
    (hY : ∀ n B A ib ia st, n < 2 ^ bits → Gn ws cells.length lo ln n B A → (∀ k, k < σ.length → st[k]? = σ[k]?) → σ.length ≤ ib → σ.length ≤ ia → ib ≠ ia → st[ib]? = some (some (intsC B)) → st[ia]? = some (some (intsC A)) → YC Tryz.prog G l [.rs ib 1 0 cells.length (some 3), .rs ia 1 0 cells.length (some 3)] st fun r st' => (r = db true ∧ (∀ k, k < st.length → st'[k]? = st[k]?) ∧ ¬ bad B A) ∨ (r = db false ∧ X st' ∧ bad B A))
    (R : A → St → Prop) (h1 : (∀ n, n < 2 ^ bits → ∃ B A, Gn ws cells.length lo ln n B A ∧ ¬ bad B A) → ∀ r st, (∀ k, k < σ.length → st[k]? = σ[k]?) → R r st) (h2 : (∃ n B A, n < 2 ^ bits ∧ Gn ws cells.length lo ln n B A ∧ bad B A) → ∀ r st, X st → R r st) :
    AC Tryz.prog G 94 [.fn (.yield l) [] [], .ref ic 0, .ref il 0, .ref io 0, .ref in_ 0] σ R := by
  have llo : lo.length ≤ 6 := Nat.le_trans (nodup_le nlo blo) hk
  have lln : ln.length ≤ 6 := Nat.le_trans (nodup_le nln bln) hk
  have hbp : 2 ^ bits ≤ 16384 := Nat.pow_le_pow_right (n := 2) (j := 14) (by decide) hbits
  have v1 : bShl 1 (bits : Int) = ((2 ^ bits : Nat) : Int) := bShl_one (by omega)
  obtain ⟨N, hN⟩ : ∃ N, 2 ^ bits = N := ⟨_, rfl⟩
  rw [hN] at hbp v1
  simp only [hN] at hY h1 h2
  have lic := lt_of_some hc
  have lil := lt_of_some hi
  have lio := lt_of_some ho
  have lin := lt_of_some hn
  obtain ⟨k, hkk⟩ : ∃ k, cells.length = k := ⟨_, rfl⟩
  have hcw : ∀ i, i < cells.length → (cells.getD i cel0).w = ((ws.getD i 0 : Nat) : Int) := fun i hi => by
    have e1 : (cw cells).getD i 0 = (cells.getD i cel0).w := by
      unfold cw
      rw [List.getD_eq_getElem?_getD, List.getElem?_map, List.getElem?_eq_getElem hi, List.getD_eq_getElem?_getD, List.getElem?_eq_getElem hi]; rfl
    rw [← e1, hws]
    unfold nL
    rw [List.getD_eq_getElem?_getD, List.getElem?_map, List.getElem?_eq_getElem (by omega : i < ws.length), List.getD_eq_getElem?_getD, List.getElem?_eq_getElem (by omega : i < ws.length)]; rfl
  refine ac_enterC' [1] mixed Tryz.func94 rfl Tryz.ntmps94 (by simp only [go_sem]) fun hbd => ?_
  simp only [List.length_cons, List.length_nil, Nat.reduceAdd, Nat.reduceSub, List.replicate_succ, List.replicate_zero, List.cons_append, List.nil_append]
  refine aw_cut (fun fr st => ∃ (B A : List Int), B.length = k ∧ A.length = k ∧ fr = [.fn (.yield l) [] [], .ref ic 0, .ref il 0, .ref io 0, .ref in_ 0, .any, .rs σ.length 1 0 k (some 3), .rs (σ.length + 1) 1 0 k (some 3), .any, .any, .any, .any, .any, .any, .any, .any, .any, .any, .any, .any, .any, .any, .any, .any, .any, .any, .any, .any, .any, .any, .any, .any, .any, .any, .any, .any, .any, .any, .any, .any, .any, .any, .any, .any, .any, .any, .any, .any, .any, .any, .any, .any, .any, .any, .any, .any, .any, .any, .any, .any, .any, .any, .any, .any, .any, .any, .any, .any, .any, .any, .any, .any, .any, .any, .any, .any, .any, .any, .any, .any, .any, .any, .any, .any] ∧ st = σ ++ [some (intsC B), some (intsC A)]) ?_ ?_
  · refine aw_plan (.tk 2 0 <| .tk 2 3 <| .alt 2 (.take 6 <| .take 5 <| .take 7 <| .done) <| .alt 5 (.take 2 <| .tk 2 6 <| .done) <| .stop) (by kernel_rfl) ?_
    simp only [celsD, go_sem, live_of hc, objK_of hc, List.length_map, Tryz.results94]
    rw [hkk]
    simp only [zeros_cells]
    refine ⟨⟨⟨by omega, by omega, by omega, by omega⟩, ⟨by omega, by omega, by omega, by omega⟩, Wk.mask [0, 1, 2, 3, 4, 6, 7] ⟨List.replicate k 0, List.replicate k 0, by simp, by simp, rfl, rfl⟩⟩, ⟨by omega, by omega, by omega, by omega⟩, ⟨by omega, by omega, by omega, by omega⟩, Wk.keep [0, 1, 2, 3, 4, 6, 7] [1, 0] (by decide) (Nat.le_refl _) hbd ⟨List.replicate k 0, List.replicate k 0, by simp, by simp, ?_, ?_⟩⟩
    · simp only [go_sem, newId_old lic, newId_old lil, newId_old lio, newId_old lin]
    · simp only [go_sem, intsC, renL_ints]
  rintro fr st ⟨B, F, lB, lF, rfl, rfl⟩
  simp only [go_sem, live_old hi, objK_old hi, v1, Tryz.results94]
  refine ⟨by omega, aw_loop (fun m fr st => ∃ (n : Nat) (B F : List Int) (tl : St), n ≤ N ∧ m = N - n ∧ B.length = k ∧ F.length = k ∧ (∀ n', n' < n → ∃ B A, Gn ws cells.length lo ln n' B A ∧ ¬ bad B A) ∧ fr = [.fn (.yield l) [] [], .ref ic 0, .any, .ref io 0, .ref in_ 0, .any, .rs σ.length 1 0 k (some 3), .rs (σ.length + 1) 1 0 k (some 3), .any, .any, .any, .any, .any, .any, .any, .any, .any, .any, .any, .any, .any, dn N, dn n, .any, .any, .any, .any, .any, .any, .any, .any, .any, .any, .any, .any, .any, .any, .any, .any, .any, .any, .any, .any, .any, .any, .any, .any, .any, .any, .any, .any, .any, .any, .any, .any, .any, .any, .any, .any, .any, .any, .any, .any, .any, .any, .any, .any, .any, .any, .any, .any, .any, .any, .any, .any, .any, .any, .any, .any, .any, .any, .any, .any, .any] ∧ st = σ ++ (some (intsC B) :: some (intsC F) :: tl)) N _ (Wk.mask [0, 1, 3, 4, 6, 7, 21, 22] ⟨0, B, F, [], by omega, rfl, lB, lF, fun n' h => absurd h (by omega), rfl, rfl⟩) ?_⟩
  clear lB lF
  rintro m fr st ⟨n, B, F, tl, hn', hm, lB, lF, hall, rfl, rfl⟩
  rcases Nat.lt_or_ge n N with hlt | hge
  · have hdd : decide ((n : Int) < (N : Int)) = true := by simp only [decide_eq_true_eq]; omega
    have w2 := wrapS n (by omega)
    simp only [go_sem, hdd, live_old ho, objK_old ho, isD, List.length_map, Tryz.results94]
    refine aw_loop (fun m fr st => ∃ (j : Nat) (B : List Int), j ≤ lo.length ∧ m = lo.length - j ∧ PB ws k lo n j B ∧ fr = [.fn (.yield l) [] [], .ref ic 0, .any, .ref io 0, .ref in_ 0, .any, .rs σ.length 1 0 k (some 3), .rs (σ.length + 1) 1 0 k (some 3), .any, dn (n / 2 ^ offs ws lo j), .any, .any, .any, .any, .any, .any, .any, .any, .any, .any, .any, dn N, dn n, .any, .any, .any, .d (.sl 1 (lo.map iD)), dn lo.length, dn j, .any, .any, .any, .any, .any, .any, .any, .any, .any, .any, .any, .any, .any, .any, .any, .any, .any, .any, .any, .any, .any, .any, .any, .any, .any, .any, .any, .any, .any, .any, .any, .any, .any, .any, .any, .any, .any, .any, .any, .any, .any, .any, .any, .any, .any, .any, .any, .any, .any, .any, .any, .any, .any, .any, .any] ∧ st = σ ++ (some (intsC B) :: some (intsC F) :: tl)) lo.length _ (Wk.mask [0, 1, 3, 4, 6, 7, 9, 21, 22, 26, 27, 28] ⟨0, B, by omega, rfl, ⟨lB, fun i h => absurd h (by omega)⟩, by simp [offs]; rfl, rfl⟩) ?_
    clear lB
    rintro m fr st ⟨j, B, hj, hmj, hB, rfl, rfl⟩
    have lB := hB.len
    rcases Nat.lt_or_ge j lo.length with hltj | hgej
    · have hdj : decide ((j : Int) < (lo.length : Int)) = true := by simp only [decide_eq_true_eq]; omega
      have q1 := getD_isD hltj
      have hst := hB.step nlo (by rw [← hkk]; exact blo) hltj
      have hof := offs_succ (ws := ws) hltj
      have hbx := blo _ (getD_mem 0 hltj)
      obtain ⟨cn, hcn⟩ : ∃ cn : Nat, lo.getD j 0 = cn := ⟨(lo.getD j 0).toNat, by omega⟩
      rw [hcn] at q1 hst hof hbx
      simp only [Int.toNat_natCast] at hst hof
      have hcl : cn < cells.length := by omega
      have e1 := celD_at (l := cells) hcl
      simp only [celD, hcw cn hcl] at e1
      have hw := hw8 _ (getD_mem 0 (by omega : cn < ws.length))
      have w3 := wrapS j (by omega)
      generalize ws.getD cn 0 = w at *
      have hr : n / 2 ^ offs ws lo j < 16385 := Nat.lt_of_le_of_lt (Nat.div_le_self _ _) (by omega)
      have hof' : n / 2 ^ offs ws lo (j + 1) = n / 2 ^ offs ws lo j / 2 ^ w := by rw [hof, Nat.pow_add, Nat.div_div_eq_div_mul]
      generalize n / 2 ^ offs ws lo j = r at *
      have hp := pow_le8 (w := w) (by omega)
      have hp1 := pow_pos2 w
      have v2 : bShl 1 (w : Int) = ((2 ^ w : Nat) : Int) := bShl_one (by omega)
      have v3 : IntKind.i64.wrap (((2 ^ w : Nat) : Int) - 1) = ((2 ^ w : Nat) : Int) - 1 := wrap64_id _ (by omega) (by omega)
      have v4 : bAnd (r : Int) (((2 ^ w : Nat) : Int) - 1) = ((r % 2 ^ w : Nat) : Int) := bAnd_low (by omega) (by omega)
      have v5 : bShr (r : Int) (w : Int) = ((r / 2 ^ w : Nat) : Int) := bShr_nat r (by omega)
      have hsp := splice_intsA (l := B) (j := cn) ((r % 2 ^ w : Nat) : Int) (by omega)
      have hbl : (B.map fun x => A.d (iD x)).length = k := by rw [List.length_map, lB]
      simp only [intsC, celsD, go_sem, hdj, q1, e1, live_old hc, objK_old hc, v2, v3, v4, v5, w3, lB, List.length_map, Int.toNat_natCast, Nat.mul_one, Nat.zero_add, hsp, Tryz.results94]
      exact ⟨⟨by omega, by omega⟩, ⟨by omega, by omega⟩, by omega, ⟨by omega, by omega⟩, by omega, ⟨by omega, by omega⟩, by omega, Wk.mask [0, 1, 3, 4, 6, 7, 9, 21, 22, 26, 27, 28] ⟨lo.length - (j + 1), by omega, j + 1, _, by omega, rfl, hst, by rw [hof']; rfl, rfl⟩⟩
    · have hdj : decide ((j : Int) < (lo.length : Int)) = false := by simp only [decide_eq_false_iff_not]; omega
      obtain rfl : j = lo.length := by omega
      have hr0 : n / 2 ^ offs ws lo lo.length ≤ n := Nat.div_le_self _ _
      obtain ⟨r0, hr0e⟩ : ∃ r0, n / 2 ^ offs ws lo lo.length = r0 := ⟨_, rfl⟩
      rw [hr0e] at hr0
      simp only [go_sem, hdj, hr0e, live_old hn, objK_old hn, isD, List.length_map, Tryz.results94]
      refine aw_loop (fun m fr st => ∃ (i : Nat) (F : List Int), i ≤ ln.length ∧ m = ln.length - i ∧ PB ws k ln r0 i F ∧ fr = [.fn (.yield l) [] [], .ref ic 0, .any, .ref io 0, .ref in_ 0, .any, .rs σ.length 1 0 k (some 3), .rs (σ.length + 1) 1 0 k (some 3), .any, dn (r0 / 2 ^ offs ws ln i), .any, .any, .any, .any, .any, .any, .any, .any, .any, .any, .any, dn N, dn n, .any, .any, .any, .any, .any, .any, .any, .any, .any, .any, .any, .any, .any, .any, .any, .any, .any, .any, .any, .any, .any, .any, .any, .any, .any, .any, .any, .any, .any, .d (.sl 1 (ln.map iD)), dn ln.length, dn i, .any, .any, .any, .any, .any, .any, .any, .any, .any, .any, .any, .any, .any, .any, .any, .any, .any, .any, .any, .any, .any, .any, .any, .any, .any, .any, .any, .any, .any] ∧ st = σ ++ (some (intsC B) :: some (intsC F) :: tl)) ln.length _ (Wk.mask [0, 1, 3, 4, 6, 7, 9, 21, 22, 52, 53, 54] ⟨0, F, by omega, rfl, ⟨lF, fun i h => absurd h (by omega)⟩, by simp [offs]; rfl, rfl⟩) ?_
      clear lF
      rintro m fr st ⟨i, F, hi', hmi, hF, rfl, rfl⟩
      have lF := hF.len
      rcases Nat.lt_or_ge i ln.length with hlti | hgei
      · have hdi : decide ((i : Int) < (ln.length : Int)) = true := by simp only [decide_eq_true_eq]; omega
        have q1 := getD_isD hlti
        have hst := hF.step nln (by rw [← hkk]; exact bln) hlti
        have hof := offs_succ (ws := ws) hlti
        have hbx := bln _ (getD_mem 0 hlti)
        obtain ⟨cn, hcn⟩ : ∃ cn : Nat, ln.getD i 0 = cn := ⟨(ln.getD i 0).toNat, by omega⟩
        rw [hcn] at q1 hst hof hbx
        simp only [Int.toNat_natCast] at hst hof
        have hcl : cn < cells.length := by omega
        have e1 := celD_at (l := cells) hcl
        simp only [celD, hcw cn hcl] at e1
        have hw := hw8 _ (getD_mem 0 (by omega : cn < ws.length))
        have w3 := wrapS i (by omega)
        generalize ws.getD cn 0 = w at *
        have hr : r0 / 2 ^ offs ws ln i < 16385 := Nat.lt_of_le_of_lt (Nat.div_le_self _ _) (by omega)
        have hof' : r0 / 2 ^ offs ws ln (i + 1) = r0 / 2 ^ offs ws ln i / 2 ^ w := by rw [hof, Nat.pow_add, Nat.div_div_eq_div_mul]
        generalize r0 / 2 ^ offs ws ln i = r at *
        have hp := pow_le8 (w := w) (by omega)
        have hp1 := pow_pos2 w
        have v2 : bShl 1 (w : Int) = ((2 ^ w : Nat) : Int) := bShl_one (by omega)
        have v3 : IntKind.i64.wrap (((2 ^ w : Nat) : Int) - 1) = ((2 ^ w : Nat) : Int) - 1 := wrap64_id _ (by omega) (by omega)
        have v4 : bAnd (r : Int) (((2 ^ w : Nat) : Int) - 1) = ((r % 2 ^ w : Nat) : Int) := bAnd_low (by omega) (by omega)
        have v5 : bShr (r : Int) (w : Int) = ((r / 2 ^ w : Nat) : Int) := bShr_nat r (by omega)
        have hsp := splice_intsA (l := F) (j := cn) ((r % 2 ^ w : Nat) : Int) (by omega)
        have hbl : (F.map fun x => A.d (iD x)).length = k := by rw [List.length_map, lF]
        simp only [intsC, celsD, go_sem, hdi, q1, e1, live_old hc, objK_old hc, v2, v3, v4, v5, w3, lF, List.length_map, Int.toNat_natCast, Nat.mul_one, Nat.zero_add, hsp, Tryz.results94]
        exact ⟨⟨by omega, by omega⟩, ⟨by omega, by omega⟩, by omega, ⟨by omega, by omega⟩, by omega, ⟨by omega, by omega⟩, by omega, Wk.mask [0, 1, 3, 4, 6, 7, 9, 21, 22, 52, 53, 54] ⟨ln.length - (i + 1), by omega, i + 1, _, by omega, rfl, hst, by rw [hof']; rfl, rfl⟩⟩
      · have hdi : decide ((i : Int) < (ln.length : Int)) = false := by simp only [decide_eq_false_iff_not]; omega
        obtain rfl : i = ln.length := by omega
        have hGn : Gn ws cells.length lo ln n B F := ⟨by rw [hkk]; exact hB, by rw [hkk, hr0e]; exact hF⟩
        simp only [go_sem, hdi, w2, Tryz.results94]
        have hYn := hY n B F σ.length (σ.length + 1) (σ ++ (some (intsC B) :: some (intsC F) :: tl)) hlt hGn (fun q hq => List.getElem?_append_left hq) (Nat.le_refl _) (by omega) (by omega) (by simp) (by simp)
        rw [hkk] at hYn
        refine yc' (hYn.mono fun r st' hr => ?_)
        rcases hr with ⟨rfl, hold, hbad⟩ | ⟨rfl, hX, hbad⟩
        · have hst' : st' = σ ++ (some (intsC B) :: some (intsC F) :: st'.drop (σ.length + 2)) := by
            apply List.ext_getElem?
            intro q
            rcases Nat.lt_or_ge q (σ.length + 2) with h | h
            · rw [hold q (by simp; omega)]
              rcases Nat.lt_or_ge q σ.length with h' | h'
              · rw [List.getElem?_append_left h', List.getElem?_append_left h']
              · rw [List.getElem?_append_right h', List.getElem?_append_right h']
                have : q - σ.length = 0 ∨ q - σ.length = 1 := by omega
                rcases this with e | e <;> rw [e] <;> rfl
            · rw [List.getElem?_append_right (by omega)]
              obtain ⟨d, hd⟩ : ∃ d, q - σ.length = d + 2 := ⟨q - σ.length - 2, by omega⟩
              rw [hd, List.getElem?_cons_succ, List.getElem?_cons_succ, List.getElem?_drop]
              congr 1; omega
          simp only [go_sem, w2, Tryz.results94]
          refine Wk.mask [0, 1, 3, 4, 6, 7, 21, 22] ⟨N - (n + 1), by omega, n + 1, B, F, _, by omega, rfl, lB, lF, fun n' hn'' => ?_, rfl, hst'⟩
          by_cases e : n' = n
          · subst e; exact ⟨B, F, hGn, hbad⟩
          · exact hall n' (by omega)
        · simp only [go_sem, Tryz.results94]
          exact ⟨_, _, Weak.refl _ _ _ _, h2 ⟨n, B, F, hlt, hGn, hbad⟩ _ _ hX⟩
  · have hdd : decide ((n : Int) < (N : Int)) = false := by simp only [decide_eq_false_iff_not]; omega
    simp only [go_sem, hdd, Tryz.results94]
    exact ⟨_, _, Weak.refl _ _ _ _, h1 (fun n' hn'' => hall n' (by omega)) _ _ fun k hk => List.getElem?_append_left hk⟩
end Go.Proofs.YtmjlhbkgljcnoaaGreatDoor
end PartT23

section PartT24
/- Deciding by enumeration. -/
set_option linter.unusedSimpArgs false
set_option linter.unusedVariables false
set_option maxRecDepth 100000
namespace Go.Proofs.YtmjlhbkgljcnoaaGreatDoor
open Go Go.Ab

def cndC (h g : Ex) : List A := [.d (.str []), di 0, di 0, di 0, di 0, di 0, .d (iD h.op), .d (iD h.w), .d (iD h.n), .d (.sl 4 (h.kids.map Ex.d)), .d (iD g.op), .d (iD g.w), .d (iD g.n), .d (.sl 4 (g.kids.map Ex.d))]
def badE (h g : Ex) (B F : List Int) : Prop := evN B F h = 1 ∧ evN B F g = 0
theorem views_ints {σ : St} {id : Nat} {l : List Int} {w : Option TypeId} (h : σ[id]? = some (some (intsC l))) : Views σ (.rs id 1 0 l.length w) (dL l) :=
  Views.rs h (by simp) (fun i x hx => by
    rw [List.getElem?_map, Option.map_eq_some_iff] at hx
    obtain ⟨a, _, rfl⟩ := hx; rfl) fun i x j y hx hy => by
    rw [List.getElem?_map, Option.map_eq_some_iff] at hx
    obtain ⟨a, ha, rfl⟩ := hx
    match j with
    | 0 =>
      have e : iD a = y := by simpa [D.cells] using hy
      subst e
      exact ⟨rfl, _, by simp only [Nat.zero_add, Nat.mul_one, Nat.add_zero, List.getElem?_map, ha, Option.map_some], Views.d _⟩
    | j + 1 => simp [D.cells] at hy
theorem falsif_ac (cells : List Cel) (h g : Ex) (hh : Cx cells h) (hg : Cx cells g) {ic ib ia k : Nat} (B F : List Int) (lB : B.length = k) (lF : F.length = k) (hk : k ≤ 6) (σ : St) (hc : σ[ic]? = some (some (.cells (cndC h g)))) (hb : σ[ib]? = some (some (intsC B))) (ha : σ[ia]? = some (some (intsC F))) (G : Glob) (hG : G.g 0 = some masksD) (R : A → St → Prop) (h1 : badE h g B F → R (db true) σ) (h2 : ¬ badE h g B F → R (db false) σ) :
    AC Tryz.prog G 75 [.rs ib 1 0 k (some 3), .rs ia 1 0 k (some 3), .ref ic 0] σ R := by
  have vb : Views σ (.rs ib 1 0 k (some 3)) (dL B) := lB ▸ views_ints hb
  have va : Views σ (.rs ia 1 0 k (some 3)) (dL F) := lF ▸ views_ints ha
  have e1 : ∀ R : A → St → Prop, R (dn (evN B F h)) σ → AC Tryz.prog G 29 [.d h.d, .rs ib 1 0 k (some 3), .rs ia 1 0 k (some 3)] σ R := fun R hR =>
    ac_pure (dn (evN B F h)) rfl (views3 (Views.d _) vb va) (eval_ac h hh.ok hh.nodes hh.deep B F (by simp only [reachBytes]; omega) (by simp only [reachBytes]; omega) [] G.calm hG _ rfl) hR
  have e2 : ∀ R : A → St → Prop, R (dn (evN B F g)) σ → AC Tryz.prog G 29 [.d g.d, .rs ib 1 0 k (some 3), .rs ia 1 0 k (some 3)] σ R := fun R hR =>
    ac_pure (dn (evN B F g)) rfl (views3 (Views.d _) vb va) (eval_ac g hg.ok hg.nodes hg.deep B F (by simp only [reachBytes]; omega) (by simp only [reachBytes]; omega) [] G.calm hG _ rfl) hR
  unfold cndC at hc
  refine ac_enter mixed Tryz.func75 rfl Tryz.ntmps75 (by simp only [go_sem]) fun hbd => ?_
  simp only [List.length_cons, List.length_nil, Nat.reduceAdd, Nat.reduceSub, List.replicate_succ, List.replicate_zero, List.cons_append, List.nil_append]
  simp only [go_sem, live_of hc, objK_of hc, Tryz.results75]
  rw [← Ex.d_eq h]
  refine ac' (e1 _ ?_)
  by_cases hq : evN B F h = 1
  · have b1 : (((evN B F h : Nat) : Int) == 1) = true := by rw [hq]; rfl
    simp only [go_sem, live_of hc, objK_of hc, b1, Tryz.results75]
    refine ex' (iD (evN B F g : Nat)) ⟨fun _ => ?_, ?_⟩
    · simp only [go_sem, b1]
      rw [← Ex.d_eq g]
      exact ac' (e2 _ ⟨rfl, rfl⟩)
    simp only [go_sem, b1, Tryz.results75]
    by_cases hz : evN B F g = 0
    · have b2 : (((evN B F g : Nat) : Int) == 0) = true := by rw [hz]; rfl
      rw [b2]
      exact ret_d0 (h1 ⟨hq, hz⟩)
    · have b2 : (((evN B F g : Nat) : Int) == 0) = false := by rw [beq_eq_false_iff_ne]; exact fun h => hz (Int.ofNat_eq_zero.1 h)
      rw [b2]
      exact ret_d0 (h2 fun h => hz h.2)
  · have b1 : (((evN B F h : Nat) : Int) == 1) = false := by rw [beq_eq_false_iff_ne]; omega
    simp only [go_sem, live_of hc, objK_of hc, b1, Tryz.results75]
    refine ex' (iD 0) ⟨fun h => Bool.noConfusion h, ?_⟩
    simp only [go_sem, b1, Tryz.results75]
    exact ret_d0 (h2 fun h => hq h.1)
theorem sum_nodup (f : Nat → Nat) : ∀ (n : Nat) (l : List Nat), l.Nodup → (∀ x ∈ l, x < n) → (l.map f).sum ≤ ((List.range n).map f).sum
  | 0, l, _, hx => by
    cases l with
    | nil => exact Nat.le_refl _
    | cons a t => exact absurd (hx a (by simp)) (by omega)
  | n + 1, l, h, hx => by
    rw [List.range_succ, List.map_append, List.sum_append]
    by_cases hm : n ∈ l
    · have h1 := sum_nodup f n (l.erase n) (h.erase n) fun x hx' => by
        rw [h.mem_erase_iff] at hx'
        have := hx x hx'.2
        have := hx'.1
        omega
      have h2 := ((List.perm_cons_erase hm).map f).sum_nat
      rw [List.map_cons, List.sum_cons] at h2
      simp only [List.map_cons, List.map_nil, List.sum_cons, List.sum_nil]
      omega
    · have h1 := sum_nodup f n l h fun x hx' => by
        have := hx x hx'
        have : x ≠ n := fun e => hm (e ▸ hx')
        omega
      omega
theorem offs_le {ws : List Nat} {k : Nat} {l : List Int} (hk : ws.length = k) (hn : l.Nodup) (hb : ∀ x ∈ l, 0 ≤ x ∧ x < k) (i : Nat) : offs ws l i ≤ ws.sum := by
  have h1 : ((l.take i).map Int.toNat).Nodup := by
    have hn' := hn.sublist (List.take_sublist i l)
    unfold List.Nodup at hn' ⊢
    rw [List.pairwise_map]
    exact hn'.imp_of_mem fun {a b} ha hb' hab e => by have := hb a (List.mem_of_mem_take ha); have := hb b (List.mem_of_mem_take hb'); exact hab (by omega)
  have h2 := sum_nodup (fun c => ws.getD c 0) k _ h1 fun x hx => by
    obtain ⟨y, hy, rfl⟩ := List.mem_map.1 hx
    have := hb y (List.mem_of_mem_take hy)
    omega
  have h3 : (List.range k).map (fun c => ws.getD c 0) = ws := by
    apply List.ext_getElem?
    intro i
    rw [List.getElem?_map]
    rcases Nat.lt_or_ge i k with h | h
    · rw [List.getElem?_range h, List.getElem?_eq_getElem (by omega : i < ws.length)]
      simp only [Option.map_some, List.getD_eq_getElem?_getD, List.getElem?_eq_getElem (by omega : i < ws.length)]; rfl
    · rw [List.getElem?_eq_none (by simpa using h), List.getElem?_eq_none (by omega)]; rfl
  rw [h3, List.map_map] at h2
  exact h2
theorem objK_sets {st : St} {i : Nat} {cs : List A} {k : List A → Prop} (h : decide (i < st.length) = true) : objK (st.set i (some (.cells cs))) i k = k cs := Srt.objK_set (by simpa using h)
theorem objK_setn {st : St} {n i j : Nat} {x : Option Ob} {k : List A → Prop} (h : (i == j) = false) : objK (st.set (n + i) x) (n + j) k = objK st (n + j) k := by
  have hne : n + i ≠ n + j := by have : i ≠ j := by simpa using h
                                 omega
  unfold objK
  rw [List.getElem?_set_ne hne]
/-- A condition that no states falsify. -/
def Holds (ws : List Nat) (k : Nat) (lo ln : List Int) (bits : Nat) (h g : Ex) : Prop := ∀ n, n < 2 ^ bits → ∃ B F, Gn ws k lo ln n B F ∧ ¬ badE h g B F
def Fails (ws : List Nat) (k : Nat) (lo ln : List Int) (bits : Nat) (h g : Ex) : Prop := ∃ n B F, n < 2 ^ bits ∧ Gn ws k lo ln n B F ∧ badE h g B F
set_option maxHeartbeats 32000000 in
theorem Decide_ac (cells : List Cel) (ws : List Nat) (hws : cw cells = nL ws) (hk : cells.length ≤ 6) (hwl : ws.length = cells.length) (hW : Ws ws) (h6 : ws.sum ≤ 6) (h g : Ex) (hh : Cx cells h) (hg : Cx cells g) (σ : St) (G : Glob) (hG : G.g 0 = some masksD) (hp : ∀ a s, ¬ G.pan a s) (R : A → St → Prop)
    (h1 : ∀ lo ln, Sup 3 cells h g lo → Sup 2 cells h g ln → Holds ws cells.length lo ln (offs ws lo lo.length + offs ws ln ln.length) h g → ∀ a b, R (.tup [di 1, a, b, di 0]) σ)
    (h2 : ∀ lo ln, Sup 3 cells h g lo → Sup 2 cells h g ln → Fails ws cells.length lo ln (offs ws lo lo.length + offs ws ln ln.length) h g → ∀ a b, R (.tup [di 2, a, b, di 0]) σ) :
    AC Tryz.prog G 48 [.d (celsD cells), .d (cndD h g)] σ R := by
  have hwlen := hW.len
  have hcw : ∀ i, i < cells.length → (cells.getD i cel0).w = ((ws.getD i 0 : Nat) : Int) := fun i hi => by
    have e1 : (cw cells).getD i 0 = (cells.getD i cel0).w := by
      unfold cw
      rw [List.getD_eq_getElem?_getD, List.getElem?_map, List.getElem?_eq_getElem hi, List.getD_eq_getElem?_getD, List.getElem?_eq_getElem hi]; rfl
    rw [← e1, hws]
    unfold nL
    rw [List.getD_eq_getElem?_getD, List.getElem?_map, List.getElem?_eq_getElem (by omega : i < ws.length), List.getD_eq_getElem?_getD, List.getElem?_eq_getElem (by omega : i < ws.length)]; rfl
  obtain ⟨LE, hLE⟩ : ∃ LE, [h, g] = LE := ⟨_, rfl⟩
  have hLm : ∀ e ∈ LE, Cx cells e := fun e he => by
    rw [← hLE] at he
    rcases List.mem_cons.1 he with rfl | he
    · exact hh
    · obtain rfl := List.mem_singleton.1 he
      exact hg
  have hLl : LE.length = 2 := by rw [← hLE]; rfl
  have hCl := hh.nodes
  refine ac_enterC' [7, 8, 18, 20, 26] mixed Tryz.func48 rfl Tryz.ntmps48 (by simp only [go_sem]) fun hbd => ?_
  simp only [List.length_cons, List.length_nil, Nat.reduceAdd, Nat.reduceSub, List.replicate_succ, List.replicate_zero, List.cons_append, List.nil_append]
  simp only [cndD, celsD, go_sem, Tryz.results48]
  refine aw_cut (fun fr st => fr = [.d (celsD cells), .any, .any, .ref σ.length 0, .ref (σ.length + 1) 0, .ref (σ.length + 2) 0, .ref (σ.length + 3) 0, .ref (σ.length + 4) 0, .any, .any, .any, .any, .any, .any, .any, .any, .any, .any, .any, .any, .any, .any, .any, .any, .any, .any, .any, .any, .any, .any, .any, .any, .any, .any, .any, .any, .any, .any, .any, .any, .any, .any, .any, .any, .any, .any, .any, .any, .any, .any, .any, .any, .any, .any, .any, .any, .any, .any, .any, .any, .any, .any, .any, .any, .any, .any, .any, .any, .any, .any, .any, .any, .any, .any, .any, .any, .any, .any, .any, .any, .any, .any, .any, .any] ∧ st = σ ++ [some (.cells (cndC h g)), some (.cells [di 0]), some (.cells [.d .nils]), some (.cells [.d .nils]), some (.cells [di 0])]) ?_ ?_
  · simp only [go_sem, Tryz.results48]
    have hLx : LE.flatMap exC = [.d (iD h.op), .d (iD h.w), .d (iD h.n), .d (.sl 4 (h.kids.map Ex.d)), .d (iD g.op), .d (iD g.w), .d (iD g.n), .d (.sl 4 (g.kids.map Ex.d))] := by rw [← hLE]; rfl
    have hxl := exC_len LE
    refine aw_loop (fun m fr st => ∃ j : Nat, j ≤ 2 ∧ m = 2 - j ∧ fr = [.d (celsD cells), .any, .any, .ref σ.length 0, .ref (σ.length + 1) 0, .ref (σ.length + 2) 0, .ref (σ.length + 3) 0, .ref (σ.length + 4) 0, .any, .any, .any, .any, .any, .any, .any, .any, .any, .any, .any, .any, .any, .any, .any, .any, .rs (σ.length + 5) 4 0 2 (some 25), dn 2, dn j, .any, .any, .any, .any, .any, .any, .any, .any, .any, .any, .any, .any, .any, .any, .any, .any, .any, .any, .any, .any, .any, .any, .any, .any, .any, .any, .any, .any, .any, .any, .any, .any, .any, .any, .any, .any, .any, .any, .any, .any, .any, .any, .any, .any, .any, .any, .any, .any, .any, .any, .any, .any, .any, .any, .any, .any, .any] ∧ st = σ ++ [some (.cells (cndC h g)), some (.cells [di 0]), some (.cells [.d .nils]), some (.cells [.d .nils]), some (.cells [di 0]), some (.cells (LE.flatMap exC))]) 2 _ (Wk.mask [0, 3, 4, 5, 6, 7, 24, 25, 26] ⟨0, by omega, rfl, rfl, by rw [hLx]; rfl⟩) ?_
    rintro m fr st ⟨j, hj, hm, rfl, rfl⟩
    rcases Nat.lt_or_ge j 2 with hlt | hge
    · have hdd : decide ((j : Int) < ((2 : Nat) : Int)) = true := by simp only [decide_eq_true_eq]; omega
      have w2 := wrapS j (by omega)
      obtain ⟨x1, -⟩ := exC_at (K := LE) (j := j) (by omega)
      obtain ⟨k, hkk⟩ : ∃ k, LE.getD j (.mk 0 0 0 []) = k := ⟨_, rfl⟩
      have hkx := hLm k (hkk ▸ getD_mem _ (by omega : j < LE.length))
      rw [hkk] at x1
      have hx : exC k = [.d (iD k.op), .d (iD k.w), .d (iD k.n), .d (.sl 4 (k.kids.map Ex.d))] := rfl
      rw [hx] at x1
      have hw1 := hkx.w
      have b1 : (k.w != 1) = false := by rw [hw1]; rfl
      simp only [go_sem, hdd, x1, hxl, hLl, toDs, b1, Bool.not_false, Tryz.results48]
      refine ⟨⟨by omega, by omega⟩, by omega, ?_⟩
      refine ex' (.bool true) ⟨fun _ => ?_, ?_⟩
      · simp only [go_sem, b1, Bool.not_false]
        rw [← Ex.d_eq k]
        exact ac' (valid_ac k hkx.ok hkx.nodes cells true _ _ hG _ (by rw [hkx.deep, hkx.over]; exact ⟨rfl, rfl⟩))
      simp only [go_sem, b1, w2, Tryz.results48]
      refine Wk.keep [0, 3, 4, 5, 6, 7, 24, 25, 26] [0, 1, 2, 3, 4, 5] (by decide) (Nat.le_refl _) hbd ⟨2 - (j + 1), by omega, j + 1, by omega, rfl, ?_, ?_⟩
      · simp only [go_sem, celsD]
      · simp only [go_sem, cndC, renL_exC]
    · have hdd : decide ((j : Int) < ((2 : Nat) : Int)) = false := by simp only [decide_eq_false_iff_not]; omega
      simp only [go_sem, hdd, Tryz.results48]
      refine Wk.keep [0, 3, 4, 5, 6, 7] [0, 1, 2, 3, 4] (by decide) (Nat.le_refl _) hbd ⟨?_, ?_⟩
      · simp only [go_sem]
      · simp only [go_sem, cndC]
  rintro fr st ⟨rfl, rfl⟩
  simp only [go_sem]
  refine aw_cut (fun fr st => ∃ lo ln, Sup 3 cells h g lo ∧ Sup 2 cells h g ln ∧ fr = [.d (celsD cells), .any, .any, .ref σ.length 0, .ref (σ.length + 1) 0, .ref (σ.length + 2) 0, .ref (σ.length + 3) 0, .ref (σ.length + 4) 0, .any, .any, .d (isD lo), .d (isD ln), .any, .any, .any, .any, .any, .any, .any, .any, .any, .any, .any, .any, .any, .any, .any, .any, .any, .any, .any, .any, .any, .any, .any, .any, .any, .any, .any, .any, .any, .any, .any, .any, .any, .any, .any, .any, .any, .any, .any, .any, .any, .any, .any, .any, .any, .any, .any, .any, .any, .any, .any, .any, .any, .any, .any, .any, .any, .any, .any, .any, .any, .any, .any, .any, .any, .any, .any, .any, .any, .any, .any, .any] ∧ st = σ ++ [some (.cells (cndC h g)), some (.cells [di 0]), some (.cells [.d .nils]), some (.cells [.d .nils]), some (.cells [di 0])]) ?_ ?_
  · simp only [cndC, go_sem, toDs, Tryz.results48]
    refine ac' (dsupport_ac cells hk h g hh hg _ _ hG _ fun lo ln s1 s2 => ?_)
    simp only [go_sem, Tryz.results48]
    exact Wk.mask [0, 3, 4, 5, 6, 7, 10, 11] ⟨lo, ln, s1, s2, rfl, rfl⟩
  rintro fr st ⟨lo, ln, s3, s2, rfl, rfl⟩
  have blo := s3.lt (.inr rfl) hh hg
  have bln := s2.lt (.inl rfl) hh hg
  have llo : lo.length ≤ 6 := Nat.le_trans (nodup_le s3.nd blo) hk
  have lln : ln.length ≤ 6 := Nat.le_trans (nodup_le s2.nd bln) hk
  have olo := offs_le hwl s3.nd blo
  have oln := offs_le hwl s2.nd bln
  obtain ⟨LL, hLL⟩ : ∃ LL, [lo, ln] = LL := ⟨_, rfl⟩
  have hLLl : LL.length = 2 := by rw [← hLL]; rfl
  have hLLm : ∀ l ∈ LL, (∀ x ∈ l, 0 ≤ x ∧ x < cells.length) ∧ l.length ≤ 6 ∧ ∀ i, offs ws l i ≤ 6 := fun l hl => by
    rw [← hLL] at hl
    rcases List.mem_cons.1 hl with rfl | hl
    · exact ⟨blo, llo, fun i => Nat.le_trans (olo i) h6⟩
    · obtain rfl := List.mem_singleton.1 hl
      exact ⟨bln, lln, fun i => Nat.le_trans (oln i) h6⟩
  obtain ⟨bits, hbits⟩ : ∃ bits, offs ws lo lo.length + offs ws ln ln.length = bits := ⟨_, rfl⟩
  have hb14 : bits ≤ 14 := by have := olo lo.length; have := oln ln.length; omega
  have hbe : (LL.map fun l => offs ws l l.length).sum = bits := by rw [← hLL, ← hbits]; simp
  simp only [go_sem, Tryz.results48]
  refine aw_cut (fun fr st => fr = [.d (celsD cells), .any, .any, .ref σ.length 0, .ref (σ.length + 1) 0, .ref (σ.length + 2) 0, .ref (σ.length + 3) 0, .ref (σ.length + 4) 0, .any, .any, .d (isD lo), .d (isD ln), dn bits, .any, .any, .any, .any, .any, .any, .any, .any, .any, .any, .any, .any, .any, .any, .any, .any, .any, .any, .any, .any, .any, .any, .any, .any, .any, .any, .any, .any, .any, .any, .any, .any, .any, .any, .any, .any, .any, .any, .any, .any, .any, .any, .any, .any, .any, .any, .any, .any, .any, .any, .any, .any, .any, .any, .any, .any, .any, .any, .any, .any, .any, .any, .any, .any, .any, .any, .any, .any, .any, .any, .any] ∧ st = σ ++ [some (.cells (cndC h g)), some (.cells [di 0]), some (.cells [.d .nils]), some (.cells [.d .nils]), some (.cells [di 0])]) ?_ ?_
  · simp only [isD, go_sem, Tryz.results48]
    have hLx : (LL.map fun l => A.d (isD l)) = [.d (.sl 1 (lo.map iD)), .d (.sl 1 (ln.map iD))] := by rw [← hLL]; rfl
    have hLat : ∀ j, j < 2 → (LL.map fun l => A.d (isD l)).getD j .any = .d (.sl 1 ((LL.getD j []).map iD)) := fun j hj => by
      rw [List.getD_eq_getElem?_getD, List.getElem?_map, List.getElem?_eq_getElem (by omega : j < LL.length), List.getD_eq_getElem?_getD, List.getElem?_eq_getElem (by omega : j < LL.length)]; rfl
    refine aw_loop (fun m fr st => ∃ j : Nat, j ≤ 2 ∧ m = 2 - j ∧ fr = [.d (celsD cells), .any, .any, .ref σ.length 0, .ref (σ.length + 1) 0, .ref (σ.length + 2) 0, .ref (σ.length + 3) 0, .ref (σ.length + 4) 0, .any, .any, .d (isD lo), .d (isD ln), dn ((LL.take j).map fun l => offs ws l l.length).sum, .any, .any, .any, .any, .any, .any, .any, .any, .any, .any, .any, .any, .any, .any, .any, .any, .any, .any, .any, .any, .any, .any, .any, .any, .any, .any, .any, .any, .any, .any, .any, .any, .any, .any, .rs (σ.length + 5) 1 0 2 (some 28), dn 2, dn j, .any, .any, .any, .any, .any, .any, .any, .any, .any, .any, .any, .any, .any, .any, .any, .any, .any, .any, .any, .any, .any, .any, .any, .any, .any, .any, .any, .any, .any, .any, .any, .any, .any, .any] ∧ st = σ ++ [some (.cells (cndC h g)), some (.cells [di 0]), some (.cells [.d .nils]), some (.cells [.d .nils]), some (.cells [di 0]), some (.cells (LL.map fun l => A.d (isD l)))]) 2 _ (Wk.mask [0, 3, 4, 5, 6, 7, 10, 11, 12, 47, 48, 49] ⟨0, by omega, rfl, rfl, by rw [hLx]⟩) ?_
    rintro m fr st ⟨j, hj, hm, rfl, rfl⟩
    rcases Nat.lt_or_ge j 2 with hlt | hge
    · have hdd : decide ((j : Int) < ((2 : Nat) : Int)) = true := by simp only [decide_eq_true_eq]; omega
      have w2 := wrapS j (by omega)
      have hts : ((LL.take (j + 1)).map fun l => offs ws l l.length).sum = ((LL.take j).map fun l => offs ws l l.length).sum + offs ws (LL.getD j []) (LL.getD j []).length := by
        rw [take_snoc [] (by omega), List.map_append, List.sum_append]; simp
      have hS : ((LL.take j).map fun l => offs ws l l.length).sum ≤ 12 := by
        have e : j = 0 ∨ j = 1 := by omega
        have := olo lo.length
        rcases e with rfl | rfl <;> rw [← hLL] <;> simp <;> omega
      have q0 := hLat j hlt
      obtain ⟨m1, m2, m3⟩ := hLLm _ (getD_mem [] (by omega : j < LL.length))
      generalize LL.getD j [] = l at *
      generalize ((LL.take j).map fun l => offs ws l l.length).sum = S at *
      simp only [go_sem, hdd, q0, hLLl, List.length_map, Int.toNat_natCast, Nat.mul_one, Nat.zero_add, Tryz.results48]
      refine ⟨⟨by omega, by omega⟩, by omega, ?_⟩
      refine aw_loop (fun m fr st => ∃ i : Nat, i ≤ l.length ∧ m = l.length - i ∧ fr = [.d (celsD cells), .any, .any, .ref σ.length 0, .ref (σ.length + 1) 0, .ref (σ.length + 2) 0, .ref (σ.length + 3) 0, .ref (σ.length + 4) 0, .any, .any, .d (isD lo), .d (isD ln), dn (S + offs ws l i), .any, .any, .any, .any, .any, .any, .any, .any, .any, .any, .any, .any, .any, .any, .any, .any, .any, .any, .any, .any, .any, .any, .any, .any, .any, .any, .any, .any, .any, .any, .any, .any, .any, .any, .rs (σ.length + 5) 1 0 2 (some 28), dn 2, dn j, .any, .any, .any, .d (.sl 1 (l.map iD)), dn l.length, dn i, .any, .any, .any, .any, .any, .any, .any, .any, .any, .any, .any, .any, .any, .any, .any, .any, .any, .any, .any, .any, .any, .any, .any, .any, .any, .any, .any, .any] ∧ st = σ ++ [some (.cells (cndC h g)), some (.cells [di 0]), some (.cells [.d .nils]), some (.cells [.d .nils]), some (.cells [di 0]), some (.cells (LL.map fun l => A.d (isD l)))]) l.length _ (Wk.mask [0, 3, 4, 5, 6, 7, 10, 11, 12, 47, 48, 49, 53, 54, 55] ⟨0, by omega, rfl, by simp [offs]; rfl, rfl⟩) ?_
      rintro m fr st ⟨i, hi, hmi, rfl, rfl⟩
      rcases Nat.lt_or_ge i l.length with hlti | hgei
      · have hdi : decide ((i : Int) < (l.length : Int)) = true := by simp only [decide_eq_true_eq]; omega
        have w3 := wrapS i (by omega)
        have q1 := getD_isD hlti
        have hof := offs_succ (ws := ws) hlti
        have hbx := m1 _ (getD_mem 0 hlti)
        obtain ⟨cn, hcn⟩ : ∃ cn : Nat, l.getD i 0 = cn := ⟨(l.getD i 0).toNat, by omega⟩
        rw [hcn] at q1 hof hbx
        simp only [Int.toNat_natCast] at hof
        have e1 := celD_at (l := cells) (j := cn) (by omega)
        simp only [celD, hcw cn (by omega)] at e1
        have m3i := m3 (i + 1)
        have w1 : IntKind.i64.wrap (((S + offs ws l i : Nat) : Int) + ((ws.getD cn 0 : Nat) : Int)) = ((S + offs ws l (i + 1) : Nat) : Int) := by rw [hof, wrap64_id _ (by omega) (by omega)]; omega
        simp only [celsD, go_sem, hdi, q1, e1, w1, w3, List.length_map, Int.toNat_natCast, Tryz.results48]
        exact ⟨⟨by omega, by omega⟩, ⟨by omega, by omega⟩, Wk.mask [0, 3, 4, 5, 6, 7, 10, 11, 12, 47, 48, 49, 53, 54, 55] ⟨l.length - (i + 1), by omega, i + 1, by omega, rfl, rfl, rfl⟩⟩
      · have hdi : decide ((i : Int) < (l.length : Int)) = false := by simp only [decide_eq_false_iff_not]; omega
        obtain rfl : i = l.length := by omega
        simp only [go_sem, hdi, w2, Tryz.results48]
        exact Wk.mask [0, 3, 4, 5, 6, 7, 10, 11, 12, 47, 48, 49] ⟨2 - (j + 1), by omega, j + 1, by omega, rfl, by rw [hts]; rfl, rfl⟩
    · have hdd : decide ((j : Int) < ((2 : Nat) : Int)) = false := by simp only [decide_eq_false_iff_not]; omega
      have hta : LL.take j = LL := List.take_of_length_le (by omega)
      rw [hta, hbe]
      simp only [go_sem, hdd, Tryz.results48]
      refine Wk.keep [0, 3, 4, 5, 6, 7, 10, 11, 12] [0, 1, 2, 3, 4] (by decide) (Nat.le_refl _) hbd ⟨?_, ?_⟩
      · simp only [go_sem, isD]
      · simp only [go_sem, cndC]
  rintro fr st ⟨rfl, rfl⟩
  have d14 : decide (14 < (bits : Int)) = false := by simp only [decide_eq_false_iff_not]; omega
  refine aw_cut (fun fr st => fr = [.d (celsD cells), .any, .any, .ref σ.length 0, .ref (σ.length + 1) 0, .ref (σ.length + 2) 0, .ref (σ.length + 3) 0, .ref (σ.length + 4) 0, .any, .any, .d (isD lo), .d (isD ln), dn bits, .any, .any, .any, .any, .any, .any, .any, .any, .any, .any, .any, .any, .any, .any, .any, .any, .any, .any, .any, .any, .any, .any, .any, .any, .any, .any, .any, .any, .any, .any, .any, .any, .any, .any, .any, .any, .any, .any, .any, .any, .any, .any, .any, .any, .any, .any, .any, .any, .any, .any, .any, .any, .any, .any, .any, .any, .any, .any, .any, .any, .any, .any, .any, .any, .any, .any, .any, .any, .any, .any, .any] ∧ st = σ ++ [some (.cells (cndC h g)), some (.cells [di 0]), some (.cells [.d .nils]), some (.cells [.d .nils]), some (.cells [di 0])]) ?_ ?_
  · simp only [go_sem, d14, Tryz.results48]
    exact Wk.mask [0, 3, 4, 5, 6, 7, 10, 11, 12] ⟨rfl, rfl⟩
  rintro fr st ⟨rfl, rfl⟩
  simp only [go_sem, Tryz.results48]
  refine aw_cut (fun fr st => Holds ws cells.length lo ln bits h g ∧ fr = [.any, .any, .any, .any, .ref (σ.length + 1) 0, .ref (σ.length + 2) 0, .ref (σ.length + 3) 0, .ref (σ.length + 4) 0, .any, .any, .any, .any, .any, .any, .any, .any, .any, .any, .any, .any, .any, .any, .any, .any, .any, .any, .any, .any, .any, .any, .any, .any, .any, .any, .any, .any, .any, .any, .any, .any, .any, .any, .any, .any, .any, .any, .any, .any, .any, .any, .any, .any, .any, .any, .any, .any, .any, .any, .any, .any, .any, .any, .any, .any, .any, .any, .any, .any, .any, .any, .any, .any, .any, .any, .any, .any, .any, .any, .any, .any, .any, .any, .any, .any] ∧ (∀ k, k < σ.length → st[k]? = σ[k]?) ∧ st[σ.length + 1]? = some (some (.cells [di 0])) ∧ st[σ.length + 2]? = some (some (.cells [.d .nils])) ∧ st[σ.length + 3]? = some (some (.cells [.d .nils])) ∧ st[σ.length + 4]? = some (some (.cells [di 0]))) ?_ ?_
  · simp only [go_sem, Tryz.results48]
    refine ac' (dpairs_ac cells lo ln bits _ _ _ ?_)
    simp only [go_sem, Tryz.results48]
    obtain ⟨fr0, hfr0⟩ : ∃ fr0 : Fr, fr0 = [.any, .any, .any, .any, .ref (σ.length + 1) 0, .ref (σ.length + 2) 0, .ref (σ.length + 3) 0, .ref (σ.length + 4) 0, .any, .any, .any, .any, .any, .any, .any, .any, .any, .ref (σ.length + 5) 0, .any, .any, .any, .any, .any, .any, .any, .any, .any, .any, .any, .any, .any, .any, .any, .any, .any, .any, .any, .any, .any, .any, .any, .any, .any, .any, .any, .any, .any, .any, .any, .any, .any, .any, .any, .any, .any, .any, .any, .any, .any, .any, .any, .any, .any, .any, .any, .any, .any, .any, .any, .any, .any, .any, .any, .any, .any, .fn (.func 94) [] [.ref (σ.length + 6) 0, .ref (σ.length + 9) 0, .ref (σ.length + 7) 0, .ref (σ.length + 8) 0], .any, .any, .any, .any, .any, .any, .any, .any] := ⟨_, rfl⟩
    refine aw_range hp ⟨fr0, _, by rw [hfr0]; exact Weak.mask [4, 5, 6, 7, 17, 75], by rw [hfr0]; simp [bdL, A.bd], 94, [], [.ref (σ.length + 6) 0, .ref (σ.length + 9) 0, .ref (σ.length + 7) 0, .ref (σ.length + 8) 0], by rw [hfr0]; rfl, fun l r hY => ?_⟩
    simp only [List.length_cons, List.length_nil, List.cons_append, List.nil_append, Nat.reduceAdd, List.append_assoc, List.length_append] at hY ⊢
    refine dpairs1_ac cells ws hws hk hwl hW.ok lo ln s3.nd s2.nd blo bln bits hb14 (ic := σ.length + 6) (il := σ.length + 9) (io := σ.length + 7) (in_ := σ.length + 8) (fun st => ∃ ib ia B F, B.length = cells.length ∧ F.length = cells.length ∧ (∀ k, k < σ.length → st[k]? = σ[k]?) ∧ st[σ.length + 1]? = some (some (.cells [di 2])) ∧ st[σ.length + 2]? = some (some (.cells [.rs ib 1 0 cells.length (some 3)])) ∧ st[σ.length + 3]? = some (some (.cells [.rs ia 1 0 cells.length (some 3)])) ∧ st[σ.length + 4]? = some (some (.cells [di 0])) ∧ σ.length + 10 < ib ∧ σ.length + 10 < ia ∧ ib ≠ ia ∧ st[ib]? = some (some (intsC B)) ∧ st[ia]? = some (some (intsC F)) ∧ st[σ.length + 10]? = some (some (.lp l { r with state := .done, pending := some .ret } fr0))) (badE h g) _ (by simp) (by simp) (by simp) (by simp) G (fun n B F ib ia st hn hGn hold hib hia hne qib qia => ?_) _ (fun hH r' st hold => ?_) (fun hFl r' st hX => ?_)
    · simp only [List.length_append, List.length_cons, List.length_nil, Nat.reduceAdd] at hib hia hold
      have lB := hGn.b.len
      have lF := hGn.a.len
      have olp : st[σ.length + 10]? = some (some (.lp l r fr0)) := by rw [hold _ (by omega)]; simp
      have ocl : st[σ.length + 5]? = some (some (.cells [.fn (.func 75) [] [.ref σ.length 0]])) := by rw [hold _ (by omega)]; simp
      have ocn : st[σ.length]? = some (some (.cells (cndC h g))) := by rw [hold _ (by omega)]; simp
      have o1 : st[σ.length + 1]? = some (some (.cells [di 0])) := by rw [hold _ (by omega)]; simp
      have o2 : st[σ.length + 2]? = some (some (.cells [.d .nils])) := by rw [hold _ (by omega)]; simp
      have o3 : st[σ.length + 3]? = some (some (.cells [.d .nils])) := by rw [hold _ (by omega)]; simp
      have o4 : st[σ.length + 4]? = some (some (.cells [di 0])) := by rw [hold _ (by omega)]; simp
      have oσ : ∀ k, k < σ.length → st[k]? = σ[k]? := fun k hk => by rw [hold k (by omega)]; exact List.getElem?_append_left hk
      have ll := lt_of_some olp
      have lib := lt_of_some qib
      have lia := lt_of_some qia
      refine hY _ _ _ ⟨olp, rfl, ?_⟩
      have hset : setPs fr0 [76, 77] [.rs ib 1 0 cells.length (some 3), .rs ia 1 0 cells.length (some 3)] = [.any, .any, .any, .any, .ref (σ.length + 1) 0, .ref (σ.length + 2) 0, .ref (σ.length + 3) 0, .ref (σ.length + 4) 0, .any, .any, .any, .any, .any, .any, .any, .any, .any, .ref (σ.length + 5) 0, .any, .any, .any, .any, .any, .any, .any, .any, .any, .any, .any, .any, .any, .any, .any, .any, .any, .any, .any, .any, .any, .any, .any, .any, .any, .any, .any, .any, .any, .any, .any, .any, .any, .any, .any, .any, .any, .any, .any, .any, .any, .any, .any, .any, .any, .any, .any, .any, .any, .any, .any, .any, .any, .any, .any, .any, .any, .fn (.func 94) [] [.ref (σ.length + 6) 0, .ref (σ.length + 9) 0, .ref (σ.length + 7) 0, .ref (σ.length + 8) 0], .rs ib 1 0 cells.length (some 3), .rs ia 1 0 cells.length (some 3), .any, .any, .any, .any, .any, .any] := by rw [hfr0]; rfl
      rw [hset]
      simp only [go_sem, live_of qib, live_of qia]
      refine ⟨olp, ?_⟩
      obtain ⟨u, hu⟩ : ∃ u, st.set (σ.length + 10) (some (.lp l { r with state := .busy } fr0)) = u := ⟨_, rfl⟩
      rw [hu]
      have gu : ∀ k, k ≠ σ.length + 10 → u[k]? = st[k]? := fun k hk => by rw [← hu, List.getElem?_set_ne (Ne.symm hk)]
      have lu : u.length = st.length := by rw [← hu, List.length_set]
      have ucl := (gu (σ.length + 5) (by omega)).trans ocl
      have ucn := (gu σ.length (by omega)).trans ocn
      have u1 := (gu (σ.length + 1) (by omega)).trans o1
      have u2 := (gu (σ.length + 2) (by omega)).trans o2
      have u3 := (gu (σ.length + 3) (by omega)).trans o3
      have u4 := (gu (σ.length + 4) (by omega)).trans o4
      have uib := (gu ib (by omega)).trans qib
      have uia := (gu ia (by omega)).trans qia
      have ulp : u[σ.length + 10]? = some (some (.lp l { r with state := .busy } fr0)) := by rw [← hu]; exact set_same olp
      simp only [go_sem, live_of ucl, objK_of ucl, live_of uib, live_of uia, Tryz.results48]
      have D1 : decide (σ.length + 1 < u.length) = true := by rw [decide_eq_true_eq]; omega
      have D2 : decide (σ.length + 2 < u.length) = true := by rw [decide_eq_true_eq]; omega
      have D3 : decide (σ.length + 3 < u.length) = true := by rw [decide_eq_true_eq]; omega
      have D4 : decide (σ.length + 4 < u.length) = true := by rw [decide_eq_true_eq]; omega
      refine ac' (falsif_ac cells h g hh hg B F lB lF hk _ ucn uib uia G hG _ (fun hb => ?_) (fun hb => ?_))
      · simp only [go_sem, live_of uib, live_of uia, live_of u1, objK_of u1, objK_of u2, objK_of u3, objK_of u4, objK_sets, objK_setn, Nat.reduceBEq, List.length_set, D1, D2, D3, D4, List.drop_succ_cons, List.drop_zero, Tryz.results48]
        refine ⟨live_of (o := intsC B) (by rw [List.getElem?_set_ne (by omega)]; exact uib), live_of (o := intsC F) (by rw [List.getElem?_set_ne (by omega), List.getElem?_set_ne (by omega)]; exact uia), ?_⟩
        refine ⟨_, Weak.refl _ _ _ _, ?_, .inr ⟨rfl, ⟨ib, ia, B, F, lB, lF, fun k hk => ?_, ?_, ?_, ?_, ?_, by omega, by omega, hne, ?_, ?_, ?_⟩, hb⟩⟩
        · rw [List.getElem?_set_ne (by omega), List.getElem?_set_ne (by omega), List.getElem?_set_ne (by omega), List.getElem?_set_ne (by omega)]; exact ulp
        · rw [List.getElem?_set_ne (by omega), List.getElem?_set_ne (by omega), List.getElem?_set_ne (by omega), List.getElem?_set_ne (by omega), List.getElem?_set_ne (by omega), gu k (by omega)]; exact oσ k hk
        · rw [List.getElem?_set_ne (by omega), List.getElem?_set_ne (by omega), List.getElem?_set_ne (by omega), List.getElem?_set_ne (by omega), List.getElem?_set_self (by omega)]
        · rw [List.getElem?_set_ne (by omega), List.getElem?_set_ne (by omega), List.getElem?_set_ne (by omega), List.getElem?_set_self (by simp only [List.length_set]; omega)]
        · rw [List.getElem?_set_ne (by omega), List.getElem?_set_ne (by omega), List.getElem?_set_self (by simp only [List.length_set]; omega)]
        · rw [List.getElem?_set_ne (by omega), List.getElem?_set_self (by simp only [List.length_set]; omega)]
        · rw [List.getElem?_set_ne (by omega), List.getElem?_set_ne (by omega), List.getElem?_set_ne (by omega), List.getElem?_set_ne (by omega), List.getElem?_set_ne (by omega)]; exact uib
        · rw [List.getElem?_set_ne (by omega), List.getElem?_set_ne (by omega), List.getElem?_set_ne (by omega), List.getElem?_set_ne (by omega), List.getElem?_set_ne (by omega)]; exact uia
        · rw [List.getElem?_set_self (by simp only [List.length_set]; omega)]
      · simp only [go_sem, Tryz.results48]
        refine ⟨_, Weak.refl _ _ _ _, ulp, .inl ⟨rfl, fun k hk => ?_, hb⟩⟩
        by_cases hk2 : k = σ.length + 10
        · subst hk2
          rw [List.getElem?_set_self (by omega)]; exact olp.symm
        · rw [List.getElem?_set_ne (Ne.symm hk2)]; exact gu k hk2
    · simp only [List.length_append, List.length_cons, List.length_nil, Nat.reduceAdd] at hold
      have olp : st[σ.length + 10]? = some (some (.lp l r fr0)) := by rw [hold _ (by omega)]; simp
      refine .inl ⟨olp, _, _, Weak.refl _ _ _ _, ?_⟩
      simp only [go_sem]
      refine Wk.mask [4, 5, 6, 7] ⟨hH, by rw [hfr0]; rfl, fun k hk => ?_, ?_, ?_, ?_, ?_⟩
      · rw [List.getElem?_set_ne (by omega), hold k (by omega)]; exact List.getElem?_append_left hk
      all_goals rw [List.getElem?_set_ne (by omega), hold _ (by omega)]; simp
    · obtain ⟨ib, ia, B, F, lB, lF, oσ, o1, o2, o3, o4, hib, hia, hne, qib, qia, olp⟩ := hX
      refine .inr (.inl ⟨olp, fr0, _, Weak.refl _ _ _ _, ?_⟩)
      obtain ⟨u, hu⟩ : ∃ u, st.set (σ.length + 10) none = u := ⟨_, rfl⟩
      rw [hu]
      have gu : ∀ k, k ≠ σ.length + 10 → u[k]? = st[k]? := fun k hk => by rw [← hu, List.getElem?_set_ne (Ne.symm hk)]
      have u1 := (gu (σ.length + 1) (by omega)).trans o1
      have u2 := (gu (σ.length + 2) (by omega)).trans o2
      have u3 := (gu (σ.length + 3) (by omega)).trans o3
      have u4 := (gu (σ.length + 4) (by omega)).trans o4
      have uib := (gu ib (by omega)).trans qib
      have uia := (gu ia (by omega)).trans qia
      rw [hfr0]
      simp only [go_sem, live_of u1, objK_of u1, live_of u2, objK_of u2, live_of u3, objK_of u3, live_of u4, objK_of u4, live_of uib, live_of uia, Tryz.results48]
      have z1 := Weak.freeze (G := G) (n0 := σ.length) (fr := [A.tup [di 2, A.rs ib 1 0 cells.length (some 3), A.rs ia 1 0 cells.length (some 3), di 0]]) ib 1 0 (B.map iD) uib (lies_ints B)
      refine ret_via z1 ?_
      have z2 := Weak.freeze (G := G) (n0 := σ.length) (fr := [A.tup [di 2, .d (isD B), A.rs ia 1 0 cells.length (some 3), di 0]]) (σ := u.set ib none) ia 1 0 (F.map iD) (by rw [List.getElem?_set_ne hne]; exact uia) (lies_ints F)
      have e1 : frzL ib 1 0 (B.map iD) [A.tup [di 2, A.rs ib 1 0 cells.length (some 3), A.rs ia 1 0 cells.length (some 3), di 0]] = [A.tup [di 2, .d (isD B), A.rs ia 1 0 cells.length (some 3), di 0]] := by
        simp only [frzL, A.frz, List.length_map, lB]
        simp [isD, Ne.symm hne]
      have e2 : frzL ia 1 0 (F.map iD) [A.tup [di 2, .d (isD B), A.rs ia 1 0 cells.length (some 3), di 0]] = [A.tup [di 2, .d (isD B), .d (isD F), di 0]] := by
        simp only [frzL, A.frz, List.length_map, lF]
        simp [isD]
      rw [e1]
      refine ret_via z2 ?_
      rw [e2]
      refine ret_pre hbd rfl ?_ (fun k hk => ?_) (h2 lo ln s3 s2 (by rw [hbits]; exact hFl) _ _)
      · have := lt_of_some u4
        simp only [List.length_set]; omega
      · rw [List.getElem?_set_ne (by omega), List.getElem?_set_ne (by omega), gu k (by omega)]; exact oσ k hk
  · rintro fr st ⟨hH, rfl, hold, q1, q2, q3, q4⟩
    have l4 := lt_of_some q4
    have D1 : decide (σ.length + 1 < st.length) = true := by rw [decide_eq_true_eq]; omega
    have D2 : decide (σ.length + 2 < st.length) = true := by rw [decide_eq_true_eq]; omega
    have D3 : decide (σ.length + 3 < st.length) = true := by rw [decide_eq_true_eq]; omega
    have D4 : decide (σ.length + 4 < st.length) = true := by rw [decide_eq_true_eq]; omega
    simp only [go_sem, live_of q1, objK_of q1, objK_of q2, objK_of q3, objK_of q4, objK_sets, objK_setn, Nat.reduceBEq, List.length_set, D1, D2, D3, D4, List.drop_succ_cons, List.drop_zero, Tryz.results48]
    exact ret_pre hbd rfl (by simp; omega) (fun k hk => by rw [List.getElem?_set_ne (by omega), List.getElem?_set_ne (by omega), List.getElem?_set_ne (by omega), List.getElem?_set_ne (by omega)]; exact hold k hk) (h1 lo ln s3 s2 (by rw [hbits]; exact hH) _ _)
end Go.Proofs.YtmjlhbkgljcnoaaGreatDoor
end PartT24

section PartT25
/- Runs of values: what the iterator yields, collected. -/
set_option linter.unusedSimpArgs false
set_option linter.unusedVariables false
set_option maxRecDepth 100000
namespace Go.Proofs.YtmjlhbkgljcnoaaGreatDoor
open Go Go.Ab

def rnD (r : Nat × List Nat) : D := .agg [iD (r.1 : Nat), isD (nL r.2)]
/-- What is left of a list when the values below v are gone; what is left of the part of v. -/
structure Pt (low v : Nat) (l acc rest : List Nat) : Prop where
  part : acc ++ partOf low rest v = partOf low l v
  more : rest.filter (fun n => decide (v < n / 2 ^ low)) = l.filter (fun n => decide (v < n / 2 ^ low))
  ge : ∀ n ∈ rest, v ≤ n / 2 ^ low
  sub : ∀ n ∈ rest, n ∈ l
  pair : rest.Pairwise (· < ·)
  len : acc.length + rest.length ≤ l.length
theorem Pt.pop {low v : Nat} {l acc rest : List Nat} {n : Nat} (h : Pt low v l acc (n :: rest)) (hn : n / 2 ^ low = v) : Pt low v l (acc ++ [n % 2 ^ low]) rest where
  part := by
    rw [← h.part, List.append_assoc]
    congr 1
    unfold partOf
    rw [List.filter_cons]
    simp [hn]
  more := by
    rw [← h.more, List.filter_cons]
    simp [hn]
  ge := fun m hm => h.ge m (List.mem_cons_of_mem _ hm)
  sub := fun m hm => h.sub m (List.mem_cons_of_mem _ hm)
  pair := (List.pairwise_cons.1 h.pair).2
  len := by have := h.len; rw [List.length_append, List.length_cons, List.length_nil]; rw [List.length_cons] at this; omega
theorem Pt.stop {low v : Nat} {l acc rest : List Nat} (h : Pt low v l acc rest) (hn : ∀ n r, rest = n :: r → n / 2 ^ low ≠ v) : acc = partOf low l v ∧ (∀ n ∈ rest, v + 1 ≤ n / 2 ^ low) := by
  have hge : ∀ n ∈ rest, v + 1 ≤ n / 2 ^ low := by
    cases rest with
    | nil => intro n hn; cases hn
    | cons a r =>
      intro n hm
      have h1 := h.ge a (by simp)
      have h2 := hn a r rfl
      rcases List.mem_cons.1 hm with rfl | hm
      · omega
      · have := (List.pairwise_cons.1 h.pair).1 n hm
        have := Nat.div_le_div_right (c := 2 ^ low) (Nat.le_of_lt this)
        omega
  refine ⟨?_, hge⟩
  have hp : partOf low rest v = [] := by
    unfold partOf
    rw [List.map_eq_nil_iff, List.filter_eq_nil_iff]
    intro n hm
    have := hge n hm
    simp; omega
  have := h.part
  rw [hp, List.append_nil] at this
  exact this
theorem Pt.next {low v : Nat} {l rest acc : List Nat} (h : Pt low v l acc rest) (hge : ∀ n ∈ rest, v + 1 ≤ n / 2 ^ low) : Pt low (v + 1) l [] rest := by
  have hr : rest = l.filter (fun n => decide (v < n / 2 ^ low)) := by
    rw [← h.more]
    exact (List.filter_eq_self.2 fun n hn => by have := hge n hn; simp; omega).symm
  have ff : ∀ p : Nat → Bool, (∀ n, p n = true → v < n / 2 ^ low) → rest.filter p = l.filter p := fun p hp => by
    rw [hr, List.filter_filter]
    apply List.filter_congr
    intro n _
    cases hq : p n
    · simp
    · have := hp n hq; simp [this]
  refine ⟨?_, ?_, hge, h.sub, h.pair, by have := h.len; simp; omega⟩
  · rw [List.nil_append]
    unfold partOf
    rw [ff _ fun n hn => by rw [beq_iff_eq] at hn; omega]
  · exact ff _ fun n hn => by rw [decide_eq_true_eq] at hn; omega
theorem Pt.start {low : Nat} {l : List Nat} (hp : l.Pairwise (· < ·)) : Pt low 0 l [] l := ⟨rfl, rfl, fun _ _ => Nat.zero_le _, fun _ h => h, hp, by simp⟩
theorem bin_nilp (P : Program) (k : Prop → A → Prop) (ik : IntKind) (n : Int) : rdBin P .shr 3 k (.d .nilp) (.d (.int ik n)) = k False .any := rfl
theorem cmp_any (P : Program) (k : Prop → A → Prop) (d : D) : rdCmp P .eql 3 k .any (.d d) = k False .any := rfl
theorem nil_at0 : ([] : List D).getD (Int.toNat 0) default = .nilp := rfl
set_option maxHeartbeats 16000000 in
theorem runs1_ac (low w : Nat) (hlw : low + w ≤ 12) (l : List Nat) (hl : l.length ≤ 4096) (hp : l.Pairwise (· < ·)) (hb : ∀ n ∈ l, n < 4096) {iw iin il y : Nat} (σ : St) (I : List (Nat × List Nat) → St → Prop) (G : Glob)
    (h0 : ∀ st, (∀ k, k < σ.length → k ≠ iin → st[k]? = σ[k]?) → I [] st) (hin : σ[iin]? = some (some (.cells [.d (isD (nL l))])))
    (hI : ∀ acc st, I acc st → st[iw]? = some (some (.cells [dn w])) ∧ st[il]? = some (some (.cells [dn low])))
    (hP : ∀ acc st st', I acc st → (∀ k, k < st.length → k ≠ σ.length → k ≠ iin → st'[k]? = st[k]?) → st.length ≤ st'.length → I acc st')
    (hne : iw ≠ iin ∧ il ≠ iin) (hlw2 : iw < σ.length ∧ il < σ.length)
    (hY : ∀ acc x st, σ.length < st.length → acc.length ≤ 4096 → I acc st → YC Tryz.prog G y [.d (rnD x)] st fun r st' => r = db true ∧ I (acc ++ [x]) st' ∧ st'[σ.length]? = st[σ.length]? ∧ st'[iin]? = st[iin]? ∧ st.length ≤ st'.length)
    (R : A → St → Prop) (h : ∀ r st, I (runsOf low w l) st → R r st) : AC Tryz.prog G 92 [.fn (.yield y) [] [], .ref iw 0, .ref iin 0, .ref il 0] σ R := by
  have liin := lt_of_some hin
  have i0 := hI _ _ (h0 σ fun k hk hn => rfl)
  have hwp : 2 ^ w ≤ 4096 := pow12 (by omega)
  have v1 : bShl 1 (w : Int) = ((2 ^ w : Nat) : Int) := bShl_one (by omega)
  obtain ⟨N, hN⟩ : ∃ N, 2 ^ w = N := ⟨_, rfl⟩
  rw [hN] at hwp v1
  have hN0 : 0 < N := by rw [← hN]; exact pow_pos2 w
  obtain ⟨ps, hps⟩ : ∃ ps, ps = (List.range (N - 1)).map fun i => partOf low l (i + 1) := ⟨_, rfl⟩
  have hrun : runsOf low w l = grp 0 (partOf low l 0) ps := by rw [hps, ← hN]; rfl
  have hpsl : ps.length = N - 1 := by rw [hps]; simp
  have hpsat : ∀ i, i < N - 1 → ps.getD i [] = partOf low l (i + 1) := fun i hi => by
    rw [hps, List.getD_eq_getElem?_getD, List.getElem?_map, List.getElem?_range hi]; rfl
  have hrl : (runsOf low w l).length ≤ 4096 := Nat.le_trans runs_len (by omega)
  refine ac_enterC' [8, 12] mixed Tryz.func92 rfl Tryz.ntmps92 (by simp only [go_sem]) fun hbd => ?_
  simp only [List.length_cons, List.length_nil, Nat.reduceAdd, Nat.reduceSub, List.replicate_succ, List.replicate_zero, List.cons_append, List.nil_append]
  simp only [go_sem, live_old i0.1, objK_old i0.1, v1, Tryz.results92]
  refine aw_cut (fun fr st => ∃ acc, fr = [.fn (.yield y) [] [], .any, .any, .any, .any, .ref σ.length 0, .any, .any, .any, .any, .any, .any, .any, .any, .any, .any, .any, .any, .any, .any, .any, .any, .any, .any, .any, .any, .any, .any, .any, .any, .any, .any, .any, .any, .any, .any, .any, .any, .any, .any, .any, .any, .any, .any, .any, .any, .any, .any, .any, .any, .any, .any, .any, .any, .any, .any, .any] ∧ I acc st ∧ st[σ.length]? = some (some (.cells [dn (N - 1), .d (isD (nL (partOf low l (N - 1))))])) ∧ acc ++ [(N - 1, partOf low l (N - 1))] = runsOf low w l) ?_ ?_
  · simp only [go_sem, live_old i0.1, objK_old i0.1, v1, Tryz.results92]
    refine ⟨by omega, aw_loop (fun m fr st => ∃ (v : Nat) (acc : List (Nat × List Nat)) (rest : List Nat), v ≤ N ∧ m = N - v ∧ fr = [.fn (.yield y) [] [], .ref iw 0, .ref iin 0, .ref il 0, .any, .ref σ.length 0, .any, .any, .any, dn N, dn v, .any, .any, .any, .any, .any, .any, .any, .any, .any, .any, .any, .any, .any, .any, .any, .any, .any, .any, .any, .any, .any, .any, .any, .any, .any, .any, .any, .any, .any, .any, .any, .any, .any, .any, .any, .any, .any, .any, .any, .any, .any, .any, .any, .any, .any, .any] ∧ I acc st ∧ st[iin]? = some (some (.cells [.d (isD (nL rest))])) ∧ Pt low v l [] rest ∧ σ.length < st.length ∧ (v = 0 → acc = [] ∧ st[σ.length]? = some (some (.cells [di 0, .d .nils]))) ∧ (0 < v → st[σ.length]? = some (some (.cells [dn (v - 1), .d (isD (nL (partOf low l (v - 1))))])) ∧ acc ++ grp (v - 1) (partOf low l (v - 1)) (ps.drop (v - 1)) = runsOf low w l)) N _ (Wk.mask [0, 1, 2, 3, 5, 9, 10] ⟨0, [], l, by omega, rfl, rfl, h0 _ fun k hk hn => List.getElem?_append_left hk, by rw [List.getElem?_append_left liin]; exact hin, Pt.start hp, by simp, fun _ => ⟨rfl, by simp⟩, fun h => absurd h (by omega)⟩) ?_⟩
    rintro m fr st0 ⟨v, acc, rest, hv, hm, rfl, hIa, hrin, hPt, hlen, hv0, hvp⟩
    rcases Nat.lt_or_ge v N with hlt | hge
    · have hd : decide ((v : Int) < (N : Int)) = true := by simp only [decide_eq_true_eq]; omega
      have w2 := wrapS v (by omega)
      obtain ⟨c1, c2⟩ := hI _ _ hIa
      obtain ⟨cur, hcur⟩ : ∃ cur, st0[σ.length]? = some (some (.cells cur)) := by
        by_cases e : v = 0
        · exact ⟨_, (hv0 e).2⟩
        · exact ⟨_, (hvp (by omega)).1⟩
      simp only [go_sem, hd, Tryz.results92]
      refine aw_cut (fun fr st => ∃ rest', fr = [.fn (.yield y) [] [], .ref iw 0, .ref iin 0, .ref il 0, .any, .ref σ.length 0, dn v, .d (isD (nL (partOf low l v))), .any, dn N, dn v, .any, .any, .any, .any, .any, .any, .any, .any, .any, .any, .any, .any, .any, .any, .any, .any, .any, .any, .any, .any, .any, .any, .any, .any, .any, .any, .any, .any, .any, .any, .any, .any, .any, .any, .any, .any, .any, .any, .any, .any, .any, .any, .any, .any, .any, .any] ∧ (∀ k, k < st0.length → k ≠ iin → st[k]? = st0[k]?) ∧ st0.length ≤ st.length ∧ st[iin]? = some (some (.cells [.d (isD (nL rest'))])) ∧ Pt low (v + 1) l [] rest') ?_ ?_
      · simp only [go_sem, Tryz.results92]
        refine aw_loop (fun m fr st => ∃ (pt rest : List Nat) (ip : Nat), m = rest.length ∧ fr = [.fn (.yield y) [] [], .ref iw 0, .ref iin 0, .ref il 0, .any, .ref σ.length 0, dn v, .rs ip 1 0 pt.length (some 3), .any, dn N, dn v, .any, .any, .any, .any, .any, .any, .any, .any, .any, .any, .any, .any, .any, .any, .any, .any, .any, .any, .any, .any, .any, .any, .any, .any, .any, .any, .any, .any, .any, .any, .any, .any, .any, .any, .any, .any, .any, .any, .any, .any, .any, .any, .any, .any, .any, .any] ∧ (∀ k, k < st0.length → k ≠ iin → st[k]? = st0[k]?) ∧ st0.length ≤ ip ∧ st[ip]? = some (some (intsC (nL pt))) ∧ st[iin]? = some (some (.cells [.d (isD (nL rest))])) ∧ Pt low v l pt rest) rest.length _ ?_ ?_
        · refine ⟨_, _, (Weak.mask [0, 1, 2, 3, 5, 6, 7, 9, 10]).trans (Weak.empty 7 1 (some 3) rfl), [], rest, st0.length, rfl, rfl, fun k hk hn => List.getElem?_append_left hk, Nat.le_refl _, by simp [intsC, nL], ?_, hPt⟩
          rw [List.getElem?_append_left (lt_of_some hrin)]; exact hrin
        rintro m fr st ⟨pt, rest, ip, hm, rfl, hold, hip, hpt, hri, hP1⟩
        have k1 : st[iw]? = some (some (.cells [dn w])) := by rw [hold iw (by omega) hne.1]; exact c1
        have k2 : st[il]? = some (some (.cells [dn low])) := by rw [hold il (by omega) hne.2]; exact c2
        have lri := lt_of_some hri
        have lpt := lt_of_some hpt
        have hst0 : st0.length ≤ st.length := by omega
        have vlow : bShl 1 (low : Int) = ((2 ^ low : Nat) : Int) := bShl_one (by omega)
        have hplow := pow12 (n := low) (by omega)
        have hp1 := pow_pos2 low
        have v3 : IntKind.i64.wrap (((2 ^ low : Nat) : Int) - 1) = ((2 ^ low : Nat) : Int) - 1 := wrap64_id _ (by omega) (by omega)
        have fin : (∀ n r, rest = n :: r → n / 2 ^ low ≠ v) → ∀ fr', fr' = [.fn (.yield y) [] [], .ref iw 0, .ref iin 0, .ref il 0, .any, .ref σ.length 0, dn v, .rs ip 1 0 pt.length (some 3), .any, dn N, dn v, .any, .any, .any, .any, .any, .any, .any, .any, .any, .any, .any, .any, .any, .any, .any, .any, .any, .any, .any, .any, .any, .any, .any, .any, .any, .any, .any, .any, .any, .any, .any, .any, .any, .any, .any, .any, .any, .any, .any, .any, .any, .any, .any, .any, .any, .any] →
            Wk G σ.length (fun fr st => ∃ rest', fr = [.fn (.yield y) [] [], .ref iw 0, .ref iin 0, .ref il 0, .any, .ref σ.length 0, dn v, .d (isD (nL (partOf low l v))), .any, dn N, dn v, .any, .any, .any, .any, .any, .any, .any, .any, .any, .any, .any, .any, .any, .any, .any, .any, .any, .any, .any, .any, .any, .any, .any, .any, .any, .any, .any, .any, .any, .any, .any, .any, .any, .any, .any, .any, .any, .any, .any, .any, .any, .any, .any, .any, .any, .any] ∧ (∀ k, k < st0.length → k ≠ iin → st[k]? = st0[k]?) ∧ st0.length ≤ st.length ∧ st[iin]? = some (some (.cells [.d (isD (nL rest'))])) ∧ Pt low (v + 1) l [] rest') fr' st := fun hn fr' hfr' => by
          obtain ⟨e1, e2⟩ := hP1.stop hn
          refine Wk.via (Weak.freeze (G := G) (n0 := σ.length) ip 1 0 ((nL pt).map iD) hpt (lies_ints _)) ?_
          rw [hfr']
          simp only [go_sem, List.length_map, nL_len]
          refine Wk.mask [0, 1, 2, 3, 5, 6, 7, 9, 10] ⟨rest, by rw [e1]; rfl, fun k hk hn => ?_, by rw [List.length_set]; exact hst0, ?_, hP1.next e2⟩
          · rw [List.getElem?_set_ne (by omega)]; exact hold k hk hn
          · rw [List.getElem?_set_ne (by have := lt_of_some hrin; omega)]; exact hri
        cases hrest : rest with
        | nil =>
          subst hrest
          have z0 : decide ((0 : Int) < ((0 : Nat) : Int)) = false := by decide
          simp only [go_sem, Tryz.results92]
          refine aw_plan (.tk 12 0 <| .done) (by kernel_rfl) ?_
          simp only [isD, nL, List.map_nil, go_sem, live_of hri, objK_of hri, live_of k2, objK_of k2, List.length_nil, z0, nil_at0, bin_nilp, cmp_any, A.strip, List.getD_cons_zero, Tryz.results92]
          exact Wk.via (Weak.mask [0, 1, 2, 3, 5, 6, 7, 9, 10]) (fin (by intro n r e; cases e) _ rfl)
        | cons n r =>
          subst hrest
          have hn := hb n (hP1.sub n (by simp))
          have va : bAnd (n : Int) (((2 ^ low : Nat) : Int) - 1) = ((n % 2 ^ low : Nat) : Int) := bAnd_low (by omega) (by omega)
          have ll := hP1.len
          have z0 : decide ((0 : Int) < ((r.length + 1 : Nat) : Int)) = true := by simp only [decide_eq_true_eq]; omega
          have q0 : (iD (Int.ofNat n) :: List.map iD (List.map Int.ofNat r)).getD (Int.toNat 0) default = .int .i64 (n : Int) := rfl
          have ll1 : r.length + 1 ≤ 4096 := by rw [List.length_cons] at ll; omega
          have vs : bShr (n : Int) (low : Int) = ((n / 2 ^ low : Nat) : Int) := bShr_nat n (by omega)
          simp only [go_sem, Tryz.results92]
          refine aw_plan (.tk 12 0 <| .done) (by kernel_rfl) ?_
          simp only [isD, nL, List.map_cons, go_sem, live_of hri, objK_of hri, live_of k2, objK_of k2, List.length_cons, List.length_map, z0, q0, vs, Tryz.results92]
          refine ⟨⟨by omega, by omega⟩, by omega, fun hv' => ?_, fun hv' => ?_⟩
          · have hv2 : n / 2 ^ low = v := by rw [beq_iff_eq] at hv'; omega
            refine aw_plan (.tk 11 0 <| .done) (by kernel_rfl) ?_
            simp only [isD, nL, List.map_cons, go_sem, live_of hri, objK_of hri, live_of k2, objK_of k2, List.length_cons, List.length_map, q0, vlow, v3, va, Tryz.results92]
            have f1 : (st ++ [some (Ob.cells [A.d (.int .i64 ((n % 2 ^ low : Nat) : Int))])])[ip]? = some (some (intsC (nL pt))) := by rw [List.getElem?_append_left lpt]; exact hpt
            have hii : ip ≠ iin := by omega
            have f2 : ∀ Y : Option Ob, ((st ++ [some (Ob.cells [A.d (.int .i64 ((n % 2 ^ low : Nat) : Int))])]).set ip none ++ [Y])[iin]? = some (some (.cells [A.d (.sl 1 (iD (Int.ofNat n) :: (r.map Int.ofNat).map iD))])) := fun Y => by
              rw [List.getElem?_append_left (by rw [List.length_set, List.length_append]; omega), List.getElem?_set_ne hii, List.getElem?_append_left lri]; exact hri
            simp only [intsC, nL] at f1
            simp only [go_sem, live_of f1, objK_of f1, live_of (f2 _), objK_of (f2 _), List.length_map, List.length_cons, List.drop_succ_cons, List.drop_zero, Int.toNat_one, Tryz.results92]
            refine ⟨by omega, by omega, ⟨by omega, by simp only [maxLen]; omega, by omega⟩, ⟨by omega, by omega, by omega⟩, ?_⟩
            have hlr : List.take r.length (List.map iD (List.map Int.ofNat r)) = List.map iD (List.map Int.ofNat r) := List.take_of_length_le (by simp)
            rw [hlr]
            refine Wk.mask [0, 1, 2, 3, 5, 6, 7, 9, 10] ⟨r.length, by rw [hm, List.length_cons]; omega, pt ++ [n % 2 ^ low], r, st.length + 1, rfl, by simp only [go_sem, List.length_append, List.length_cons, List.length_nil], fun k hk hn => ?_, by omega, ?_, ?_, hP1.pop hv2⟩
            · rw [List.getElem?_set_ne (by omega), List.getElem?_append_left (Nat.lt_of_lt_of_le hk (by rw [List.length_set, List.length_append]; exact Nat.le_trans hst0 (Nat.le_add_right _ _))), List.getElem?_set_ne (by omega), List.getElem?_append_left (by omega)]
              exact hold k hk hn
            · rw [List.getElem?_set_ne (by omega), List.getElem?_append_right (by simp), List.length_set, List.length_append]
              simp [intsC, iD, nL]
            · rw [List.getElem?_set_self (by simp; omega)]
          · have hv2 : n / 2 ^ low ≠ v := by rw [beq_eq_false_iff_ne] at hv'; omega
            exact Wk.via (Weak.mask [0, 1, 2, 3, 5, 6, 7, 9, 10]) (fin (by intro n r e; cases e; exact hv2) _ rfl)
      · rintro fr st ⟨rest', rfl, hold, hle, hri, hPt'⟩
        have hlt0 : iin < st0.length := lt_of_some hrin
        have hcs : st[σ.length]? = st0[σ.length]? := hold _ hlen (by omega)
        have hIn : ∀ (c' : Option Ob), I acc (st.set σ.length c') := fun c' => hP acc st0 _ hIa (fun k hk h1 h2 => by rw [List.getElem?_set_ne (Ne.symm h1)]; exact hold k hk h2) (by rw [List.length_set]; exact hle)
        by_cases e : v = 0
        · subst e
          obtain ⟨rfl, hcur⟩ := hv0 rfl
          have z0 : decide ((0 : Int) < ((0 : Nat) : Int)) = false := by decide
          rw [← hcs] at hcur
          simp only [isD, go_sem, z0, live_of hcur, objK_of hcur, Tryz.results92]
          refine ex' (.bool true) ⟨fun h => Bool.noConfusion h, ?_⟩
          simp only [isD, go_sem, w2, live_of hcur, objK_of hcur, Tryz.results92]
          refine Wk.mask [0, 1, 2, 3, 5, 9, 10] ⟨N - (0 + 1), by omega, 0 + 1, [], rest', by omega, rfl, rfl, hIn _, ?_, hPt', by rw [List.length_set]; omega, fun h => absurd h (by omega), fun _ => ⟨?_, ?_⟩⟩
          · rw [List.getElem?_set_ne (by omega)]; exact hri
          · rw [List.getElem?_set_self (by omega)]
          · rw [hrun]; rfl
        · obtain ⟨hc, hg⟩ := hvp (by omega)
          rw [← hcs] at hc
          have z0 : decide ((0 : Int) < (v : Int)) = true := by simp only [decide_eq_true_eq]; omega
          have hpl : ∀ u, (partOf low l u).length ≤ 4096 := fun u => by unfold partOf; rw [List.length_map]; exact Nat.le_trans (List.length_filter_le _ _) hl
          have hdr : ps.drop (v - 1) = partOf low l v :: ps.drop v := by
            rw [List.drop_eq_getElem_cons (by omega)]
            have := hpsat (v - 1) (by omega)
            rw [List.getD_eq_getElem?_getD, List.getElem?_eq_getElem (by omega), Option.getD_some, show v - 1 + 1 = v by omega] at this
            rw [this, show v - 1 + 1 = v by omega]
          rw [hdr] at hg
          unfold grp at hg
          rw [show v - 1 + 1 = v by omega] at hg
          have hal : acc.length ≤ 4096 := by
            have h1 := congrArg List.length (hvp (by omega)).2
            rw [List.length_append] at h1
            omega
          have hIst : I acc st := hP acc st0 _ hIa (fun k hk h1 h2 => hold k hk h2) hle
          simp only [isD, go_sem, z0, live_of hc, objK_of hc, Tryz.results92]
          refine ex' (.bool ((nL (partOf low l v)) == (nL (partOf low l (v - 1))))) ⟨fun _ => ?_, ?_⟩
          · simp only [go_sem]
            exact ac' (equal_ints _ _ (by rw [nL_len]; have := hpl v; omega) _ _ _ ⟨rfl, rfl⟩)
          · simp only [isD, go_sem, z0, w2, live_of hc, objK_of hc, Tryz.results92]
            refine ⟨fun hq => ?_, fun hq => ?_⟩
            · have hne2 : partOf low l v ≠ partOf low l (v - 1) := fun e => by rw [e] at hq; simp at hq
              rw [if_neg hne2] at hg
              refine yc' ((hY acc (v - 1, partOf low l (v - 1)) st (by omega) hal hIst).mono fun r st' hr => ?_)
              obtain ⟨rfl, hI', hs1, hs2, hs3⟩ := hr
              have hc2 := hs1.trans hc
              simp only [isD, go_sem, w2, live_of hc2, objK_of hc2, Tryz.results92]
              refine Wk.mask [0, 1, 2, 3, 5, 9, 10] ⟨N - (v + 1), by omega, v + 1, acc ++ [(v - 1, partOf low l (v - 1))], rest', by omega, rfl, rfl, ?_, ?_, hPt', by rw [List.length_set]; omega, fun h => absurd h (by omega), fun _ => ⟨?_, ?_⟩⟩
              · exact hP _ st' _ hI' (fun k hk h1 h2 => by rw [List.getElem?_set_ne (Ne.symm h1)]) (by rw [List.length_set]; exact Nat.le_refl _)
              · rw [List.getElem?_set_ne (by omega), hs2]; exact hri
              · rw [List.getElem?_set_self (by omega)]; rfl
              · rw [Nat.add_sub_cancel, List.append_assoc]; exact hg
            · have he2 : partOf low l v = partOf low l (v - 1) := by
                have : nL (partOf low l v) = nL (partOf low l (v - 1)) := by simpa using hq
                have h3 := congrArg (List.map Int.toNat) this
                simpa [nL, List.map_map, Function.comp_def] using h3
              rw [if_pos he2] at hg
              refine Wk.mask [0, 1, 2, 3, 5, 9, 10] ⟨N - (v + 1), by omega, v + 1, acc, rest', by omega, rfl, rfl, hIn _, ?_, hPt', by rw [List.length_set]; omega, fun h => absurd h (by omega), fun _ => ⟨?_, ?_⟩⟩
              · rw [List.getElem?_set_ne (by omega)]; exact hri
              · rw [List.getElem?_set_self (by omega)]; rfl
              · rw [Nat.add_sub_cancel, he2]; exact hg
    · have hd : decide ((v : Int) < (N : Int)) = false := by simp only [decide_eq_false_iff_not]; omega
      obtain rfl : v = N := by omega
      obtain ⟨q1, q2⟩ := hvp (by omega)
      simp only [go_sem, hd, Tryz.results92]
      refine Wk.mask [0, 5] ⟨acc, rfl, hIa, q1, ?_⟩
      rw [← q2, List.drop_eq_nil_of_le (by omega)]
      rfl
  rintro fr st ⟨acc, rfl, hIa, hcur, hacc⟩
  have hal : acc.length ≤ 4096 := by
    have h1 := congrArg List.length hacc
    rw [List.length_append] at h1
    omega
  simp only [go_sem, live_of hcur, objK_of hcur, toDs, isD, Tryz.results92]
  refine yc' ((hY acc (N - 1, partOf low l (N - 1)) st (lt_of_some hcur) hal hIa).mono fun r st' hr => ?_)
  obtain ⟨rfl, hI', -⟩ := hr
  simp only [go_sem, Tryz.results92]
  rw [hacc] at hI'
  exact ⟨_, _, Weak.refl _ _ _ _, h _ _ hI'⟩
end Go.Proofs.YtmjlhbkgljcnoaaGreatDoor
end PartT25
