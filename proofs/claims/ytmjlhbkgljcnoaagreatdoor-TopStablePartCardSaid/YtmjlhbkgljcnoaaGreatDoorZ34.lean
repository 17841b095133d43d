import Derived.Test.YtmjlhbkgljcnoaaGreatDoorZ33

section PartT14
/- Bitmaps: the least number of a word, adding a number, the list of all, the map of a list. -/
set_option linter.unusedSimpArgs false
set_option linter.unusedVariables false
set_option maxRecDepth 100000
namespace Go.Proofs.YtmjlhbkgljcnoaaGreatDoor
open Go Go.Ab

abbrev du (n : Nat) : A := .d (.int .u64 (n : Int))
@[go_sem high, go_sem ↓ high] theorem rdBin_shrUU {P : Program} {t : TypeId} {k : Prop → A → Prop} {a b : Int} : rdBin P .shr t k (.d (.int .u64 a)) (.d (.int .u64 b)) = k (0 ≤ b) (.d (.int .u64 (uShr a b))) := (rfl)
def tabL : List Nat := [0, 1, 56, 2, 57, 49, 28, 3, 61, 58, 42, 50, 38, 29, 17, 4, 62, 47, 59, 36, 45, 43, 51, 22, 53, 39, 33, 30, 24, 18, 12, 5, 63, 55, 48, 27, 60, 41, 37, 16, 46, 35, 44, 21, 52, 32, 23, 11, 54, 26, 40, 15, 34, 20, 31, 10, 25, 14, 19, 9, 13, 8, 7, 6]
def tabD : D := .agg (tabL.map fun (n : Nat) => .int .u8 (n : Int))
theorem tab_at {k : Nat} (h : k < 64) : tabL.getD ((2 ^ k * 285870213051353865 % 18446744073709551616) / 288230376151711744) 0 = k ∧ (2 ^ k * 285870213051353865 % 18446744073709551616) / 288230376151711744 < 64 := by
  have : ∀ k < 64, tabL.getD ((2 ^ k * 285870213051353865 % 18446744073709551616) / 288230376151711744) 0 = k ∧ (2 ^ k * 285870213051353865 % 18446744073709551616) / 288230376151711744 < 64 := by decide
  exact this k h
set_option maxHeartbeats 4000000 in
theorem tz_ac (k m : Nat) (hx : U64 (2 ^ k * (2 * m + 1))) (σ : St) (G : Glob) (hT : G.g 1 = some tabD) (R : A → St → Prop) (h : R (dn k) σ) : AC Tryz.prog G 66 [du (2 ^ k * (2 * m + 1))] σ R := by
  have hk := odd_le hx
  have hand := and_neg hx
  have hev : ∀ fr, ev G fr (.global 1) = .ea tabD 0 := fun fr => ev_global hT
  have hpos : 0 < 2 ^ k * (2 * m + 1) := Nat.mul_pos (Nat.pow_pos (by decide)) (by omega)
  obtain ⟨x, hxe⟩ : ∃ x, 2 ^ k * (2 * m + 1) = x := ⟨_, rfl⟩
  rw [hxe] at hx hand hpos ⊢
  unfold U64 at hx
  have e0 : ((x : Int) == 0) = false := by simp; omega
  have w1 : IntKind.u64.wrap (0 - (x : Int)) = ((18446744073709551616 - x : Nat) : Int) := by rw [IntKind.wrap_u64]; omega
  have w2 : uAnd (x : Int) ((18446744073709551616 - x : Nat) : Int) = ((2 ^ k : Nat) : Int) := by rw [uAnd_nat hx (by unfold U64; omega), hand]
  have w3 : IntKind.u64.wrap (((2 ^ k : Nat) : Int) * 285870213051353865) = ((2 ^ k * 285870213051353865 % 18446744073709551616 : Nat) : Int) := by rw [IntKind.wrap_u64]; simp
  obtain ⟨y, hy⟩ : ∃ y, 2 ^ k * 285870213051353865 % 18446744073709551616 = y := ⟨_, rfl⟩
  obtain ⟨t1, t2⟩ := tab_at hk
  rw [hy] at w3 t1 t2
  have w4 : uShr (y : Int) 58 = ((y / 288230376151711744 : Nat) : Int) := uShr_nat y (k := 58) (by omega)
  have e1 : List.getD (tabL.map fun (n : Nat) => D.int .u8 (n : Int)) (y / 288230376151711744) default = .int .u8 (k : Int) := by rw [getD_mapD (d := 0) (by exact t2), t1]
  have w5 : IntKind.i64.wrap (k : Int) = (k : Int) := wrap64_id _ (by omega) (by omega)
  refine ac_enter mixed Tryz.func66 rfl Tryz.ntmps66 (by simp only [go_sem]) fun hbd => ?_
  simp only [List.length_cons, List.length_nil, Nat.reduceAdd, Nat.reduceSub, List.replicate_succ, List.replicate_zero, List.cons_append, List.nil_append]
  simp only [go_sem, hev, e0, w1, w2, w3, w4, tabD, e1, w5, Int.toNat_natCast, Nat.mul_one, Tryz.results66]
  exact ⟨by omega, ⟨by omega, by omega⟩, by rw [List.length_map]; exact t2, ret_d0 h⟩
def wC (W : List Nat) : List A := W.map fun (x : Nat) => A.d (.int .u64 (x : Int))
theorem wC_len (W : List Nat) : (wC W).length = W.length := by simp [wC]
theorem wC_at {W : List Nat} {j : Nat} (h : j < W.length) : (wC W).getD j .any = du (W.getD j 0) := by
  unfold wC
  rw [List.getD_eq_getElem?_getD, List.getElem?_map, List.getElem?_eq_getElem h, List.getD_eq_getElem?_getD, List.getElem?_eq_getElem h]; rfl
theorem wC_set {W : List Nat} {j x : Nat} (h : j < W.length) : (wC W).take j ++ du x :: (wC W).drop (j + 1) = wC (W.set j x) := by
  unfold wC
  rw [List.map_set, List.set_eq_take_append_cons_drop, if_pos (by simpa using h)]
theorem add_ac (W : List Nat) (hW : Words W) (n : Nat) (hn : n < 4096) {id : Nat} (σ : St) (hσ : σ[id]? = some (some (.cells (wC W)))) (G : Glob) (R : A → St → Prop) (h : ∀ r, R r (σ.set id (some (.cells (wC (addW W n)))))) : AC Tryz.prog G 30 [.ref id 0, dn n] σ R := by
  have hid := lt_of_some hσ
  have q1 : IntKind.i64.wrap (Int.tdiv (n : Int) 64) = ((n / 64 : Nat) : Int) := by
    have : Int.tdiv (n : Int) 64 = ((n / 64 : Nat) : Int) := rfl
    rw [this]; exact wrap64_id _ (by omega) (by omega)
  have q2 : Int.tmod (n : Int) 64 = ((n % 64 : Nat) : Int) := rfl
  have hl : n / 64 < W.length := by rw [hW.1]; omega
  have q3 : uShl 1 ((n % 64 : Nat) : Int) = ((2 ^ (n % 64) : Nat) : Int) := uShl_one (Nat.mod_lt _ (by decide))
  have q4 := uOr_nat (hW.at_ (n / 64)) (pow_lt64 (k := n % 64) (Nat.mod_lt _ (by decide)))
  refine ac_enter' mixed Tryz.func30 rfl Tryz.ntmps30 (by simp only [go_sem]) fun hbd => ?_
  simp only [List.length_cons, List.length_nil, Nat.reduceAdd, Nat.reduceSub, List.replicate_succ, List.replicate_zero, List.cons_append, List.nil_append]
  refine aw_plan (.tk 13 0 <| .done) (by kernel_rfl) ?_
  have l2 := wC_len W
  have q5 := wC_at hl
  have q6 := wC_set (x := W.getD (n / 64) 0 ||| 2 ^ (n % 64)) hl
  simp only [go_sem, live_of hσ, objK_of hσ, q1, q2, q3, q4, q5, l2, Int.toNat_natCast, Nat.mul_one, Nat.zero_add, Tryz.results30]
  rw [show A.d (D.int IntKind.u64 ((W.getD (n / 64) 0 ||| 2 ^ (n % 64) : Nat) : Int)) = du (W.getD (n / 64) 0 ||| 2 ^ (n % 64)) from rfl, q6]
  exact ⟨by decide, ⟨by omega, by omega⟩, hl, by decide, by omega, ⟨by omega, by omega⟩, by omega, _, _, Weak.refl _ _ _ _, h _⟩
set_option maxHeartbeats 8000000 in
theorem list_ac (W : List Nat) (hW : Words W) {id : Nat} (σ : St) (hσ : σ[id]? = some (some (.cells (wC W)))) (G : Glob) (hT : G.g 1 = some tabD) (R : A → St → Prop) (h : R (.d (isD ((listW W 64).map Int.ofNat))) σ) : AC Tryz.prog G 31 [.ref id 0] σ R := by
  have hid := lt_of_some hσ
  have l2 := wC_len W
  have l3 := hW.1
  refine ac_enter' mixed Tryz.func31 rfl Tryz.ntmps31 (by simp only [go_sem]) fun hbd => ?_
  simp only [List.length_cons, List.length_nil, Nat.reduceAdd, Nat.reduceSub, List.replicate_succ, List.replicate_zero, List.cons_append, List.nil_append]
  simp only [go_sem, Tryz.results31]
  refine aw_loop (fun m fr st => ∃ j : Nat, j ≤ 64 ∧ m = 64 - j ∧ fr = [.any, .any, .any, .rs σ.length 1 0 (listW W j).length (some 3), .any, .any, .ref id 0, dn j, .any, .any, .any, .any, .any, .any, .any, .any, .any, .any, .any, .any, .any, .any, .any, .any, .any, .any, .any, .any, .any] ∧ st = σ ++ [intsO ((listW W j).map Int.ofNat)]) 64 _ ?_ ?_
  · exact ⟨_, _, (Weak.mask [3, 6, 7]).trans (Weak.empty 3 1 (some 3) rfl), 0, by omega, rfl, rfl, rfl⟩
  rintro m fr st ⟨j, hj, hm, rfl, rfl⟩
  rcases Nat.lt_or_ge j 64 with hlt | hge
  · have hd : decide ((j : Int) < 64) = true := by simp; omega
    have w2 := wrapS j (by omega)
    have hx := hW.at_ j
    have q5 := wC_at (W := W) (j := j) (by omega)
    have hls := listW_succ W j
    have hln := listW_len W j
    generalize W.getD j 0 = x at *
    simp only [intsO, go_sem, hd, Tryz.results31]
    refine aw_plan (.tk 6 0 <| .done) (by kernel_rfl) ?_
    simp only [go_sem, live_old hσ, objK_old hσ, q5, l2, Int.toNat_natCast, Nat.mul_one, Nat.zero_add, Tryz.results31]
    refine ⟨⟨by omega, by omega⟩, by omega, ?_⟩
    refine aw_loop (fun m fr st => ∃ (y : Nat) (acc : List Nat), m = (bitsW y).length ∧ U64 y ∧ acc ++ (bitsW y).map (64 * j + ·) = listW W (j + 1) ∧ fr = [.any, .any, .any, .rs σ.length 1 0 acc.length (some 3), dn j, du y, .ref id 0, dn j, .any, .any, .any, .any, .any, .any, .any, .any, .any, .any, .any, .any, .any, .any, .any, .any, .any, .any, .any, .any, .any] ∧ st = σ ++ [intsO (acc.map Int.ofNat)]) (bitsW x).length _ ?_ ?_
    · exact Wk.mask [3, 4, 5, 6, 7] ⟨x, listW W j, rfl, hx, hls.symm, rfl, rfl⟩
    rintro m fr st ⟨y, acc, hm, hy, hacc, rfl, rfl⟩
    by_cases hz : y = 0
    · subst hz
      have d0 : (((0 : Nat) : Int) != 0) = false := by decide
      simp only [intsO, go_sem, d0, w2, Tryz.results31]
      rw [bitsW_zero, List.map_nil, List.append_nil] at hacc
      exact Wk.mask [3, 6, 7] ⟨64 - (j + 1), by omega, j + 1, by omega, rfl, by rw [hacc]; rfl, by rw [hacc]⟩
    · have d0 : ((y : Int) != 0) = true := by simp [hz]
      obtain ⟨k, mm, hkm⟩ := odd_form y y (Nat.le_refl _) (by omega)
      have hbc := bitsW_cons (k := k) (m := mm) (by rw [← hkm]; exact hy)
      have hk := odd_le (k := k) (m := mm) (by rw [← hkm]; exact hy)
      rw [← hkm] at hbc
      have hu : U64 (y &&& (y - 1)) := Nat.lt_of_le_of_lt Nat.and_le_left hy
      have hacl : acc.length + (bitsW y).length ≤ 4096 := by
        have h1 := congrArg List.length hacc
        rw [List.length_append, List.length_map] at h1
        have := listW_len W (j + 1)
        omega
      unfold U64 at hy
      have v1 : IntKind.i64.wrap (64 * (j : Int)) = ((64 * j : Nat) : Int) := by rw [wrap64_id _ (by omega) (by omega)]; omega
      have v2 : IntKind.i64.wrap (((64 * j : Nat) : Int) + (k : Int)) = ((64 * j + k : Nat) : Int) := by rw [wrap64_id _ (by omega) (by omega)]; omega
      have v3 : IntKind.u64.wrap ((y : Int) - 1) = ((y - 1 : Nat) : Int) := by rw [IntKind.wrap_u64]; omega
      have v4 : uAnd (y : Int) ((y - 1 : Nat) : Int) = ((y &&& (y - 1) : Nat) : Int) := uAnd_nat hy (by unfold U64; omega)
      simp only [intsO, go_sem, d0, v1, Tryz.results31]
      refine ac' ?_
      rw [hkm]
      refine tz_ac k mm (by rw [← hkm]; exact hy) _ _ hT _ ?_
      rw [← hkm]
      simp only [go_sem, v2, v3, v4, List.length_map, Tryz.results31]
      have hbl : (bitsW y).length = (bitsW (y &&& (y - 1))).length + 1 := by rw [hbc]; rfl
      refine ⟨⟨by omega, by simp only [maxLen]; omega, by omega⟩, Wk.keep [3, 4, 5, 6, 7] [2] (by decide) (Nat.le_refl _) hbd ⟨(bitsW (y &&& (y - 1))).length, by omega, y &&& (y - 1), acc ++ [64 * j + k], rfl, hu, ?_, ?_, ?_⟩⟩
      · rw [← hacc, hbc, List.map_cons, List.append_assoc]; rfl
      · simp only [go_sem, newId_old hid, List.length_append, List.length_cons, List.length_nil]
      · rw [List.map_append, List.map_append]; simp only [go_sem, List.map_cons, List.map_nil]
        rfl
  · have hd : decide ((j : Int) < 64) = false := by simp; omega
    obtain rfl : j = 64 := by omega
    simp only [intsO, go_sem, hd, Tryz.results31]
    refine ret_frz 0 1 0 (((listW W 64).map Int.ofNat).map iD) rfl (lies_ints _) ?_
    simp only [go_sem, List.length_map]
    exact ret_d hbd h
def mapW (l : List Nat) : List Nat := l.foldl addW zeroW
theorem foldW_words : ∀ (l : List Nat) (W : List Nat), Words W → Words (l.foldl addW W)
  | [], W, h => h
  | n :: l, W, h => foldW_words l _ (addW_words h n)
theorem foldW_bit : ∀ (l : List Nat) (W : List Nat), Words W → (∀ n ∈ l, n < 4096) → ∀ m, bitW (l.foldl addW W) m = (bitW W m || l.contains m)
  | [], W, h, _, m => by simp
  | n :: l, W, h, hl, m => by
    rw [List.foldl_cons, foldW_bit l _ (addW_words h n) (fun x hx => hl x (List.mem_cons_of_mem _ hx)), addW_bit h (hl n (List.mem_cons_self ..)), List.contains_cons, Bool.or_assoc]
theorem mapW_words (l : List Nat) : Words (mapW l) := foldW_words l _ zeroW_words
theorem mapW_bit {l : List Nat} (hl : ∀ n ∈ l, n < 4096) (m : Nat) : bitW (mapW l) m = l.contains m := by
  rw [mapW, foldW_bit l _ zeroW_words hl, zeroW_bit, Bool.false_or]
def wD (W : List Nat) : D := .agg (W.map fun (x : Nat) => D.int .u64 (x : Int))
theorem wC_toDs (W : List Nat) : toDs (wC W) = some (W.map fun (x : Nat) => D.int .u64 (x : Int)) := by
  have := toDs_map (W.map fun (x : Nat) => D.int .u64 (x : Int))
  rw [List.map_map] at this
  exact this
def nL (l : List Nat) : List Int := l.map Int.ofNat
theorem nL_getD {l : List Nat} {j : Nat} (h : j < l.length) : List.getD ((nL l).map iD) j default = iD ((l.getD j 0 : Nat) : Int) := by
  rw [getD_isD (by simpa [nL] using h)]
  unfold nL
  rw [List.getD_eq_getElem?_getD, List.getElem?_map, List.getElem?_eq_getElem h, List.getD_eq_getElem?_getD, List.getElem?_eq_getElem h]; rfl
theorem nL_len (l : List Nat) : (nL l).length = l.length := by simp [nL]
set_option maxHeartbeats 4000000 in
theorem mapOf_ac (l : List Nat) (hl : l.length ≤ 4096) (hb : ∀ n ∈ l, n < 4096) (σ : St) (G : Glob) (R : A → St → Prop) (h : R (.d (wD (mapW l))) σ) : AC Tryz.prog G 86 [.d (isD (nL l))] σ R := by
  unfold isD
  refine ac_enter' mixed Tryz.func86 rfl Tryz.ntmps86 (by simp only [go_sem]) fun hbd => ?_
  simp only [List.length_cons, List.length_nil, Nat.reduceAdd, Nat.reduceSub, List.replicate_succ, List.replicate_zero, List.cons_append, List.nil_append]
  simp only [go_sem, List.length_map, nL_len, Tryz.results86]
  refine aw_loop (fun m fr st => ∃ j : Nat, j ≤ l.length ∧ m = l.length - j ∧ fr = [.any, .any, .ref σ.length 0, .ref (σ.length + 1) 0, .any, .any, .d (.sl 1 ((nL l).map iD)), dn l.length, dn j, .any, .any, .any, .any, .any, .any, .any] ∧ st = σ ++ [some (.cells (wC zeroW)), some (.cells (wC ((l.take j).foldl addW zeroW)))]) l.length _ ?_ ?_
  · exact Wk.mask [2, 3, 6, 7, 8] ⟨0, by omega, rfl, rfl, rfl⟩
  rintro m fr st ⟨j, hj, hm, rfl, rfl⟩
  have hW := foldW_words (l.take j) _ zeroW_words
  rcases Nat.lt_or_ge j l.length with hlt | hge
  · have hd : decide ((j : Int) < (l.length : Int)) = true := by simp; omega
    have w2 := wrapS j (by omega)
    have hs : (l.take (j + 1)).foldl addW zeroW = addW ((l.take j).foldl addW zeroW) (l.getD j 0) := by rw [take_snoc 0 hlt, List.foldl_append]; rfl
    simp only [go_sem, hd, List.length_map, nL_len, nL_getD hlt, Int.toNat_natCast, Tryz.results86]
    refine ⟨⟨by omega, by omega⟩, ac' (add_ac _ hW _ (hb _ (getD_mem 0 hlt)) _ (by simp) _ _ fun r => ?_)⟩
    simp only [go_sem, w2, List.set_cons_succ, List.set_cons_zero, Tryz.results86]
    exact Wk.mask [2, 3, 6, 7, 8] ⟨l.length - (j + 1), by omega, j + 1, by omega, rfl, rfl, by rw [hs]⟩
  · have hd : decide ((j : Int) < (l.length : Int)) = false := by simp; omega
    obtain rfl : j = l.length := by omega
    rw [List.take_length] at hW ⊢
    rw [show l.foldl addW zeroW = mapW l from rfl] at hW ⊢
    have htk : List.take 64 (wC (mapW l)) = wC (mapW l) := List.take_of_length_le (by rw [wC_len, hW.1]; exact Nat.le_refl _)
    have e : List.map A.d (List.map (fun (x : Nat) => D.int IntKind.u64 (x : Int)) (mapW l)) = wC (mapW l) := by rw [List.map_map]; rfl
    have hz : List.drop 64 (wC zeroW) = [] := rfl
    have l1 : (wC (mapW l)).length = 64 := by rw [wC_len, hW.1]
    have l2 : (wC zeroW).length = 64 := rfl
    simp only [go_sem, hd, htk, wC_toDs, Tryz.results86]
    simp only [e, l1, l2, hz, List.append_nil, htk, wC_toDs]
    refine ⟨by omega, ⟨trivial, by omega⟩, by omega, ret_d hbd h⟩
theorem minusW_ac (x y : Nat) (hx : U64 x) (hy : U64 y) (σ : St) (G : Glob) (R : A → St → Prop) (h : R (du (nand x y)) σ) : AC Tryz.prog G 55 [du x, du y] σ R := by
  refine ac_enter mixed Tryz.func55 rfl Tryz.ntmps55 (by simp only [go_sem]) fun hbd => ?_
  simp only [List.length_cons, List.length_nil, Nat.reduceAdd, Nat.reduceSub, List.replicate_succ, List.replicate_zero, List.cons_append, List.nil_append]
  simp only [go_sem, uNand_nat hx hy, Tryz.results55]
  exact ret_d0 h
theorem meetW_ac (x y : Nat) (hx : U64 x) (hy : U64 y) (σ : St) (G : Glob) (R : A → St → Prop) (h : R (du (x &&& y)) σ) : AC Tryz.prog G 90 [du x, du y] σ R := by
  refine ac_enter mixed Tryz.func90 rfl Tryz.ntmps90 (by simp only [go_sem]) fun hbd => ?_
  simp only [List.length_cons, List.length_nil, Nat.reduceAdd, Nat.reduceSub, List.replicate_succ, List.replicate_zero, List.cons_append, List.nil_append]
  simp only [go_sem, uAnd_nat hx hy, Tryz.results90]
  exact ret_d0 h
end Go.Proofs.YtmjlhbkgljcnoaaGreatDoor
end PartT14

section PartT15
/- Shapes, sums of widths, valid sets, states. -/
set_option linter.unusedSimpArgs false
set_option linter.unusedVariables false
set_option maxRecDepth 100000
namespace Go.Proofs.YtmjlhbkgljcnoaaGreatDoor
open Go Go.Ab

theorem incr_at {l : List Nat} (h : l.Pairwise (· < ·)) {j : Nat} (hj : j + 1 < l.length) : l.getD j 0 < l.getD (j + 1) 0 := by
  rw [List.pairwise_iff_getElem] at h
  have := h j (j + 1) (by omega) hj (by omega)
  rw [List.getD_eq_getElem?_getD, List.getD_eq_getElem?_getD, List.getElem?_eq_getElem hj, List.getElem?_eq_getElem (by omega : j < l.length)]
  exact this
theorem incr_ac (l : List Nat) (hl : l.length ≤ 4096) (hp : l.Pairwise (· < ·)) (σ : St) (G : Glob) (R : A → St → Prop) (h : R (db true) σ) : AC Tryz.prog G 56 [.d (isD (nL l))] σ R := by
  unfold isD
  refine ac_enter' mixed Tryz.func56 rfl Tryz.ntmps56 (by simp only [go_sem]) fun hbd => ?_
  simp only [List.length_cons, List.length_nil, Nat.reduceAdd, Nat.reduceSub, List.replicate_succ, List.replicate_zero, List.cons_append, List.nil_append]
  simp only [go_sem, Tryz.results56]
  refine aw_loop (fun m fr st => ∃ j : Nat, 1 ≤ j ∧ m = l.length - j ∧ fr = [.d (.sl 1 ((nL l).map iD)), .any, .any, dn j, .any, .any, .any, .any, .any, .any, .any, .any, .any, .any, .any, .any, .any, .any, .any, .any] ∧ st = σ) (l.length - 1) _ (Wk.mask [0, 3] ⟨1, by omega, rfl, rfl, rfl⟩) ?_
  rintro m fr st ⟨j, hj, hm, rfl, rfl⟩
  rcases Nat.lt_or_ge j l.length with hlt | hge
  · have hd : decide ((j : Int) < (l.length : Int)) = true := by simp; omega
    have w2 := wrapS j (by omega)
    have w3 : IntKind.i64.wrap ((j : Int) - 1) = ((j - 1 : Nat) : Int) := by rw [wrap64_id _ (by omega) (by omega)]; omega
    have q1 := nL_getD hlt
    have q2 := nL_getD (l := l) (j := j - 1) (by omega)
    have hlt2 := incr_at hp (j := j - 1) (by omega)
    rw [show j - 1 + 1 = j by omega] at hlt2
    have d2 : decide (((l.getD j 0 : Nat) : Int) ≤ ((l.getD (j - 1) 0 : Nat) : Int)) = false := by simp only [decide_eq_false_iff_not]; omega
    simp only [go_sem, List.length_map, nL_len, hd, Tryz.results56]
    refine aw_plan (.tk 10 0 <| .done) (by kernel_rfl) ?_
    simp only [go_sem, List.length_map, nL_len, q1, q2, w2, w3, d2, Int.toNat_natCast, Tryz.results56]
    exact ⟨⟨by omega, by omega⟩, ⟨by omega, by omega⟩, Wk.mask [0, 3] ⟨l.length - (j + 1), by omega, j + 1, by omega, rfl, rfl, rfl⟩⟩
  · have hd : decide ((j : Int) < (l.length : Int)) = false := by simp; omega
    simp only [go_sem, List.length_map, nL_len, hd, Tryz.results56]
    exact ret_d0 h
def okW (x : Int) : Bool := decide (1 ≤ x) && decide (x ≤ 8)
theorem shape_ac (cs : List Nat) (ws : List Int) (hc : cs.Pairwise (· < ·)) (hb : ∀ c ∈ cs, c < 32) (hl : cs.length = ws.length) (hl2 : cs.length ≤ 32) (σ : St) (G : Glob) (R : A → St → Prop) (h : R (db (ws.all okW)) σ) : AC Tryz.prog G 57 [.d (isD (nL cs)), .d (isD ws)] σ R := by
  have d0 : ((cs.length : Int) != (ws.length : Int)) = false := by simp [hl]
  refine ac_enter' mixed Tryz.func57 rfl Tryz.ntmps57 (by simp only [go_sem]) fun hbd => ?_
  simp only [List.length_cons, List.length_nil, Nat.reduceAdd, Nat.reduceSub, List.replicate_succ, List.replicate_zero, List.cons_append, List.nil_append]
  simp only [isD, go_sem, List.length_map, nL_len, d0, Tryz.results57]
  refine exs ⟨fun _ => ?_, fun h => Bool.noConfusion h⟩
  refine ac' (incr_ac cs (by omega) hc _ _ _ ?_)
  simp only [isD, go_sem, List.length_map, nL_len, Tryz.results57]
  refine aw_loop (fun m fr st => ∃ j : Nat, j ≤ cs.length ∧ m = cs.length - j ∧ R (db ((ws.drop j).all okW)) σ ∧ fr = [.any, .d (.sl 1 (ws.map iD)), .any, .any, .any, .any, .any, .any, .any, .any, .any, .any, .any, .any, .any, .any, .any, .d (.sl 1 ((nL cs).map iD)), dn cs.length, dn j, .any, .any, .any, .any, .any, .any, .any, .any, .any, .any, .any, .any, .any, .any, .any, .any, .any, .any, .any, .any, .any, .any, .any, .any, .any] ∧ st = σ) cs.length _ (Wk.mask [1, 17, 18, 19] ⟨0, by omega, rfl, h, rfl, rfl⟩) ?_
  rintro m fr st ⟨j, hj, hm, hR, rfl, rfl⟩
  rcases Nat.lt_or_ge j cs.length with hlt | hge
  · have hd : decide ((j : Int) < (cs.length : Int)) = true := by simp; omega
    have w2 := wrapS j (by omega)
    have q1 := nL_getD hlt
    have q2 := getD_isD (l := ws) (j := j) (by omega)
    have hc32 := hb _ (getD_mem 0 hlt)
    have d1 : decide (((cs.getD j 0 : Nat) : Int) < 0) = false := by simp only [decide_eq_false_iff_not]; omega
    have d2 : decide (32 ≤ ((cs.getD j 0 : Nat) : Int)) = false := by simp only [decide_eq_false_iff_not]; omega
    rw [drop_getD 0 (by omega : j < ws.length), List.all_cons] at hR
    simp only [go_sem, List.length_map, nL_len, hd, q1, q2, w2, d1, d2, Int.toNat_natCast, Tryz.results57]
    generalize ws.getD j 0 = x at *
    have hok : okW x = !(decide (x < 1) || decide (8 < x)) := by unfold okW; rw [Bool.eq_iff_iff]; simp
    rw [hok] at hR
    refine ⟨⟨by omega, by omega⟩, ⟨by omega, by omega⟩, fun q => ⟨q, by omega, by omega⟩, fun q => ret_d0 ?_, fun q => Wk.mask [1, 17, 18, 19] ⟨cs.length - (j + 1), by omega, j + 1, by omega, rfl, ?_, rfl, rfl⟩⟩
    · rw [q] at hR; exact hR
    · rw [q] at hR; exact hR
  · have hd : decide ((j : Int) < (cs.length : Int)) = false := by simp; omega
    simp only [go_sem, hd, Tryz.results57]
    rw [List.drop_eq_nil_of_le (by omega)] at hR
    exact ret_d0 hR
theorem sum_le8 : ∀ (l : List Nat), (∀ w ∈ l, w ≤ 8) → l.sum ≤ 8 * l.length
  | [], _ => by simp
  | a :: l, h => by
    have := sum_le8 l fun w hw => h w (List.mem_cons_of_mem _ hw)
    have := h a (List.mem_cons_self ..)
    rw [List.sum_cons, List.length_cons]; omega
theorem sum_ac (ws : List Nat) (hl : ws.length ≤ 32) (hw : ∀ w ∈ ws, w ≤ 8) (σ : St) (G : Glob) (R : A → St → Prop) (h : R (dn ws.sum) σ) : AC Tryz.prog G 23 [.d (isD (nL ws))] σ R := by
  unfold isD
  refine ac_enter mixed Tryz.func23 rfl Tryz.ntmps23 (by simp only [go_sem]) fun hbd => ?_
  simp only [List.length_cons, List.length_nil, Nat.reduceAdd, Nat.reduceSub, List.replicate_succ, List.replicate_zero, List.cons_append, List.nil_append]
  simp only [go_sem, List.length_map, nL_len, Tryz.results23]
  refine aw_loop (fun m fr st => ∃ j : Nat, j ≤ ws.length ∧ m = ws.length - j ∧ fr = [.any, .any, .any, dn (ws.take j).sum, .any, .any, .d (.sl 1 ((nL ws).map iD)), dn ws.length, dn j, .any, .any, .any, .any, .any, .any, .any, .any] ∧ st = σ) ws.length _ (Wk.mask [3, 6, 7, 8] ⟨0, by omega, rfl, rfl, rfl⟩) ?_
  rintro m fr st ⟨j, hj, hm, rfl, rfl⟩
  rcases Nat.lt_or_ge j ws.length with hlt | hge
  · have hd : decide ((j : Int) < (ws.length : Int)) = true := by simp; omega
    have w2 := wrapS j (by omega)
    have hs : (ws.take (j + 1)).sum = (ws.take j).sum + ws.getD j 0 := by rw [take_snoc 0 hlt, List.sum_append]; simp
    have hb := sum_le8 (ws.take j) fun w h => hw w (List.mem_of_mem_take h)
    have hb2 := hw _ (getD_mem 0 hlt)
    rw [List.length_take] at hb
    have w1 : IntKind.i64.wrap (((ws.take j).sum : Nat) + ((ws.getD j 0 : Nat) : Int)) = (((ws.take (j + 1)).sum : Nat) : Int) := by rw [hs, wrap64_id _ (by omega) (by omega)]; omega
    simp only [go_sem, hd, List.length_map, nL_len, nL_getD hlt, w1, w2, Int.toNat_natCast, Tryz.results23]
    exact ⟨⟨by omega, by omega⟩, Wk.mask [3, 6, 7, 8] ⟨ws.length - (j + 1), by omega, j + 1, by omega, rfl, rfl, rfl⟩⟩
  · have hd : decide ((j : Int) < (ws.length : Int)) = false := by simp; omega
    rw [List.take_of_length_le hge]
    simp only [go_sem, hd, Tryz.results23]
    exact ret_d0 h
theorem rsum_ac (ws : List Nat) (hl : ws.length ≤ 32) (hw : ∀ w ∈ ws, w ≤ 8) (σ : St) (G : Glob) (R : A → St → Prop) (h : R (dn ws.sum) σ) : AC Tryz.prog G 34 [.d (isD (nL ws))] σ R := by
  unfold isD
  refine ac_enter mixed Tryz.func34 rfl Tryz.ntmps34 (by simp only [go_sem]) fun hbd => ?_
  simp only [List.length_cons, List.length_nil, Nat.reduceAdd, Nat.reduceSub, List.replicate_succ, List.replicate_zero, List.cons_append, List.nil_append]
  simp only [go_sem, List.length_map, nL_len, Tryz.results34]
  refine aw_loop (fun m fr st => ∃ j : Nat, j ≤ ws.length ∧ m = ws.length - j ∧ fr = [.any, .any, .any, dn (ws.take j).sum, .any, .any, .d (.sl 1 ((nL ws).map iD)), dn ws.length, dn j, .any, .any, .any, .any, .any, .any, .any, .any] ∧ st = σ) ws.length _ (Wk.mask [3, 6, 7, 8] ⟨0, by omega, rfl, rfl, rfl⟩) ?_
  rintro m fr st ⟨j, hj, hm, rfl, rfl⟩
  rcases Nat.lt_or_ge j ws.length with hlt | hge
  · have hd : decide ((j : Int) < (ws.length : Int)) = true := by simp; omega
    have w2 := wrapS j (by omega)
    have hs : (ws.take (j + 1)).sum = (ws.take j).sum + ws.getD j 0 := by rw [take_snoc 0 hlt, List.sum_append]; simp
    have hb := sum_le8 (ws.take j) fun w h => hw w (List.mem_of_mem_take h)
    have hb2 := hw _ (getD_mem 0 hlt)
    rw [List.length_take] at hb
    have w1 : IntKind.i64.wrap (((ws.take j).sum : Nat) + ((ws.getD j 0 : Nat) : Int)) = (((ws.take (j + 1)).sum : Nat) : Int) := by rw [hs, wrap64_id _ (by omega) (by omega)]; omega
    simp only [go_sem, hd, List.length_map, nL_len, nL_getD hlt, w1, w2, Int.toNat_natCast, Tryz.results34]
    exact ⟨⟨by omega, by omega⟩, Wk.mask [3, 6, 7, 8] ⟨ws.length - (j + 1), by omega, j + 1, by omega, rfl, rfl, rfl⟩⟩
  · have hd : decide ((j : Int) < (ws.length : Int)) = false := by simp; omega
    rw [List.take_of_length_le hge]
    simp only [go_sem, hd, Tryz.results34]
    exact ret_d0 h
/-- Widths of a space that is enumerated. -/
structure Ws (ws : List Nat) : Prop where
  len : ws.length ≤ 6
  ok : ∀ w ∈ ws, 1 ≤ w ∧ w ≤ 8
  sum : ws.sum ≤ 12
theorem Ws.all {ws : List Nat} (h : Ws ws) : (nL ws).all okW = true := by
  rw [List.all_eq_true]
  intro x hx
  obtain ⟨w, hw, rfl⟩ := List.mem_map.1 hx
  have := h.ok w hw
  simp [okW]; omega
def cL (ws : List Nat) : List Nat := List.range ws.length
theorem cL_len (ws : List Nat) : (cL ws).length = ws.length := by simp [cL]
theorem cL_pair (ws : List Nat) : (cL ws).Pairwise (· < ·) := List.pairwise_lt_range
theorem cL_lt {ws : List Nat} (h : Ws ws) : ∀ c ∈ cL ws, c < 32 := fun c hc => by have := List.mem_range.1 hc; have := h.len; omega
def setX (ws : List Nat) (x : D) : D := .agg [isD (nL (cL ws)), isD (nL ws), x]
theorem small_set (ws : List Nat) (hW : Ws ws) (x : D) (σ : St) (G : Glob) (R : A → St → Prop) (hx : x.one = true) (h : R (db true) σ) : AC Tryz.prog G 64 [.d (setX ws x)] σ R := by
  have hl := hW.len
  have d1 : decide ((ws.sum : Int) ≤ 12) = true := by have := hW.sum; simp; omega
  refine ac_enter' mixed Tryz.func64 rfl Tryz.ntmps64 (by simp only [go_sem]) fun hbd => ?_
  simp only [List.length_cons, List.length_nil, Nat.reduceAdd, Nat.reduceSub, List.replicate_succ, List.replicate_zero, List.cons_append, List.nil_append]
  simp only [setX, go_sem, Tryz.results64]
  refine ac' (shape_ac _ _ (cL_pair ws) (cL_lt hW) (by rw [cL_len, nL_len]) (by rw [cL_len]; omega) _ _ _ ?_)
  rw [hW.all]
  simp only [go_sem, Tryz.results64]
  refine ex' (iD (ws.sum : Nat)) ⟨fun _ => ?_, ?_⟩
  · simp only [go_sem]
    exact ac' (sum_ac ws (by omega) (fun w hw => (hW.ok w hw).2) _ _ _ ⟨rfl, rfl⟩)
  simp only [go_sem, d1, Tryz.results64]
  exact ret_d hbd h
/-- A set of numbers of states. -/
structure Ss (ws l : List Nat) : Prop where
  w : Ws ws
  pair : l.Pairwise (· < ·)
  lt : ∀ n ∈ l, n < 2 ^ ws.sum
theorem pow12 {n : Nat} (h : n ≤ 12) : 2 ^ n ≤ 4096 := Nat.pow_le_pow_right (n := 2) (j := 12) (by decide) h
theorem Ss.lt12 {ws l : List Nat} (h : Ss ws l) : ∀ n ∈ l, n < 4096 := fun n hn => Nat.lt_of_lt_of_le (h.lt n hn) (pow12 h.w.sum)
theorem Ss.len {ws l : List Nat} (h : Ss ws l) : l.length ≤ 4096 := nodup_bound (h.pair.imp fun hab e => by omega) h.lt12
set_option maxHeartbeats 4000000 in
theorem valid_set (ws l : List Nat) (hS : Ss ws l) (σ : St) (G : Glob) (R : A → St → Prop) (h : R (db true) σ) : AC Tryz.prog G 45 [.d (setX ws (isD (nL l)))] σ R := by
  have hl := hS.len
  have hw := hS.w.len
  have hsum := hS.w.sum
  refine ac_enter' mixed Tryz.func45 rfl Tryz.ntmps45 (by simp only [go_sem]) fun hbd => ?_
  simp only [List.length_cons, List.length_nil, Nat.reduceAdd, Nat.reduceSub, List.replicate_succ, List.replicate_zero, List.cons_append, List.nil_append]
  simp only [setX, go_sem, Tryz.results45]
  refine ac' (small_set ws hS.w (isD (nL l)) _ _ _ rfl ?_)
  simp only [go_sem, Tryz.results45]
  refine exs ⟨fun _ => ?_, fun h => Bool.noConfusion h⟩
  refine ac' (incr_ac l hl hS.pair _ _ _ ?_)
  simp only [isD, go_sem, List.length_map, nL_len, Tryz.results45]
  refine aw_plan (.tk 9 0 <| .tk 2 11 <| .tk 2 15 <| .pure 17 <| .tk 2 9 <| .tk 2 13 <| .tk 5 18 <| .done) (by kernel_rfl) ?_
  have hp := pow12 hsum
  have v4 : bShl 1 (ws.sum : Int) = ((2 ^ ws.sum : Nat) : Int) := bShl_one (by omega)
  by_cases hz : l = []
  · have z0 : ((l.length : Int) == 0) = true := by rw [hz]; rfl
    simp only [go_sem, z0, List.length_map, nL_len, Tryz.results45]
    refine exQ (iD (ws.sum : Nat)) ⟨fun q => ?_, ?_⟩
    · simp only [go_sem] at q
    simp only [go_sem, z0, v4, List.length_map, nL_len, Tryz.results45]
    exact ret_d hbd h
  · have hl0 : l.length ≠ 0 := fun h => hz (List.eq_nil_of_length_eq_zero h)
    have z0 : ((l.length : Int) == 0) = false := by simp; omega
    have q1 := nL_getD (l := l) (j := 0) (by omega)
    have q2 := nL_getD (l := l) (j := l.length - 1) (by omega)
    have w3 : IntKind.i64.wrap ((l.length : Int) - 1) = ((l.length - 1 : Nat) : Int) := by rw [wrap64_id _ (by omega) (by omega)]; omega
    have d1 : decide (0 ≤ ((l.getD 0 0 : Nat) : Int)) = true := by simp only [decide_eq_true_eq]; omega
    have hlt := hS.lt _ (getD_mem 0 (by omega : l.length - 1 < l.length))
    have d2 : decide (((l.getD (l.length - 1) 0 : Nat) : Int) < ((2 ^ ws.sum : Nat) : Int)) = true := by simp only [decide_eq_true_eq]; exact_mod_cast hlt
    simp only [go_sem, z0, List.length_map, nL_len, q1, q2, w3, d1, Int.toNat_natCast, Int.toNat_zero, Tryz.results45]
    refine ⟨⟨by omega, by omega⟩, exQ (iD (ws.sum : Nat)) ⟨fun q => ?_, ?_⟩⟩
    · simp only [go_sem]
      exact fun σ' => ac' (sum_ac ws (by omega) (fun w hw => (hS.w.ok w hw).2) _ _ _ ⟨rfl, rfl⟩)
    simp only [go_sem, z0, v4, d2, q2, w3, List.length_map, nL_len, Int.toNat_natCast, Tryz.results45]
    refine ⟨fun q => ⟨q, by omega, by omega⟩, fun _ => by omega, ?_⟩
    rw [d1]
    exact ret_d hbd h
theorem clone_own (xs : List Int) (hl : xs.length ≤ 1000000) (σ : St) (G : Glob) (R : A → St → Prop) (h : R (.rs σ.length 1 0 xs.length (some 3)) (σ ++ [intsO xs])) : AC Tryz.prog G 63 [.d (isD xs)] σ R := by
  unfold isD
  refine ac_enter mixed Tryz.func63 rfl Tryz.ntmps63 (by simp only [go_sem]) fun hbd => ?_
  simp only [List.length_cons, List.length_nil, Nat.reduceAdd, Nat.reduceSub, List.replicate_succ, List.replicate_zero, List.cons_append, List.nil_append]
  simp only [go_sem, Tryz.results63]
  refine either_of (fun e => ?_) ?_
  · have hx : xs = [] := by simpa using e
    subst hx
    simp only [go_sem, Tryz.results63]
    exact ⟨_, _, Weak.empty 0 1 (some 3) rfl, h⟩
  · simp only [go_sem, Tryz.results63]
    rw [flat_ints, List.length_map]
    refine ⟨⟨by simp only [maxLen]; omega, by omega⟩, ret_keep [1] (by decide) hbd ?_⟩
    simp only [go_sem, keepL]
    exact h
theorem set_ac (cs ws : List Int) (x : D) (h1 : cs.length ≤ 1000000) (h2 : ws.length ≤ 1000000) (hx : x = .nils ∨ ∃ zs, x = isD zs) (σ : St) (G : Glob) (R : A → St → Prop) (h : R (.d (.agg [isD cs, isD ws, x])) σ) : AC Tryz.prog G 27 [.d (isD cs), .d (isD ws), .d x] σ R := by
  refine ac_enter' mixed Tryz.func27 rfl Tryz.ntmps27 (by simp only [go_sem]) fun hbd => ?_
  simp only [List.length_cons, List.length_nil, Nat.reduceAdd, Nat.reduceSub, List.replicate_succ, List.replicate_zero, List.cons_append, List.nil_append]
  simp only [go_sem, Tryz.results27]
  refine ac' (clone_ints cs h1 _ _ _ ?_)
  simp only [go_sem, Tryz.results27]
  refine ac' (clone_ints ws h2 _ _ _ ?_)
  rcases hx with rfl | ⟨zs, rfl⟩
  · simp only [isD, go_sem, Tryz.results27]
    exact ret_d hbd h
  · simp only [isD, go_sem, Tryz.results27]
    exact ret_d hbd h
def stI (ws : List Nat) (n : Nat) : List Int := nL (vals ws n) ++ List.replicate (32 - ws.length) 0
set_option maxHeartbeats 4000000 in
theorem State_ac (ws : List Nat) (hW : Ws ws) (x : D) (hx : x.one = true) (n : Nat) (hn : n < 4096) (σ : St) (G : Glob) (R : A → St → Prop) (h : R (.d (isD (stI ws n))) σ) : AC Tryz.prog G 28 [.d (setX ws x), dn n, .d (isD (List.replicate 32 0))] σ R := by
  have hl := hW.len
  refine ac_enter' mixed Tryz.func28 rfl Tryz.ntmps28 (by simp only [go_sem]) fun hbd => ?_
  simp only [List.length_cons, List.length_nil, Nat.reduceAdd, Nat.reduceSub, List.replicate_succ, List.replicate_zero, List.cons_append, List.nil_append]
  simp only [setX, go_sem, Tryz.results28]
  refine ac' (clone_own _ (by simp) _ _ _ ?_)
  simp only [go_sem, Tryz.results28]
  refine ac' (small_set ws hW x _ _ _ hx ?_)
  simp only [isD, go_sem, List.length_map, nL_len, cL_len, Tryz.results28]
  refine aw_loop (fun m fr st => ∃ j : Nat, j ≤ ws.length ∧ m = ws.length - j ∧ fr = [.any, dn (n / 2 ^ (ws.take j).sum), .any, .ref σ.length 0, .any, .any, .any, .rs (σ.length + 1) 1 0 32 (some 3), .any, .any, .any, .any, .any, .any, .any, .any, .any, .any, .d (.sl 1 ((nL (cL ws)).map iD)), dn ws.length, dn j, .any, .any, .any, .any, .any, .any, .any, .any, .any, .any, .any, .any, .any, .any, .any, .any, .any, .any, .any, .any, .any, .any, .any, .any, .any, .any] ∧
    st = σ ++ [some (.cells [.d (.sl 1 ((nL (cL ws)).map iD)), .d (.sl 1 ((nL ws).map iD)), .d x]), intsO (nL (vals (ws.take j) n) ++ List.replicate (32 - j) 0)]) ws.length _ ?_ ?_
  · exact Wk.mask [1, 3, 7, 18, 19, 20] ⟨0, by omega, rfl, by simp; rfl, by simp [vals, nL]⟩
  rintro m fr st ⟨j, hj, hm, rfl, rfl⟩
  rcases Nat.lt_or_ge j ws.length with hlt | hge
  · have hd : decide ((j : Int) < (ws.length : Int)) = true := by simp; omega
    have w2 := wrapS j (by omega)
    have q1 := nL_getD (l := cL ws) (j := j) (by rw [cL_len]; exact hlt)
    have q0 : (cL ws).getD j 0 = j := by unfold cL; rw [List.getD_eq_getElem?_getD, List.getElem?_range hlt]; rfl
    rw [q0] at q1
    have q2 := nL_getD hlt
    have hw := hW.ok _ (getD_mem 0 hlt)
    have hv : vals (ws.take (j + 1)) n = vals (ws.take j) n ++ [n / 2 ^ (ws.take j).sum % 2 ^ ws.getD j 0] := by rw [take_snoc 0 hlt, vals_snoc]
    have hs : (ws.take (j + 1)).sum = (ws.take j).sum + ws.getD j 0 := by rw [take_snoc 0 hlt, List.sum_append]; simp
    have hvl : (nL (vals (ws.take j) n)).length = j := by rw [nL_len, vals_len, List.length_take]; omega
    generalize ws.getD j 0 = w at *
    have hp := pow_le8 (w := w) (by omega)
    have hp1 := pow_pos2 w
    have v1 : bShl 1 (w : Int) = ((2 ^ w : Nat) : Int) := bShl_one (by omega)
    have v2 : IntKind.i64.wrap (((2 ^ w : Nat) : Int) - 1) = ((2 ^ w : Nat) : Int) - 1 := wrap64_id _ (by omega) (by omega)
    have hnn : n / 2 ^ (ws.take j).sum < 4096 := Nat.lt_of_le_of_lt (Nat.div_le_self _ _) hn
    have v3 : bAnd ((n / 2 ^ (ws.take j).sum : Nat) : Int) (((2 ^ w : Nat) : Int) - 1) = ((n / 2 ^ (ws.take j).sum % 2 ^ w : Nat) : Int) := bAnd_low (by omega) (by omega)
    have v4 : bShr ((n / 2 ^ (ws.take j).sum : Nat) : Int) (w : Int) = ((n / 2 ^ (ws.take (j + 1)).sum : Nat) : Int) := by rw [bShr_nat _ (by omega), Nat.div_div_eq_div_mul, ← Nat.pow_add, hs]
    have d1 : decide ((j : Int) < ((32 : Nat) : Int)) = true := by simp only [decide_eq_true_eq]; omega
    simp only [intsO, go_sem, hd, List.length_map, nL_len, cL_len, q1, q2, w2, v1, v2, v3, v4, d1, Int.toNat_natCast, Tryz.results28]
    have hll : (nL (vals (ws.take j) n) ++ List.replicate (32 - j) (0 : Int)).length = 32 := by rw [List.length_append, hvl, List.length_replicate]; omega
    have hsp := splice_intsA (l := nL (vals (ws.take j) n) ++ List.replicate (32 - j) (0 : Int)) (j := j) ((n / 2 ^ (ws.take j).sum % 2 ^ w : Nat) : Int) (by omega)
    have hset : (nL (vals (ws.take j) n) ++ List.replicate (32 - j) (0 : Int)).set j ((n / 2 ^ (ws.take j).sum % 2 ^ w : Nat) : Int) = nL (vals (ws.take (j + 1)) n) ++ List.replicate (32 - (j + 1)) 0 := by
      rw [hv, List.set_append_right _ _ (by omega), hvl, Nat.sub_self, show 32 - j = 32 - (j + 1) + 1 by omega, List.replicate_succ, List.set_cons_zero]
      unfold nL
      rw [List.map_append, List.append_assoc]; rfl
    rw [hset] at hsp
    rw [nL_len] at hvl
    rw [Nat.mul_one, hvl, List.length_replicate, hsp]
    exact ⟨⟨by omega, by omega⟩, ⟨by omega, by omega⟩, by omega, ⟨by omega, by omega⟩, by omega, by omega, Wk.mask [1, 3, 7, 18, 19, 20] ⟨ws.length - (j + 1), by omega, j + 1, by omega, rfl, rfl, rfl⟩⟩
  · have hd : decide ((j : Int) < (ws.length : Int)) = false := by simp; omega
    obtain rfl : j = ws.length := by omega
    simp only [intsO, go_sem, hd, Tryz.results28]
    rw [show nL (vals ws n) ++ List.replicate (32 - ws.length) 0 = stI ws n from rfl]
    refine ret_frz 1 1 0 ((stI ws n).map iD) rfl (lies_ints _) ?_
    have hsl : (stI ws n).length = 32 := by unfold stI; rw [List.length_append, nL_len, vals_len, List.length_replicate]; omega
    simp only [go_sem, List.length_map, hsl]
    exact ret_d hbd h
end Go.Proofs.YtmjlhbkgljcnoaaGreatDoor
end PartT15

section PartT16
/- The set of the states in which an expression is 1. -/
set_option linter.unusedSimpArgs false
set_option linter.unusedVariables false
set_option maxRecDepth 100000
namespace Go.Proofs.YtmjlhbkgljcnoaaGreatDoor
open Go Go.Ab

def cw (cells : List Cel) : List Int := cells.map (·.w)
theorem renL_ints (n : Nat) (p : List Nat) (l : List Int) : renL n p (l.map fun x => A.d (iD x)) = l.map fun x => A.d (iD x) := by
  induction l with
  | nil => rfl
  | cons x l ih => simp only [List.map_cons, go_sem, ih]
theorem rng_pair (n : Nat) : (List.range n).Pairwise (· < ·) := List.pairwise_lt_range
theorem widthsOf_ac (cells : List Cel) (hk : cells.length ≤ 6) (σ : St) (G : Glob) (R : A → St → Prop) (h : R (.tup [.d (isD (cw cells)), db ((cw cells).all okW)]) σ) : AC Tryz.prog G 22 [.d (celsD cells), .d (isD (nL (List.range cells.length)))] σ R := by
  obtain ⟨L, hL⟩ : ∃ L, List.range cells.length = L := ⟨_, rfl⟩
  have hLl : L.length = cells.length := by rw [← hL]; simp
  have hLat : ∀ j, j < cells.length → L.getD j 0 = j := fun j hj => by rw [← hL, List.getD_eq_getElem?_getD, List.getElem?_range hj]; rfl
  have hLp : L.Pairwise (· < ·) := hL ▸ rng_pair _
  have hLb : ∀ c ∈ L, c < 32 := fun c hc => by rw [← hL] at hc; have := List.mem_range.1 hc; omega
  rw [hL]
  refine ac_enterC' [11] mixed Tryz.func22 rfl Tryz.ntmps22 (by simp only [go_sem]) fun hbd => ?_
  simp only [List.length_cons, List.length_nil, Nat.reduceAdd, Nat.reduceSub, List.replicate_succ, List.replicate_zero, List.cons_append, List.nil_append]
  simp only [isD, celsD, go_sem, Tryz.results22]
  refine ac' (incr_ac L (by omega) hLp _ _ _ ?_)
  simp only [isD, go_sem, List.length_map, nL_len, Tryz.results22]
  refine aw_cut (fun fr st => fr = [.any, .d (.sl 1 ((nL L).map iD)), .any, .any, .any, .any, .d (isD (cw cells)), .any, .any, .any, .any, .any, .any, .any, .any, .any, .any, .any, .any, .any, .any, .any, .any, .any, .any, .any, .any, .any, .any, .any, .any, .any, .any, .any, .any, .any, .any, .any, .any] ∧ st = σ ++ [none]) ?_ ?_
  rotate_left
  · rintro fr st ⟨rfl, rfl⟩
    simp only [isD, go_sem, Tryz.results22]
    refine ac' (shape_ac L (cw cells) hLp hLb (by unfold cw; rw [hLl, List.length_map]) (by omega) _ _ _ ?_)
    simp only [isD, go_sem, Tryz.results22]
    exact ret_bd hbd rfl h
  simp only [isD, go_sem, List.length_map, nL_len, Tryz.results22]
  refine aw_loop (fun m fr st => ∃ j : Nat, j ≤ cells.length ∧ m = cells.length - j ∧ fr = [.d (.sl 6 (cells.map celD)), .d (.sl 1 ((nL L).map iD)), .any, .any, .any, .any, .rs σ.length 1 0 j (some 3), .any, .any, .any, .any, .any, .d (.sl 1 ((nL L).map iD)), dn cells.length, dn j, .any, .any, .any, .any, .any, .any, .any, .any, .any, .any, .any, .any, .any, .any, .any, .any, .any, .any, .any, .any, .any, .any, .any, .any] ∧ st = σ ++ [intsO ((cw cells).take j)]) cells.length _ ?_ ?_
  · refine ⟨_, _, (Weak.mask [0, 1, 6, 12, 13, 14]).trans (Weak.empty 6 1 (some 3) rfl), 0, by omega, rfl, ?_, rfl⟩
    rw [← hLl]; rfl
  rintro m fr st ⟨j, hj, hm, rfl, rfl⟩
  rcases Nat.lt_or_ge j cells.length with hlt | hge
  · have hd : decide ((j : Int) < (cells.length : Int)) = true := by simp; omega
    have w2 := wrapS j (by omega)
    have q1 := nL_getD (l := L) (j := j) (by omega)
    rw [hLat j hlt] at q1
    have e1 := celD_at (l := cells) (j := j) hlt
    simp only [celD] at e1
    have d1 : decide ((j : Int) < 0) = false := by simp only [decide_eq_false_iff_not]; omega
    have d2 : decide ((cells.length : Int) ≤ (j : Int)) = false := by simp only [decide_eq_false_iff_not]; omega
    have hcw : (cw cells).take (j + 1) = (cw cells).take j ++ [(cells.getD j cel0).w] := by
      rw [take_snoc 0 (by unfold cw; simpa using hlt)]
      congr 2
      unfold cw
      rw [List.getD_eq_getElem?_getD, List.getElem?_map, List.getElem?_eq_getElem hlt, List.getD_eq_getElem?_getD, List.getElem?_eq_getElem hlt]; rfl
    have hll : ((cw cells).take j).length = j := by unfold cw; rw [List.length_take, List.length_map]; omega
    simp only [intsO, go_sem, hd, List.length_map, nL_len, hLl, q1, d1, d2, w2, e1, Int.toNat_natCast, Tryz.results22]
    refine ⟨⟨by omega, by omega⟩, ⟨by omega, by omega⟩, ⟨by omega, by simp only [maxLen]; omega, by omega⟩, Wk.keep [0, 1, 6, 12, 13, 14] [2] (by decide) (Nat.le_refl _) hbd ⟨cells.length - (j + 1), by omega, j + 1, hlt, rfl, ?_, ?_⟩⟩
    · simp only [go_sem]
    · rw [hcw, List.map_append]; simp only [go_sem, renL_ints, List.map_cons, List.map_nil]
  · have hd : decide ((j : Int) < (cells.length : Int)) = false := by simp; omega
    obtain rfl : j = cells.length := by omega
    have hll : (cw cells).take cells.length = cw cells := List.take_of_length_le (by unfold cw; simp)
    simp only [intsO, go_sem, hd, hll, Tryz.results22]
    refine Wk.frz 0 1 0 ((cw cells).map iD) rfl (lies_ints _) ?_
    have hcl : (cw cells).length = cells.length := by simp [cw]
    simp only [go_sem, List.length_map, hcl]
    exact Wk.mask [1, 6] ⟨rfl, rfl⟩
def sat (ws : List Nat) (e : Ex) (n : Nat) : Bool := evN (stI ws n) (stI ws n) e == 1
def satL (ws : List Nat) (e : Ex) : List Nat := (List.range (2 ^ ws.sum)).filter (sat ws e)
def zeroS : D := .agg [.nils, .nils, .nils]
theorem widths_nat (cells : List Cel) (h : (cw cells).all okW = true) : ∃ ws : List Nat, cw cells = nL ws ∧ ws.length = cells.length ∧ ∀ w ∈ ws, 1 ≤ w ∧ w ≤ 8 := by
  rw [List.all_eq_true] at h
  have h' : ∀ x ∈ cw cells, 1 ≤ x ∧ x ≤ 8 := fun x hx => by have := h x hx; simpa [okW] using this
  refine ⟨(cw cells).map Int.toNat, ?_, by simp [cw], fun w hw => ?_⟩
  · unfold nL
    rw [List.map_map]
    conv => lhs; rw [← List.map_id (cw cells)]
    exact List.map_congr_left fun x hx => by have := h' x hx; show x = ((x.toNat : Nat) : Int); omega
  · obtain ⟨x, hx, rfl⟩ := List.mem_map.1 hw
    have := h' x hx
    omega
theorem idxL_supp {o : Int} {e : Ex} {x : Int} (hx : x ∈ idxL (supB o e) 32) : ∃ n ∈ e.lvs, n.op = o ∧ n.n.toNat = x.toNat ∧ 0 ≤ x := by
  unfold idxL at hx
  obtain ⟨i, hi, rfl⟩ := List.mem_map.1 hx
  obtain ⟨h1, h2⟩ := List.mem_filter.1 hi
  have := List.mem_range.1 h1
  rw [supB_at o e this, List.any_eq_true] at h2
  obtain ⟨n, hn, hq⟩ := h2
  rw [Bool.and_eq_true, beq_iff_eq, beq_iff_eq] at hq
  exact ⟨n, hn, hq.1, by rw [hq.2]; rfl, by simp⟩
theorem supp_lt {o : Int} (ho : o = 2 ∨ o = 3) {e : Ex} {cells : List Cel} {pair : Bool} (hd : e.deep 40 = true) (hv : e.over cells pair = true) {x : Int} (hx : x ∈ idxL (supB o e) 32) : 0 ≤ x ∧ x < cells.length := by
  obtain ⟨n, hn, hop, hnx, h0⟩ := idxL_supp hx
  rw [over_lvs cells pair 40 e hd, List.all_eq_true] at hv
  have hq := hv n hn
  have hf := fits_n (lvs_op 40 e hd n hn).2
  have hb : (n.op == 3 || n.op == 2) = true := by rw [hop]; rcases ho with rfl | rfl <;> rfl
  simp only [Ex.overN, hb, Bool.true_and, Bool.and_eq_true, Bool.not_eq_true', Bool.or_eq_false_iff, decide_eq_false_iff_not] at hq
  omega
theorem filter_snoc (p : Nat → Bool) (j : Nat) : (List.range (j + 1)).filter p = (List.range j).filter p ++ if p j then [j] else [] := by
  rw [List.range_succ, List.filter_append]
  congr 1
  cases h : p j <;> simp [h]
set_option maxHeartbeats 16000000 in
theorem Of_ac (cells : List Cel) (hk : cells.length ≤ 6) (e : Ex) (hok : e.Ok) (hn : e.nodes ≤ 600) (σ : St) (G : Glob) (hG : G.g 0 = some masksD) (hT : G.g 1 = some tabD) (R : A → St → Prop)
    (h1 : ∀ code : Int, code ≠ 0 → (∀ ws : List Nat, cw cells = nL ws → Ws ws → e.deep 40 = true → e.over cells false = true → e.w = 1 → False) → R (.tup [.d zeroS, di code]) σ)
    (h2 : ∀ ws : List Nat, cw cells = nL ws → Ws ws → ws.length = cells.length → e.deep 40 = true → e.over cells false = true → e.w = 1 → R (.tup [.d (setX ws (isD (nL (satL ws e)))), di 0]) σ) :
    AC Tryz.prog G 6 [.d (celsD cells), .d (isD (nL (List.range cells.length))), .d e.d] σ R := by
  rw [Ex.d_eq]
  refine ac_enterC' [9, 15, 18] mixed Tryz.func6 rfl Tryz.ntmps6 (by simp only [go_sem]) fun hbd => ?_
  simp only [List.length_cons, List.length_nil, Nat.reduceAdd, Nat.reduceSub, List.replicate_succ, List.replicate_zero, List.cons_append, List.nil_append]
  simp only [go_sem, Tryz.results6]
  refine ac' (widthsOf_ac cells hk _ _ _ ?_)
  simp only [go_sem, Tryz.results6]
  have hz : ∀ code : Int, code ≠ 0 → (∀ ws : List Nat, cw cells = nL ws → Ws ws → e.deep 40 = true → e.over cells false = true → e.w = 1 → False) → ∀ l : St, ∃ r σ', Weak G σ.length [.tup [.d (.agg [.nils, .nils, .nils]), di code]] (σ ++ l) [r] σ' ∧ R r σ' := fun code hc hb l => ret_bd hbd rfl (h1 code hc hb)
  refine ⟨fun q => hz 1 (by decide) (fun ws e1 hW _ _ _ => by rw [e1, hW.all] at q; simp at q) _, fun q => ?_⟩
  obtain ⟨ws, hws, hwl, hwok⟩ := widths_nat cells (by simpa using q)
  rw [hws]
  refine ac' (sum_ac ws (by omega) (fun w hw => (hwok w hw).2) _ _ _ ?_)
  simp only [go_sem, Tryz.results6]
  refine ⟨fun q2 => hz 2 (by decide) (fun ws' e1 hW' _ _ _ => by
    have h3 := congrArg (List.map Int.toNat) (hws.symm.trans e1)
    have h4 : ws = ws' := by simpa [nL, List.map_map, Function.comp_def] using h3
    subst h4
    have := hW'.sum
    have : (12 : Int) < (ws.sum : Int) := by simpa using q2
    omega) _, fun q2 => ?_⟩
  have hsum : (ws.sum : Int) ≤ 12 := by simpa using q2
  have hW : Ws ws := ⟨by omega, hwok, by omega⟩
  rw [← Ex.d_eq e]
  refine ac' (valid_ac e hok hn cells false _ _ hG _ ?_)
  rw [Ex.d_eq e]
  simp only [go_sem, Tryz.results6]
  refine ⟨fun q => by simpa using q, fun q4 => hz 60 (by decide) (fun ws' _ _ hd hv hw => by rw [hd, hv, hw] at q4; simp at q4) _, fun q3 => ?_⟩
  simp only [Bool.or_eq_false_iff, Bool.not_eq_false', Bool.and_eq_true, bne_eq_false_iff_eq] at q3
  obtain ⟨⟨hd, hv⟩, hw1⟩ := q3
  have hR := h2 ws hws hW hwl hd hv hw1
  clear h2 q q2 h1
  have hsup : ∀ x ∈ idxL (supB 2 e) 32, x ∈ nL (List.range cells.length) := fun x hx => by
    obtain ⟨a, b⟩ := supp_lt (.inl rfl) hd hv hx
    exact List.mem_map.2 ⟨x.toNat, List.mem_range.2 (by omega), by show ((x.toNat : Nat) : Int) = x; omega⟩
  have hsl := idxL_len (supB 2 e) 32
  have hrl : (nL (List.range cells.length)).length ≤ 1000000 := by rw [nL_len, List.length_range]; omega
  refine aw_cut (fun fr st => fr = [.any, .d (isD (nL (List.range cells.length))), .any, .any, .any, .ref σ.length 0, .ref (σ.length + 1) 0, .any, .d (isD (nL ws)), .any, .any, .d (isD (idxL (supB 2 e) 32)), .any, .any, .any, .any, .any, .any, .any, .any, .any, .any, .any, .any, .any, .any, .any, .any, .any, .any, .any, .any, .any, .any, .any, .any, .any, .any, .any, .any, .any, .any, .any, .any, .any, .any, .any, .any, .any, .any, .any, .any, .any, .any, .any, .any, .any, .any, .any, .any, .any, .any, .any, .any, .any, .any, .any, .any, .any, .any, .any, .any, .any, .any, .any, .any, .any, .any, .any, .any, .any, .any, .any, .any] ∧ st = σ ++ [some (.cells (exC e)), some (.cells [.d .nils, .d .nils, .d .nils])]) ?_ ?_
  · simp only [go_sem, Tryz.results6]
    rw [← Ex.d_eq e]
    refine ac' (support_ac e hok hn hd _ _ hG _ ?_)
    rw [Ex.d_eq e]
    simp only [go_sem, Tryz.results6]
    exact Wk.mask [1, 5, 6, 8, 11] ⟨rfl, rfl⟩
  rintro fr st ⟨rfl, rfl⟩
  generalize idxL (supB 2 e) 32 = now at *
  simp only [go_sem, Tryz.results6]
  refine aw_cut (fun fr st => fr = [.any, .d (isD (nL (List.range cells.length))), .any, .any, .any, .ref σ.length 0, .ref (σ.length + 1) 0, .any, .d (isD (nL ws)), .any, .any, .any, .any, .any, .any, .any, .any, .any, .any, .any, .any, .any, .any, .any, .any, .any, .any, .any, .any, .any, .any, .any, .any, .any, .any, .any, .any, .any, .any, .any, .any, .any, .any, .any, .any, .any, .any, .any, .any, .any, .any, .any, .any, .any, .any, .any, .any, .any, .any, .any, .any, .any, .any, .any, .any, .any, .any, .any, .any, .any, .any, .any, .any, .any, .any, .any, .any, .any, .any, .any, .any, .any, .any, .any] ∧ st = σ ++ [some (.cells (exC e)), some (.cells [.d .nils, .d .nils, .d .nils])]) ?_ ?_
  · simp only [isD, go_sem, List.length_map, Tryz.results6]
    refine aw_loop (fun m fr st => ∃ j : Nat, j ≤ now.length ∧ m = now.length - j ∧ fr = [.any, .d (isD (nL (List.range cells.length))), .any, .any, .any, .ref σ.length 0, .ref (σ.length + 1) 0, .any, .d (isD (nL ws)), .any, .any, .any, .any, .any, .any, .any, .any, .any, .any, .any, .any, .any, .any, .any, .any, .any, .any, .any, .any, .any, .any, .any, .any, .any, .any, .any, .any, .any, .any, .any, .any, .any, .any, .any, .any, .any, .any, .d (.sl 1 (now.map iD)), dn now.length, dn j, .any, .any, .any, .any, .any, .any, .any, .any, .any, .any, .any, .any, .any, .any, .any, .any, .any, .any, .any, .any, .any, .any, .any, .any, .any, .any, .any, .any, .any, .any, .any, .any, .any, .any] ∧ st = σ ++ [some (.cells (exC e)), some (.cells [.d .nils, .d .nils, .d .nils])]) now.length _ (Wk.mask [1, 5, 6, 8, 47, 48, 49] ⟨0, by omega, rfl, rfl, rfl⟩) ?_
    rintro m fr st ⟨j, hj, hm, rfl, rfl⟩
    rcases Nat.lt_or_ge j now.length with hlt | hge
    · have hdd : decide ((j : Int) < (now.length : Int)) = true := by simp; omega
      have w2 := wrapS j (by omega)
      have q1 := getD_isD hlt
      have hmem := hsup _ (getD_mem 0 hlt)
      simp only [go_sem, hdd, List.length_map, q1, Int.toNat_natCast, Tryz.results6]
      refine ⟨⟨by omega, by omega⟩, ac' (contains_ac _ hrl _ _ _ _ ?_)⟩
      rw [decide_eq_true hmem]
      simp only [go_sem, w2, Tryz.results6]
      exact Wk.mask [1, 5, 6, 8, 47, 48, 49] ⟨now.length - (j + 1), by omega, j + 1, by omega, rfl, rfl, rfl⟩
    · have hdd : decide ((j : Int) < (now.length : Int)) = false := by simp; omega
      simp only [go_sem, hdd, Tryz.results6]
      exact Wk.mask [1, 5, 6, 8] ⟨rfl, rfl⟩
  clear hsup hsl hz
  rintro fr st ⟨rfl, rfl⟩
  simp only [go_sem, Tryz.results6]
  have hcr : isD (nL (List.range cells.length)) = isD (nL (cL ws)) := by unfold cL; rw [hwl]
  rw [hcr]
  refine ac' (set_ac _ _ .nils (by rw [nL_len, cL_len]; omega) (by rw [nL_len]; omega) (.inl rfl) _ _ _ ?_)
  simp only [exC, go_sem, Tryz.results6]
  refine ⟨⟨by omega, by omega, by omega, by omega⟩, ?_⟩
  refine aw_cut (fun fr st => fr = [.any, .any, .any, .any, .any, .ref σ.length 0, .ref (σ.length + 1) 0, .any, .d (isD (nL ws)), .any, .any, .any, .any, .any, .ref (σ.length + 2) 0, .d (isD (List.replicate 32 0)), .ref (σ.length + 4) 0, .any, .any, .any, .any, .any, .any, .any, .any, .any, .any, .any, .any, .any, .any, .any, .any, .any, .any, .any, .any, .any, .any, .any, .any, .any, .any, .any, .any, .any, .any, .any, .any, .any, .any, .any, .any, .any, .any, .any, .any, .any, .any, .any, .any, .any, .any, .any, .any, .any, .any, .any, .any, .any, .any, .any, .any, .any, .any, .any, .any, .any, .any, .any, .any, .any, .any, .any] ∧
      st = σ ++ [some (.cells (exC e)), some (.cells [.d .nils, .d .nils, .d .nils]), some (.cells [.d (isD (nL (cL ws))), .d (isD (nL ws)), .d .nils]), none, some (.cells (wC zeroW))]) ?_ ?_
  · simp only [go_sem, Tryz.results6]
    refine Wk.frz 3 1 0 ((List.replicate 32 (0 : Int)).map iD) rfl (lies_ints _) ?_
    simp only [go_sem, List.length_map, List.length_replicate]
    exact Wk.mask [5, 6, 8, 14, 15, 16] ⟨rfl, rfl⟩
  rintro fr st ⟨rfl, rfl⟩
  simp only [go_sem, Tryz.results6]
  refine ac' (sum_ac ws (by omega) (fun w hw => (hwok w hw).2) _ _ _ ?_)
  have v1 : bShl 1 (ws.sum : Int) = ((2 ^ ws.sum : Nat) : Int) := bShl_one (by omega)
  have hp := pow12 hW.sum
  obtain ⟨N, hN⟩ : ∃ N, 2 ^ ws.sum = N := ⟨_, rfl⟩
  rw [hN] at hp v1
  simp only [exC, go_sem, v1, Tryz.results6]
  refine ⟨by omega, aw_loop (fun m fr st => ∃ (j : Nat) (W : List Nat), j ≤ N ∧ m = N - j ∧ Words W ∧ (∀ n, bitW W n = (decide (n < j) && sat ws e n)) ∧ fr = [.any, .any, .any, .any, .any, .ref σ.length 0, .ref (σ.length + 1) 0, .any, .any, .any, .any, .any, .any, .any, .ref (σ.length + 2) 0, .d (isD (List.replicate 32 0)), .ref (σ.length + 4) 0, .any, .any, .any, .any, .any, .any, .any, .any, .any, .any, .any, .any, .any, .any, .any, .any, .any, .any, .any, .any, .any, .any, .any, .any, .any, .any, .any, .any, .any, .any, .any, .any, .any, .any, .any, .any, .any, .any, .any, .any, .any, .any, .any, .any, .any, .any, .any, .any, dn (N), dn j, .any, .any, .any, .any, .any, .any, .any, .any, .any, .any, .any, .any, .any, .any, .any, .any, .any] ∧
      st = σ ++ [some (.cells (exC e)), some (.cells [.d .nils, .d .nils, .d .nils]), some (.cells [.d (isD (nL (cL ws))), .d (isD (nL ws)), .d .nils]), none, some (.cells (wC W))]) (N) _ ?_ ?_⟩
  · exact Wk.mask [5, 6, 14, 15, 16, 65, 66] ⟨0, zeroW, by omega, rfl, zeroW_words, fun n => by rw [zeroW_bit]; simp, rfl, rfl⟩
  rintro m fr st ⟨j, W, hj, hm, hWW, hb, rfl, rfl⟩
  rcases Nat.lt_or_ge j (N) with hlt | hge
  · have hdd : decide ((j : Int) < (N : Int)) = true := by simp only [decide_eq_true_eq]; omega
    have w2 := wrapS j (by omega)
    have hsl : (stI ws j).length = 32 := by unfold stI; rw [List.length_append, nL_len, vals_len, List.length_replicate]; omega
    have hev := eval_ac e hok hn hd (stI ws j) (stI ws j) (by rw [hsl]; decide) (by rw [hsl]; decide)
    simp only [exC, go_sem, hdd, Tryz.results6]
    refine ac' (State_ac ws hW .nils rfl j (by omega) _ _ _ ?_)
    simp only [go_sem, Tryz.results6]
    rw [← Ex.d_eq e]
    refine ac' (hev _ _ hG _ ?_)
    have hsat : sat ws e j = (((evN (stI ws j) (stI ws j) e : Nat) : Int) == 1) := by unfold sat; rw [Bool.eq_iff_iff, beq_iff_eq, beq_iff_eq]; omega
    rw [Ex.d_eq e]
    simp only [go_sem, ← hsat, Tryz.results6]
    refine ⟨fun q => ?_, fun q => ?_⟩
    · refine ac' (add_ac W hWW j (by omega) _ (by simp) _ _ fun r => ?_)
      simp only [go_sem, w2, List.set_cons_succ, List.set_cons_zero, Tryz.results6]
      refine Wk.mask [5, 6, 14, 15, 16, 65, 66] ⟨N - (j + 1), by omega, j + 1, addW W j, by omega, rfl, addW_words hWW j, fun n => ?_, rfl, rfl⟩
      rw [addW_bit hWW (by omega), hb]
      by_cases h1 : n = j
      · subst h1; simp [q]
      · have e1 : (n == j) = false := by simp [h1]
        have e2 : decide (n < j + 1) = decide (n < j) := by apply decide_eq_decide.2; omega
        rw [e1, e2, Bool.or_false]
    · simp only [go_sem, w2, Tryz.results6]
      refine Wk.mask [5, 6, 14, 15, 16, 65, 66] ⟨N - (j + 1), by omega, j + 1, W, by omega, rfl, hWW, fun n => ?_, rfl, rfl⟩
      rw [hb]
      by_cases h1 : n = j
      · subst h1; simp [q]
      · have e2 : decide (n < j + 1) = decide (n < j) := by apply decide_eq_decide.2; omega
        rw [e2]
  · have hdd : decide ((j : Int) < (N : Int)) = false := by simp only [decide_eq_false_iff_not]; omega
    obtain rfl : j = N := by omega
    have hli : listW W 64 = satL ws e := by
      rw [listW_full, satL, hN]
      have : ∀ M, j ≤ M → (List.range M).filter (bitW W) = (List.range j).filter (sat ws e) := fun M hM => by
        obtain ⟨d, rfl⟩ : ∃ d, M = j + d := ⟨M - j, by omega⟩
        rw [List.range_add, List.filter_append]
        have a1 : (List.range j).filter (bitW W) = (List.range j).filter (sat ws e) := List.filter_congr fun n hn => by
          have := List.mem_range.1 hn
          rw [hb]; simp [this]
        have a2 : ((List.range d).map (j + ·)).filter (bitW W) = [] := by
          rw [List.filter_eq_nil_iff]
          intro n hn
          obtain ⟨i, -, rfl⟩ := List.mem_map.1 hn
          rw [hb]
          have : decide (j + i < j) = false := by simp only [decide_eq_false_iff_not]; omega
          rw [this]; simp
        rw [a1, a2, List.append_nil]
      exact this 4096 hp
    simp only [exC, go_sem, hdd, Tryz.results6]
    refine ac' (list_ac W hWW _ (by simp) _ hT _ ?_)
    rw [show (listW W 64).map Int.ofNat = nL (satL ws e) by rw [hli]; rfl]
    simp only [isD, go_sem, Tryz.results6]
    exact ret_bd hbd rfl hR
end Go.Proofs.YtmjlhbkgljcnoaaGreatDoor
end PartT16

section PartT17
/- Combined sets: Meet, Minus. -/
set_option linter.unusedSimpArgs false
set_option linter.unusedVariables false
set_option maxRecDepth 100000
namespace Go.Proofs.YtmjlhbkgljcnoaaGreatDoor
open Go Go.Ab

theorem renL_wC (n : Nat) (p : List Nat) (W : List Nat) : renL n p (wC W) = wC W := by
  unfold wC
  induction W with
  | nil => rfl
  | cons x l ih => simp only [List.map_cons, go_sem, ih]
/-- A function of words that works bit by bit. -/
structure WF (f : Nat → Nat → Nat) (op : Bool → Bool → Bool) : Prop where
  lt : ∀ x y, U64 x → U64 y → U64 (f x y)
  bit : ∀ x y, U64 x → U64 y → ∀ k, (f x y).testBit k = op (x.testBit k) (y.testBit k)
  zero : op false false = false
/-- What a combination holds. -/
def cmbL (op : Bool → Bool → Bool) (a b : List Nat) : List Nat := (List.range 4096).filter fun n => op (a.contains n) (b.contains n)
def zipW (f : Nat → Nat → Nat) (V W : List Nat) (j : Nat) : List Nat := (List.range j).foldl (fun U i => U.set i (f (V.getD i 0) (W.getD i 0))) V
theorem zipW_succ (f : Nat → Nat → Nat) (V W : List Nat) (j : Nat) : zipW f V W (j + 1) = (zipW f V W j).set j (f (V.getD j 0) (W.getD j 0)) := by
  unfold zipW
  rw [List.range_succ, List.foldl_append]; rfl
theorem zipW_len (f : Nat → Nat → Nat) (V W : List Nat) : ∀ j, (zipW f V W j).length = V.length
  | 0 => rfl
  | j + 1 => by rw [zipW_succ, List.length_set, zipW_len f V W j]
theorem zipW_at (f : Nat → Nat → Nat) (V W : List Nat) : ∀ j i, i < V.length → (zipW f V W j).getD i 0 = if i < j then f (V.getD i 0) (W.getD i 0) else V.getD i 0
  | 0, i, _ => by rw [if_neg (by omega)]; rfl
  | j + 1, i, hi => by
    rw [zipW_succ, getD_set, zipW_len, zipW_at f V W j i hi]
    by_cases h : j = i
    · subst h; rw [if_pos ⟨rfl, hi⟩, if_pos (by omega)]
    · rw [if_neg (fun q => h q.1)]
      by_cases h2 : i < j
      · rw [if_pos h2, if_pos (by omega)]
      · rw [if_neg h2, if_neg (by omega)]
theorem zipW_words {f : Nat → Nat → Nat} {op : Bool → Bool → Bool} (hf : WF f op) {V W : List Nat} (hV : Words V) (hW : Words W) (j : Nat) : Words (zipW f V W j) := by
  refine ⟨by rw [zipW_len, hV.1], fun x hx => ?_⟩
  obtain ⟨i, hi, rfl⟩ := List.mem_iff_getElem.1 hx
  have e : (zipW f V W j)[i] = (zipW f V W j).getD i 0 := by rw [List.getD_eq_getElem?_getD, List.getElem?_eq_getElem hi]; rfl
  rw [e, zipW_at f V W j i (by rw [zipW_len] at hi; exact hi)]
  split
  · exact hf.lt _ _ (hV.at_ i) (hW.at_ i)
  · exact hV.at_ i
theorem zipW_list {f : Nat → Nat → Nat} {op : Bool → Bool → Bool} (hf : WF f op) {a b : List Nat} (ha : ∀ n ∈ a, n < 4096) (hb : ∀ n ∈ b, n < 4096) : listW (zipW f (mapW a) (mapW b) 64) 64 = cmbL op a b := by
  rw [listW_full]
  unfold cmbL
  apply List.filter_congr
  intro n hn
  have hn := List.mem_range.1 hn
  have hV := mapW_words a
  have hW := mapW_words b
  unfold bitW
  rw [zipW_at f _ _ 64 (n / 64) (by rw [hV.1]; omega), if_pos (by omega), hf.bit _ _ (hV.at_ _) (hW.at_ _)]
  have e1 := mapW_bit ha n
  have e2 := mapW_bit hb n
  unfold bitW at e1 e2
  rw [e1, e2]
set_option maxHeartbeats 8000000 in
theorem combine_ac (g : FuncId) (f : Nat → Nat → Nat) (op : Bool → Bool → Bool) (hf : WF f op) (G : Glob) (hG : G.g 1 = some tabD) (hg : ∀ x y, U64 x → U64 y → ∀ (σ : St) (R : A → St → Prop), R (du (f x y)) σ → AC Tryz.prog G g [du x, du y] σ R)
    (ws a b : List Nat) (hA : Ss ws a) (hB : Ss ws b) (σ : St) (R : A → St → Prop) (h : R (.tup [.d (setX ws (isD (nL (cmbL op a b)))), di 0]) σ) : AC Tryz.prog G 54 [.d (setX ws (isD (nL a))), .d (setX ws (isD (nL b))), .fn (.func g) [] []] σ R := by
  have hw := hA.w.len
  refine ac_enterC' [3, 4] mixed Tryz.func54 rfl Tryz.ntmps54 (by simp only [go_sem]) fun hbd => ?_
  simp only [List.length_cons, List.length_nil, Nat.reduceAdd, Nat.reduceSub, List.replicate_succ, List.replicate_zero, List.cons_append, List.nil_append]
  have hbx : (σ ++ [some (.cells [.d (isD (nL (cL ws))), .d (isD (nL ws)), .d (isD (nL a))]), some (.cells [.d (isD (nL (cL ws))), .d (isD (nL ws)), .d (isD (nL b))]), some (.cells [.d .nils, .d .nils, .d .nils])]) = σ ++ [some (.cells [.d (isD (nL (cL ws))), .d (isD (nL ws)), .d (isD (nL a))]), some (.cells [.d (isD (nL (cL ws))), .d (isD (nL ws)), .d (isD (nL b))]), some (.cells [.d .nils, .d .nils, .d .nils])] := rfl
  have hcl : (nL (cL ws)).length ≤ 1000000 := by rw [nL_len, cL_len]; omega
  have hwl : (nL ws).length ≤ 1000000 := by rw [nL_len]; omega
  simp only [setX, go_sem, Tryz.results54]
  refine aw_cut (fun fr st => fr = [.any, .any, .fn (.func g) [] [], .ref σ.length 0, .ref (σ.length + 1) 0, .any, .ref (σ.length + 2) 0, .any, .any, .any, .any, .any, .any, .any, .any, .any, .any, .any, .any, .any, .any, .any, .any, .any, .any, .any, .any, .any, .any, .any, .any, .any, .any, .any, .any, .any, .any, .any, .any, .any, .any, .any, .any, .any, .any, .any, .any, .any, .any, .any, .any, .any, .any, .any, .any, .any, .any, .any, .any, .any, .any, .any] ∧ st = σ ++ [some (.cells [.d (isD (nL (cL ws))), .d (isD (nL ws)), .d (isD (nL a))]), some (.cells [.d (isD (nL (cL ws))), .d (isD (nL ws)), .d (isD (nL b))]), some (.cells [.d .nils, .d .nils, .d .nils])]) ?_ ?_
  · simp only [go_sem, Tryz.results54]
    refine ac' (valid_set ws a hA _ _ _ ?_)
    simp only [go_sem, Tryz.results54]
    refine ex' (.bool true) ⟨fun _ => ?_, ?_⟩
    · simp only [go_sem]
      exact ac' (valid_set ws b hB _ _ _ ⟨rfl, rfl⟩)
    simp only [go_sem, Tryz.results54]
    refine ex' (.bool true) ⟨fun _ => ?_, ?_⟩
    · simp only [go_sem]
      exact ac' (equal_ints _ _ hcl _ _ _ (by rw [beq_self_eq_true]; exact ⟨rfl, rfl⟩))
    simp only [go_sem, Tryz.results54]
    refine ex' (.bool true) ⟨fun _ => ?_, ?_⟩
    · simp only [go_sem]
      exact ac' (equal_ints _ _ hwl _ _ _ (by rw [beq_self_eq_true]; exact ⟨rfl, rfl⟩))
    simp only [go_sem, Tryz.results54]
    exact Wk.mask [2, 3, 4, 6] ⟨rfl, rfl⟩
  rintro fr st ⟨rfl, rfl⟩
  have h1 := mapW_words a
  have h2 := mapW_words b
  obtain ⟨V, hV⟩ : ∃ V, mapW a = V := ⟨_, rfl⟩
  obtain ⟨W, hW⟩ : ∃ W, mapW b = W := ⟨_, rfl⟩
  rw [hV] at h1
  rw [hW] at h2
  have v1 := wC_toDs V
  have v2 := wC_toDs W
  have l1 := h1.1
  have l2 := h2.1
  have e1 : List.map A.d (List.map (fun (x : Nat) => D.int IntKind.u64 (x : Int)) V) = wC V := by rw [List.map_map]; rfl
  have e2 : List.map A.d (List.map (fun (x : Nat) => D.int IntKind.u64 (x : Int)) W) = wC W := by rw [List.map_map]; rfl
  simp only [go_sem]
  refine aw_cut (fun fr st => fr = [.any, .any, .fn (.func g) [] [], .ref σ.length 0, .ref (σ.length + 1) 0, .any, .ref (σ.length + 2) 0, .any, .ref (σ.length + 3) 0, .ref (σ.length + 4) 0, .any, .any, .any, .any, .any, .any, .any, .any, .any, .any, .any, .any, .any, .any, .any, .any, .any, .any, .any, .any, .any, .any, .any, .any, .any, .any, .any, .any, .any, .any, .any, .any, .any, .any, .any, .any, .any, .any, .any, .any, .any, .any, .any, .any, .any, .any, .any, .any, .any, .any, .any, .any] ∧ st = σ ++ [some (.cells [.d (isD (nL (cL ws))), .d (isD (nL ws)), .d (isD (nL a))]), some (.cells [.d (isD (nL (cL ws))), .d (isD (nL ws)), .d (isD (nL b))]), some (.cells [.d .nils, .d .nils, .d .nils]), some (.cells (wC V)), some (.cells (wC W))]) ?_ ?_
  · refine aw_plan (.tk 2 0 <| .pure 2 <| .tk 2 3 <| .pure 5 <| .alt 6 (.tk 3 7 <| .done) <| .alt 7 (.take 6 <| .tk 2 8 <| .done) <| .stop) (by kernel_rfl) ?_
    simp only [go_sem, Tryz.results54]
    refine Go.Ab.exP (.d (wD V)) ⟨fun σ' => ac' (hV ▸ mapOf_ac a hA.len hA.lt12 _ _ _ ⟨rfl, rfl⟩), ?_⟩
    simp only [go_sem, Tryz.results54]
    refine Go.Ab.exP (.d (wD W)) ⟨fun σ' => ac' (hW ▸ mapOf_ac b hB.len hB.lt12 _ _ _ ⟨rfl, rfl⟩), ?_⟩
    simp only [wD, go_sem, Tryz.results54]
    have c1 : (wC V).length = 64 := by rw [wC_len, l1]
    have c2 : (wC W).length = 64 := by rw [wC_len, l2]
    simp only [e1, e2, c1, c2]
    refine ⟨⟨⟨trivial, by omega⟩, ⟨trivial, by omega⟩, Wk.mask [2, 3, 4, 6, 8, 9] ⟨rfl, ?_⟩⟩, ⟨⟨trivial, by omega⟩, ⟨trivial, by omega⟩, Wk.keep [2, 3, 4, 6, 8, 9] [0, 1, 2, 4, 3] (by decide) (Nat.le_refl _) hbd ⟨?_, ?_⟩⟩⟩
    · simp only [List.drop_succ_cons, List.drop_zero, List.drop_nil, List.append_nil]
    · simp only [go_sem]
    · simp only [go_sem, List.drop_succ_cons, List.drop_zero, List.drop_nil, List.append_nil, renL_wC]
  rintro fr st ⟨rfl, rfl⟩
  have hzl : listW (zipW f V W 64) 64 = cmbL op a b := by rw [← hV, ← hW]; exact zipW_list hf hA.lt12 hB.lt12
  clear e1 e2 v1 v2
  simp only [go_sem, Tryz.results54]
  refine aw_loop (fun m fr st => ∃ j : Nat, j ≤ 64 ∧ m = 64 - j ∧ fr = [.any, .any, .fn (.func g) [] [], .ref σ.length 0, .ref (σ.length + 1) 0, .any, .ref (σ.length + 2) 0, .any, .ref (σ.length + 3) 0, .ref (σ.length + 4) 0, .any, .any, .any, .any, .any, .any, .any, .any, .any, .any, .any, .any, .any, .any, .any, .any, .any, .any, .any, .any, .any, .any, .any, .any, .any, .any, .any, .any, .any, .any, .any, .any, dn j, .any, .any, .any, .any, .any, .any, .any, .any, .any, .any, .any, .any, .any, .any, .any, .any, .any, .any, .any] ∧ st = σ ++ [some (.cells [.d (isD (nL (cL ws))), .d (isD (nL ws)), .d (isD (nL a))]), some (.cells [.d (isD (nL (cL ws))), .d (isD (nL ws)), .d (isD (nL b))]), some (.cells [.d .nils, .d .nils, .d .nils]), some (.cells (wC (zipW f V W j))), some (.cells (wC W))]) 64 _ (Wk.mask [2, 3, 4, 6, 8, 9, 42] ⟨0, by omega, rfl, rfl, rfl⟩) ?_
  rintro m fr st ⟨j, hj, hm, rfl, rfl⟩
  have hZ := zipW_words hf h1 h2 j
  have hZl := hZ.1
  have cZ := wC_len (zipW f V W j)
  rcases Nat.lt_or_ge j 64 with hlt | hge
  · have hd : decide ((j : Int) < 64) = true := by simp only [decide_eq_true_eq]; omega
    have w2 := wrapS j (by omega)
    have q1 := wC_at (W := zipW f V W j) (j := j) (by omega)
    have q2 := wC_at (W := W) (j := j) (by omega)
    have q3 : (zipW f V W j).getD j 0 = V.getD j 0 := by rw [zipW_at f V W j j (by omega), if_neg (by omega)]
    have q4 := wC_set (W := zipW f V W j) (j := j) (x := f (V.getD j 0) (W.getD j 0)) (by omega)
    have cW : (wC W).length = 64 := by rw [wC_len, l2]
    rw [← zipW_succ] at q4
    rw [q3] at q1
    simp only [go_sem, hd, Tryz.results54]
    refine aw_plan (.tk 11 0 <| .done) (by kernel_rfl) ?_
    simp only [go_sem, q1, q2, cZ, hZl, cW, Int.toNat_natCast, Nat.mul_one, Nat.zero_add, Tryz.results54]
    refine ⟨⟨by omega, by omega⟩, by omega, ⟨by omega, by omega⟩, by omega, ac' (hg _ _ (h1.at_ j) (h2.at_ j) _ _ ?_)⟩
    simp only [go_sem, w2, cZ, hZl, Int.toNat_natCast, Nat.mul_one, Nat.zero_add, q4, Tryz.results54]
    exact ⟨⟨by omega, by omega⟩, by omega, Wk.mask [2, 3, 4, 6, 8, 9, 42] ⟨64 - (j + 1), by omega, j + 1, by omega, rfl, rfl, rfl⟩⟩
  · have hd : decide ((j : Int) < 64) = false := by simp only [decide_eq_false_iff_not]; omega
    obtain rfl : j = 64 := by omega
    simp only [go_sem, hd, Tryz.results54]
    refine aw_plan (.alt 0 (.alt 1 (.alt 2 (.alt 3 (.take 4 <| .pure 5 <| .tk 2 6 <| .done) <| .alt 4 (.take 3 <| .pure 5 <| .tk 2 6 <| .done) <| .stop) <| .alt 4 (.tk 2 2 <| .pure 5 <| .tk 2 6 <| .done) <| .stop) <| .alt 2 (.alt 1 (.alt 3 (.take 4 <| .pure 5 <| .tk 2 6 <| .done) <| .alt 4 (.take 3 <| .pure 5 <| .tk 2 6 <| .done) <| .stop) <| .alt 3 (.alt 1 (.take 4 <| .pure 5 <| .tk 2 6 <| .done) <| .alt 4 (.take 1 <| .pure 5 <| .tk 2 6 <| .done) <| .stop) <| .alt 4 (.take 1 <| .take 3 <| .pure 5 <| .tk 2 6 <| .done) <| .stop) <| .alt 4 (.tk 3 1 <| .pure 5 <| .tk 2 6 <| .done) <| .stop) <| .alt 2 (.alt 0 (.alt 1 (.alt 3 (.take 4 <| .pure 5 <| .tk 2 6 <| .done) <| .alt 4 (.take 3 <| .pure 5 <| .tk 2 6 <| .done) <| .stop) <| .alt 3 (.alt 1 (.take 4 <| .pure 5 <| .tk 2 6 <| .done) <| .alt 4 (.take 1 <| .pure 5 <| .tk 2 6 <| .done) <| .stop) <| .alt 4 (.take 1 <| .take 3 <| .pure 5 <| .tk 2 6 <| .done) <| .stop) <| .alt 3 (.alt 0 (.alt 1 (.take 4 <| .pure 5 <| .tk 2 6 <| .done) <| .alt 4 (.take 1 <| .pure 5 <| .tk 2 6 <| .done) <| .stop) <| .alt 4 (.tk 2 0 <| .pure 5 <| .tk 2 6 <| .done) <| .stop) <| .alt 4 (.tk 2 0 <| .take 3 <| .pure 5 <| .tk 2 6 <| .done) <| .stop) <| .alt 4 (.tk 4 0 <| .pure 5 <| .tk 2 6 <| .done) <| .stop) (by kernel_rfl) ?_
    simp only [go_sem, Tryz.results54]
    repeat' with_reducible apply And.intro
    all_goals
      refine ac' (list_ac (zipW f V W 64) hZ _ (by simp) _ hG _ ?_)
      rw [show (listW (zipW f V W 64) 64).map Int.ofNat = nL (cmbL op a b) by rw [hzl]; rfl]
      simp only [go_sem, Tryz.results54]
      refine Go.Ab.exP (.d (setX ws (isD (nL (cmbL op a b))))) ⟨fun σ' => ac' (set_ac _ _ _ hcl hwl (.inr ⟨_, rfl⟩) _ _ _ ⟨rfl, rfl⟩), ?_⟩
      simp only [setX, go_sem, Tryz.results54]
      exact ret_bd hbd rfl h
theorem meet_wf : WF (fun x y => x &&& y) (fun x y => x && y) := ⟨fun x y hx hy => Nat.lt_of_le_of_lt Nat.and_le_left hx, fun x y _ _ k => Nat.testBit_and .., rfl⟩
theorem minus_wf : WF nand (fun x y => x && !y) := ⟨fun x y _ _ => nand_lt x y, fun x y hx _ k => nand_bit hx k, rfl⟩
theorem meet_ac (ws a b : List Nat) (hA : Ss ws a) (hB : Ss ws b) (σ : St) (G : Glob) (hG : G.g 1 = some tabD) (R : A → St → Prop) (h : R (.tup [.d (setX ws (isD (nL (cmbL (fun x y => x && y) a b)))), di 0]) σ) : AC Tryz.prog G 69 [.d (setX ws (isD (nL a))), .d (setX ws (isD (nL b)))] σ R := by
  refine ac_enter' mixed Tryz.func69 rfl Tryz.ntmps69 (by simp only [go_sem]) fun hbd => ?_
  simp only [List.length_cons, List.length_nil, Nat.reduceAdd, Nat.reduceSub, List.replicate_succ, List.replicate_zero, List.cons_append, List.nil_append]
  simp only [setX, go_sem, Tryz.results69]
  refine ac' (combine_ac 90 _ _ meet_wf G hG (fun x y hx hy σ R h => meetW_ac x y hx hy σ G R h) ws a b hA hB _ _ ?_)
  simp only [setX, go_sem, Tryz.results69]
  exact ret_bd hbd rfl h
theorem minus_ac (ws a b : List Nat) (hA : Ss ws a) (hB : Ss ws b) (σ : St) (G : Glob) (hG : G.g 1 = some tabD) (R : A → St → Prop) (h : R (.tup [.d (setX ws (isD (nL (cmbL (fun x y => x && !y) a b)))), di 0]) σ) : AC Tryz.prog G 15 [.d (setX ws (isD (nL a))), .d (setX ws (isD (nL b)))] σ R := by
  refine ac_enter' mixed Tryz.func15 rfl Tryz.ntmps15 (by simp only [go_sem]) fun hbd => ?_
  simp only [List.length_cons, List.length_nil, Nat.reduceAdd, Nat.reduceSub, List.replicate_succ, List.replicate_zero, List.cons_append, List.nil_append]
  simp only [setX, go_sem, Tryz.results15]
  refine ac' (combine_ac 55 _ _ minus_wf G hG (fun x y hx hy σ R h => minusW_ac x y hx hy σ G R h) ws a b hA hB _ _ ?_)
  simp only [setX, go_sem, Tryz.results15]
  exact ret_bd hbd rfl h
end Go.Proofs.YtmjlhbkgljcnoaaGreatDoor
end PartT17

section PartT18
/- Relations: validity, rows. -/
set_option linter.unusedSimpArgs false
set_option linter.unusedVariables false
set_option maxRecDepth 100000
namespace Go.Proofs.YtmjlhbkgljcnoaaGreatDoor
open Go Go.Ab

def prD (p : Nat × Nat) : D := .agg [iD (p.1 : Nat), iD (p.2 : Nat)]
def prsD (ps : List (Nat × Nat)) : D := .sl 2 (ps.map prD)
def lexLt (p q : Nat × Nat) : Prop := p.1 < q.1 ∨ p.1 = q.1 ∧ p.2 < q.2
/-- A relation on the numbers of states. -/
structure Rs (ws : List Nat) (ps : List (Nat × Nat)) : Prop where
  w : Ws ws
  sum : ws.sum ≤ 6
  lt : ∀ p ∈ ps, p.1 < 2 ^ ws.sum ∧ p.2 < 2 ^ ws.sum
  pair : ps.Pairwise lexLt
  len : ps.length ≤ 4096
theorem pr_at {ps : List (Nat × Nat)} {j : Nat} (h : j < ps.length) : List.getD (ps.map prD) j default = .agg [iD ((ps.getD j (0, 0)).1 : Nat), iD ((ps.getD j (0, 0)).2 : Nat)] := by
  rw [getD_mapD (d := (0, 0)) h]; rfl
theorem lex_at {ps : List (Nat × Nat)} (hp : ps.Pairwise lexLt) {j : Nat} (h : j + 1 < ps.length) : lexLt (ps.getD j (0, 0)) (ps.getD (j + 1) (0, 0)) := by
  rw [List.pairwise_iff_getElem] at hp
  have := hp j (j + 1) (by omega) h (by omega)
  rw [List.getD_eq_getElem?_getD, List.getD_eq_getElem?_getD, List.getElem?_eq_getElem h, List.getElem?_eq_getElem (by omega : j < ps.length)]
  exact this
theorem Ws.empty {ws : List Nat} (h : Ws ws) : Ss ws [] := ⟨h, List.Pairwise.nil, fun n hn => by cases hn⟩
theorem nils_set {G : Glob} {n0 : Nat} (ws : List Nat) {σ : St} : Weak G n0 [.d (setX ws .nils), .d (setX ws .nils)] σ [.d (setX ws (isD (nL []))), .d (setX ws (isD (nL [])))] σ :=
  Weak.nils (.cons (.d (.agg (.cons (.refl _) (.cons (.refl _) (.cons (.nil 1) .nil))))) (.cons (.d (.agg (.cons (.refl _) (.cons (.refl _) (.cons (.nil 1) .nil))))) .nil))
set_option maxHeartbeats 8000000 in
theorem rvalid_ac (ws : List Nat) (ps : List (Nat × Nat)) (hr : Rs ws ps) (σ : St) (G : Glob) (hT : G.g 1 = some tabD) (R : A → St → Prop) (h : R (db true) σ) : AC Tryz.prog G 37 [.d (setX ws (prsD ps))] σ R := by
  have hw := hr.w.len
  have hl := hr.len
  have hs6 := hr.sum
  obtain ⟨N, hN⟩ : ∃ N, 2 ^ ws.sum = N := ⟨_, rfl⟩
  have hN64 : N ≤ 64 := by rw [← hN]; exact Nat.pow_le_pow_right (n := 2) (j := 6) (by decide) hs6
  have hlt := hr.lt
  rw [hN] at hlt
  have v1 : bShl 1 (ws.sum : Int) = (N : Int) := by rw [← hN]; exact bShl_one (by omega)
  have d6 : decide (6 < (ws.sum : Int)) = false := by simp only [decide_eq_false_iff_not]; omega
  refine ac_enterC' [6] mixed Tryz.func37 rfl Tryz.ntmps37 (by simp only [go_sem]) fun hbd => ?_
  simp only [List.length_cons, List.length_nil, Nat.reduceAdd, Nat.reduceSub, List.replicate_succ, List.replicate_zero, List.cons_append, List.nil_append]
  simp only [setX, isD, prsD, go_sem, Tryz.results37]
  refine ac' (ac_weak (nils_set ws) ?_)
  refine meet_ac ws [] [] hr.w.empty hr.w.empty _ _ hT _ ?_
  have b0 : ((0 : Int) != 0) = false := by decide
  simp only [setX, isD, go_sem, b0, Bool.not_false, Tryz.results37]
  refine ex' (iD (ws.sum : Nat)) ⟨fun _ => ?_, ?_⟩
  · simp only [go_sem, b0, Bool.not_false]
    exact ac' (rsum_ac ws (by omega) (fun w hw => (hr.w.ok w hw).2) _ _ _ ⟨rfl, rfl⟩)
  simp only [go_sem, d6, b0, Tryz.results37]
  refine aw_cut (fun fr st => fr = [.any, .ref σ.length 0, .any, .any, .any, .any, dn N, .any, .any, .any, .any, .any, .any, .any, .any, .any, .any, .any, .any, .any, .any, .any, .any, .any, .any, .any, .any, .any, .any, .any, .any, .any, .any, .any, .any, .any, .any, .any, .any, .any, .any, .any, .any, .any, .any, .any, .any, .any, .any, .any, .any, .any, .any, .any, .any, .any, .any, .any, .any, .any, .any, .any, .any, .any, .any, .any, .any, .any, .any, .any, .any, .any, .any, .any, .any, .any, .any, .any, .any, .any, .any, .any, .any, .any, .any, .any, .any, .any, .any, .any, .any, .any, .any, .any, .any, .any, .any, .any, .any] ∧ st = σ ++ [some (.cells [.d (isD (nL (cL ws))), .d (isD (nL ws)), .d (prsD ps)])]) ?_ ?_
  · simp only [go_sem, Tryz.results37]
    refine ac' (rsum_ac ws (by omega) (fun w hw => (hr.w.ok w hw).2) _ _ _ ?_)
    simp only [go_sem, v1, Tryz.results37]
    refine ⟨by omega, Wk.keep [1, 6] [0] (by decide) (Nat.le_refl _) hbd ⟨?_, ?_⟩⟩
    · simp only [go_sem]
    · simp only [isD, prsD, go_sem]
  rintro fr st ⟨rfl, rfl⟩
  simp only [prsD, go_sem, List.length_map, Tryz.results37]
  refine aw_loop (fun m fr st => ∃ j : Nat, j ≤ ps.length ∧ m = ps.length - j ∧ fr = [.any, .ref σ.length 0, .any, .any, .any, .any, dn N, .any, .any, .any, .any, .any, .any, .any, .any, .any, .any, .any, .any, .any, .any, .any, .any, .any, .any, .any, .any, .any, .any, .any, .any, .any, .any, .d (.sl 2 (ps.map prD)), dn ps.length, dn j, .any, .any, .any, .any, .any, .any, .any, .any, .any, .any, .any, .any, .any, .any, .any, .any, .any, .any, .any, .any, .any, .any, .any, .any, .any, .any, .any, .any, .any, .any, .any, .any, .any, .any, .any, .any, .any, .any, .any, .any, .any, .any, .any, .any, .any, .any, .any, .any, .any, .any, .any, .any, .any, .any, .any, .any, .any, .any, .any, .any, .any, .any, .any] ∧ st = σ ++ [some (.cells [.d (isD (nL (cL ws))), .d (isD (nL ws)), .d (prsD ps)])]) ps.length _ (Wk.mask [1, 6, 33, 34, 35] ⟨0, by omega, rfl, rfl, rfl⟩) ?_
  rintro m fr st ⟨j, hj, hm, rfl, rfl⟩
  rcases Nat.lt_or_ge j ps.length with hlt2 | hge
  · have hd : decide ((j : Int) < (ps.length : Int)) = true := by simp only [decide_eq_true_eq]; omega
    have w2 := wrapS j (by omega)
    have q1 := pr_at hlt2
    obtain ⟨b1, b2⟩ := hlt _ (getD_mem (0, 0) hlt2)
    have c1 : decide (((ps.getD j (0, 0)).1 : Int) < 0) = false := by simp only [decide_eq_false_iff_not]; omega
    have c2 : decide ((N : Int) ≤ ((ps.getD j (0, 0)).1 : Int)) = false := by simp only [decide_eq_false_iff_not]; omega
    have c3 : decide (((ps.getD j (0, 0)).2 : Int) < 0) = false := by simp only [decide_eq_false_iff_not]; omega
    have c4 : decide ((N : Int) ≤ ((ps.getD j (0, 0)).2 : Int)) = false := by simp only [decide_eq_false_iff_not]; omega
    simp only [prsD, go_sem, hd, q1, c1, c2, c3, c4, List.length_map, Int.toNat_natCast, Int.toNat_zero, Int.toNat_one, Nat.zero_mul, Nat.one_mul, Nat.mul_one, Tryz.results37]
    refine ⟨⟨by omega, by omega⟩, ⟨by omega, by omega⟩, ⟨by omega, by omega⟩, ⟨by omega, by omega⟩, ⟨by omega, by omega⟩, ?_⟩
    refine aw_plan (.tk 38 0 <| .done) (by kernel_rfl) ?_
    by_cases j0 : j = 0
    · subst j0
      have g0 : decide ((0 : Int) < ((0 : Nat) : Int)) = false := by decide
      have w3 : IntKind.i64.wrap (((0 : Nat) : Int) - 1) = -1 := by decide
      have t3 : Int.toNat (-1) = 0 := rfl
      simp only [go_sem, g0, w2, w3, t3, q1, List.length_map, Int.toNat_zero, Int.toNat_one, Nat.zero_mul, Nat.one_mul, Nat.mul_one, Tryz.results37]
      exact Wk.keep [1, 6, 33, 34, 35] [0] (by decide) (Nat.le_refl _) hbd ⟨ps.length - 1, by omega, 1, by omega, rfl, by simp only [go_sem], by simp only [isD, go_sem]⟩
    · have g0 : decide ((0 : Int) < (j : Int)) = true := by simp only [decide_eq_true_eq]; omega
      have w3 : IntKind.i64.wrap ((j : Int) - 1) = ((j - 1 : Nat) : Int) := by rw [wrap64_id _ (by omega) (by omega)]; omega
      have q2 := pr_at (ps := ps) (j := j - 1) (by omega)
      have hlex := lex_at hr.pair (j := j - 1) (by omega)
      rw [show j - 1 + 1 = j by omega] at hlex
      generalize ps.getD j (0, 0) = b at *
      generalize ps.getD (j - 1) (0, 0) = a at *
      have f1 : decide ((b.1 : Int) < (a.1 : Int)) = false := by simp only [decide_eq_false_iff_not]; rcases hlex with h | h <;> omega
      rcases hlex with hx | ⟨hx, hy⟩
      · have f2 : ((b.1 : Int) == (a.1 : Int)) = false := by simp only [beq_eq_false_iff_ne]; omega
        simp only [go_sem, g0, w3, q2, f1, f2, List.length_map, Int.toNat_natCast, Int.toNat_zero, Int.toNat_one, Nat.zero_mul, Nat.one_mul, Nat.mul_one, w2, Tryz.results37]
        refine ⟨⟨by omega, by omega⟩, ⟨by omega, by omega⟩, ⟨by omega, by omega⟩, ⟨by omega, by omega⟩, ⟨by omega, by omega⟩, ⟨by omega, by omega⟩, ?_⟩
        exact Wk.keep [1, 6, 33, 34, 35] [0] (by decide) (Nat.le_refl _) hbd ⟨ps.length - (j + 1), by omega, j + 1, by omega, rfl, by simp only [go_sem], by simp only [isD, go_sem]⟩
      · have f2 : ((b.1 : Int) == (a.1 : Int)) = true := by simp only [beq_iff_eq]; omega
        have f3 : decide ((b.2 : Int) ≤ (a.2 : Int)) = false := by simp only [decide_eq_false_iff_not]; omega
        simp only [go_sem, g0, w3, q2, f1, f2, f3, List.length_map, Int.toNat_natCast, Int.toNat_zero, Int.toNat_one, Nat.zero_mul, Nat.one_mul, Nat.mul_one, w2, Tryz.results37]
        refine ⟨⟨by omega, by omega⟩, ⟨by omega, by omega⟩, ⟨by omega, by omega⟩, ⟨by omega, by omega⟩, ⟨by omega, by omega⟩, ⟨by omega, by omega⟩, ⟨by omega, by omega⟩, ⟨by omega, by omega⟩, ⟨by omega, by omega⟩, ?_⟩
        exact Wk.keep [1, 6, 33, 34, 35] [0] (by decide) (Nat.le_refl _) hbd ⟨ps.length - (j + 1), by omega, j + 1, by omega, rfl, by simp only [go_sem], by simp only [isD, go_sem]⟩
  · have hd : decide ((j : Int) < (ps.length : Int)) = false := by simp only [decide_eq_false_iff_not]; omega
    simp only [prsD, go_sem, hd, Tryz.results37]
    exact ret_d hbd h
end Go.Proofs.YtmjlhbkgljcnoaaGreatDoor
end PartT18
