import Derived.Test.YtfoblkeefpaceaaX72

section PartS5
/- The reference's widths; comparing reports. -/
set_option linter.unusedSimpArgs false
set_option linter.unusedVariables false
set_option maxRecDepth 100000
namespace Go.Proofs.Ytfoblkeefpaceaa
open Go Go.Ab

theorem rvars_ac (l : List Vr) (hl : l.length ≤ reachBytes) (σ : St) (G : Glob) (R : A → St → Prop) (h : R (db (sizedM l)) σ) : AC Try.prog G 31 [.d (vrsD l)] σ R := by
  have hre : reachBytes < 9223372036854775807 := by decide
  unfold vrsD
  refine ac_enter mixed Try.func31 rfl Try.ntmps31 (by simp only [go_sem]) fun hbd => ?_
  simp only [List.length_cons, List.length_nil, Nat.reduceAdd, Nat.reduceSub, List.replicate_succ, List.replicate_zero, List.cons_append, List.nil_append]
  simp only [go_sem, List.length_map, Try.results31]
  refine aw_loop (fun m fr st => ∃ j : Nat, j ≤ l.length ∧ m = l.length - j ∧ (l.take j).all okV = true ∧ fr = [.d (.sl 7 (l.map vrD)), .any, .any, dn j, .any, .any, .any, .any, .any, .any, .any, .any, .any, .any, .any, .any, .any, .any, .any, .any, .any, .any, .any, .any, .any, .any, .any, .any, .any, .any, .any, .any, .any, .any, .any, .any, .any, .any, .any, .any] ∧ st = σ) l.length _
    (Wk.mask [0, 3] ⟨0, by omega, by omega, rfl, rfl, rfl⟩) ?_
  rintro m fr st ⟨j, hj, hm, ha, rfl, rfl⟩
  rcases Nat.lt_or_ge j l.length with hlt | hge
  · have hd : decide ((j : Int) < (l.length : Int)) = true := by simp; omega
    have e1 := vr_d hlt
    have w1 := wrapS j (by omega)
    simp only [go_sem, List.length_map, hd, e1, w1, Try.results31]
    generalize hv : l.getD j vr0 = v
    have hk : (decide (v.w < 1) || decide (8 < v.w) || decide (v.len < 0) || decide (8 < v.len)) = !okV v := by
      unfold okV
      rw [Bool.eq_iff_iff]; simp; omega
    refine ⟨⟨by omega, by omega⟩, fun _ => ⟨by omega, by omega⟩, fun _ => ⟨by omega, by omega⟩, fun _ => ⟨by omega, by omega⟩, fun c => ret_d0 ?_, fun c => ?_⟩
    · rw [hk] at c
      have c' : okV v = false := by simpa using c
      have : sizedM l = false := all_bad vr0 hlt (by rw [hv]; exact c')
      rwa [this] at h
    · rw [hk] at c
      have c' : okV v = true := by simpa using c
      exact Wk.mask [0, 3] ⟨l.length - (j + 1), by omega, j + 1, hlt, rfl, by rw [all_take vr0 hlt, ha, hv, c']; rfl, rfl, rfl⟩
  · have hd : decide ((j : Int) < (l.length : Int)) = false := by simp; omega
    rw [List.take_of_length_le hge] at ha
    simp only [go_sem, List.length_map, hd, Try.results31]
    refine ret_d0 ?_
    have : sizedM l = true := ha
    rwa [this] at h
theorem rkid_ac (e : Nd) (i : Nat) (hi : i < 9223372036854775807) (hl : e.kids.length ≤ reachBytes) (σ : St) (G : Glob) (R : A → St → Prop) (h : R (.d (e.kid i).d) σ) : AC Try.prog G 38 [.d e.d, dn i] σ R := by
  rw [Nd.d_eq]
  refine ac_enter mixed Try.func38 rfl Try.ntmps38 (by simp only [go_sem]) fun hbd => ?_
  simp only [List.length_cons, List.length_nil, Nat.reduceAdd, Nat.reduceSub, List.replicate_succ, List.replicate_zero, List.cons_append, List.nil_append]
  rcases Nat.lt_or_ge i e.kids.length with hlt | hge
  · have hd : decide ((i : Int) < (e.kids.length : Int)) = true := by simp; omega
    have e1 := kid_d hlt
    simp only [go_sem, List.length_map, hd, e1, Nd.cs, Try.results38]
    rw [Nd.d_eq] at h
    exact ⟨⟨by omega, by omega⟩, ret_d hbd h⟩
  · have hd : decide ((i : Int) < (e.kids.length : Int)) = false := by simp; omega
    have hn : e.kid i = Nd.none := by unfold Nd.kid; rw [List.getD_eq_getElem?_getD, List.getElem?_eq_none hge]; rfl
    rw [hn] at h
    simp only [go_sem, List.length_map, hd, Try.results38]
    exact none_end hbd h
theorem either_ac (a b : Int) (σ : St) (G : Glob) (R : A → St → Prop) (h : R (di (orM a b)) σ) : AC Try.prog G 39 [di a, di b] σ R := by
  refine ac_enter mixed Try.func39 rfl Try.ntmps39 (by simp only [go_sem]) fun hbd => ?_
  simp only [List.length_cons, List.length_nil, Nat.reduceAdd, Nat.reduceSub, List.replicate_succ, List.replicate_zero, List.cons_append, List.nil_append]
  simp only [go_sem, Try.results39]
  unfold orM at h
  refine ⟨fun c => ret_d0 ?_, fun c => ret_d0 ?_⟩
  · rwa [if_pos (by simpa using c)] at h
  · rwa [if_neg (by simpa using c)] at h
theorem class_ac (s : Str) (σ : St) (G : Glob) (R : A → St → Prop) (h : R (di (opM s)) σ) : AC Try.prog G 16 [.d (.str s)] σ R := by
  refine ac_enter mixed Try.func16 rfl Try.ntmps16 (by simp only [go_sem]) fun hbd => ?_
  simp only [List.length_cons, List.length_nil, Nat.reduceAdd, Nat.reduceSub, List.replicate_succ, List.replicate_zero, List.cons_append, List.nil_append]
  unfold opM at h
  by_cases b1 : (s == [61, 61, 62]) = true
  · rw [if_pos (by simp [b1])] at h
    simp only [go_sem, b1, Try.results16]; exact ret_d0 h
  by_cases b2 : (s == [124, 124]) = true
  · rw [if_pos (by simp [b2])] at h
    simp only [go_sem, b1, b2, Try.results16]; exact ret_d0 h
  by_cases b3 : (s == [38, 38]) = true
  · rw [if_pos (by simp [b3])] at h
    simp only [go_sem, b1, b2, b3, Try.results16]; exact ret_d0 h
  rw [if_neg (by simp [b1, b2, b3])] at h
  by_cases c1 : (s == [61, 61]) = true
  · rw [if_pos (by simp [c1])] at h
    simp only [go_sem, b1, b2, b3, c1, Try.results16]; exact ret_d0 h
  by_cases c2 : (s == [33, 61]) = true
  · rw [if_pos (by simp [c2])] at h
    simp only [go_sem, b1, b2, b3, c1, c2, Try.results16]; exact ret_d0 h
  by_cases c3 : (s == [60]) = true
  · rw [if_pos (by simp [c3])] at h
    simp only [go_sem, b1, b2, b3, c1, c2, c3, Try.results16]; exact ret_d0 h
  by_cases c4 : (s == [60, 61]) = true
  · rw [if_pos (by simp [c4])] at h
    simp only [go_sem, b1, b2, b3, c1, c2, c3, c4, Try.results16]; exact ret_d0 h
  rw [if_neg (by simp [c1, c2, c3, c4])] at h
  by_cases d1 : (s == [124]) = true
  · rw [if_pos (by simp [d1])] at h
    simp only [go_sem, b1, b2, b3, c1, c2, c3, c4, d1, Try.results16]; exact ret_d0 h
  by_cases d2 : (s == [94]) = true
  · rw [if_pos (by simp [d2])] at h
    simp only [go_sem, b1, b2, b3, c1, c2, c3, c4, d1, d2, Try.results16]; exact ret_d0 h
  by_cases d3 : (s == [38]) = true
  · rw [if_pos (by simp [d3])] at h
    simp only [go_sem, b1, b2, b3, c1, c2, c3, c4, d1, d2, d3, Try.results16]; exact ret_d0 h
  by_cases d4 : (s == [43]) = true
  · rw [if_pos (by simp [d4])] at h
    simp only [go_sem, b1, b2, b3, c1, c2, c3, c4, d1, d2, d3, d4, Try.results16]; exact ret_d0 h
  by_cases d5 : (s == [45]) = true
  · rw [if_pos (by simp [d5])] at h
    simp only [go_sem, b1, b2, b3, c1, c2, c3, c4, d1, d2, d3, d4, d5, Try.results16]; exact ret_d0 h
  by_cases d6 : (s == [42]) = true
  · rw [if_pos (by simp [d6])] at h
    simp only [go_sem, b1, b2, b3, c1, c2, c3, c4, d1, d2, d3, d4, d5, d6, Try.results16]; exact ret_d0 h
  rw [if_neg (by simp [d1, d2, d3, d4, d5, d6])] at h
  simp only [go_sem, b1, b2, b3, c1, c2, c3, c4, d1, d2, d3, d4, d5, d6, Try.results16]; exact ret_d0 h
theorem rfits_ac (n : Int) (w : Nat) (hw : w ≤ 8) (σ : St) (G : Glob) (R : A → St → Prop) (h : R (db (fitsM n w)) σ) : AC Try.prog G 22 [di n, dn w] σ R := by
  refine ac_enter mixed Try.func22 rfl Try.ntmps22 (by simp only [go_sem]) fun hbd => ?_
  simp only [List.length_cons, List.length_nil, Nat.reduceAdd, Nat.reduceSub, List.replicate_succ, List.replicate_zero, List.cons_append, List.nil_append]
  simp only [go_sem, Try.results22]
  refine aw_loop (fun m fr st => ∃ j : Nat, j ≤ w ∧ m = w - j ∧ fr = [di n, dn w, .any, .any, .any, di (2 ^ j : Nat), dn j, .any, .any, .any, .any, .any, .any, .any, .any, .any, .any, .any, .any, .any, .any] ∧ st = σ) w _
    (Wk.mask [0, 1, 5, 6] ⟨0, by omega, rfl, rfl, rfl⟩) ?_
  rintro m fr st ⟨j, hj, hm, rfl, rfl⟩
  rcases Nat.lt_or_ge j w with hlt | hge
  · have hd : decide ((j : Int) < (w : Int)) = true := by simp; omega
    have w2 := wrapS j (by omega)
    have hp : (2 ^ j : Nat) ≤ 2 ^ 60 := Nat.pow_le_pow_right (by omega) (by omega)
    have w1 : IntKind.i64.wrap (2 * ((2 ^ j : Nat) : Int)) = ((2 ^ (j + 1) : Nat) : Int) := by
      rw [Nat.pow_succ]
      generalize 2 ^ j = q at hp
      rw [wrap64_id _ (by omega) (by omega)]; omega
    simp only [go_sem, hd, w1, w2, Try.results22]
    exact Wk.mask [0, 1, 5, 6] ⟨w - (j + 1), by omega, j + 1, hlt, rfl, rfl, rfl⟩
  · have hd : decide ((j : Int) < (w : Int)) = false := by simp; omega
    obtain rfl : j = w := by omega
    simp only [go_sem, hd, Try.results22]
    unfold fitsM at h
    rw [Bool.decide_and] at h
    have e : ((2 : Int) ^ (j : Int).toNat) = ((2 ^ j : Nat) : Int) := by simp
    rw [e] at h
    exact ret_d0 h
theorem dg_d {l : List Dg} {i : Nat} (h : i < l.length) : List.getD (l.map dgD) i default = .agg [iD (l.getD i ⟨0, 0⟩).err, iD (l.getD i ⟨0, 0⟩).pos] := by
  rw [getD_mapD (d := ⟨0, 0⟩) h]; rfl
theorem eq_dg (a b c d : Int) : eqCells [PK.int, PK.int] [iD a, iD b] [iD c, iD d] = some ((a == c) && ((b == d) && true)) := by
  simp [eqCells, eqD1]
theorem same_ac (a b : List Dg) (ha : a.length ≤ reachBytes) (hb : b.length ≤ reachBytes) (σ : St) (G : Glob) (R : A → St → Prop) (h : R (db (a == b)) σ) : AC Try.prog G 19 [.d (dgsD a), .d (dgsD b)] σ R := by
  have hre : reachBytes < 9223372036854775807 := by decide
  unfold dgsD
  refine ac_enter mixed Try.func19 rfl Try.ntmps19 (by simp only [go_sem]) fun hbd => ?_
  simp only [List.length_cons, List.length_nil, Nat.reduceAdd, Nat.reduceSub, List.replicate_succ, List.replicate_zero, List.cons_append, List.nil_append]
  by_cases hl : a.length = b.length
  · have hl1 : (((a.length : Int)) != (b.length : Int)) = false := by simp [hl]
    simp only [go_sem, List.length_map, hl1, Try.results19]
    refine aw_loop (fun m fr st => ∃ j : Nat, j ≤ a.length ∧ m = a.length - j ∧ a.take j = b.take j ∧ fr = [.d (.sl 2 (a.map dgD)), .d (.sl 2 (b.map dgD)), .any, .any, .any, dn j, .any, .any, .any, .any, .any, .any, .any, .any, .any, .any, .any, .any, .any, .any, .any, .any, .any, .any, .any, .any] ∧ st = σ) a.length _
      (Wk.mask [0, 1, 5] ⟨0, by omega, by omega, rfl, rfl, rfl⟩) ?_
    rintro m fr st ⟨j, hj, hm, ht, rfl, rfl⟩
    rcases Nat.lt_or_ge j a.length with hlt | hge
    · have hd : decide ((j : Int) < (a.length : Int)) = true := by simp; omega
      have e1 := dg_d hlt
      have e2 := dg_d (l := b) (i := j) (by omega)
      have w1 := wrapS j (by omega)
      have hcons := take_getD (⟨0, 0⟩ : Dg) hlt
      have hcons2 := take_getD (⟨0, 0⟩ : Dg) (l := b) (j := j) (by omega)
      simp only [go_sem, List.length_map, hd, e1, e2, w1, eq_dg, Try.results19]
      refine ⟨⟨by omega, by omega⟩, ⟨by omega, by omega⟩, fun c => ret_d0 ?_, fun c => ?_⟩
      · have hne : a.getD j ⟨0, 0⟩ ≠ b.getD j ⟨0, 0⟩ := fun he => by rw [he] at c; simp at c
        have : (a == b) = false := by
          rw [beq_eq_false_iff_ne]; rintro rfl; exact hne rfl
        rwa [this] at h
      · have he : a.getD j ⟨0, 0⟩ = b.getD j ⟨0, 0⟩ := by
          simp only [Bool.not_eq_false, Bool.and_eq_true, beq_iff_eq, and_true, Bool.not_eq_false', Bool.and_true] at c
          generalize a.getD j ⟨0, 0⟩ = x at c
          generalize b.getD j ⟨0, 0⟩ = y at c
          cases x; cases y; simp_all
        exact Wk.mask [0, 1, 5] ⟨a.length - (j + 1), by omega, j + 1, hlt, rfl, by rw [hcons, hcons2, ht, he], rfl, rfl⟩
    · have hd : decide ((j : Int) < (a.length : Int)) = false := by simp; omega
      rw [List.take_of_length_le hge, List.take_of_length_le (by omega)] at ht
      simp only [go_sem, List.length_map, hd, Try.results19]
      have : (a == b) = true := by simpa using ht
      rw [this] at h
      exact ret_d0 h
  · have hl1 : (((a.length : Int)) != (b.length : Int)) = true := by simp; omega
    simp only [go_sem, List.length_map, hl1, Try.results19]
    have : (a == b) = false := by
      rw [beq_eq_false_iff_ne]; rintro rfl; exact hl rfl
    rw [this] at h
    exact ret_d0 h
/-- The reference's context without bound variables. -/
def cxD (S : Sy) (m p : Int) (old : Bool) : D := .agg (S.cs ++ [iD m, iD p, .nils, .bool old])
theorem rbound_ac (S : Sy) (m p : Int) (old : Bool) (s : Str) (σ : St) (G : Glob) (R : A → St → Prop) (h : R (.tup [di 0, db false]) σ) : AC Try.prog G 61 [.d (cxD S m p old), .d (.str s)] σ R := by
  unfold cxD Sy.cs
  simp only [List.cons_append, List.nil_append]
  refine ac_enter mixed Try.func61 rfl Try.ntmps61 (by simp only [go_sem]) fun hbd => ?_
  simp only [List.length_cons, List.length_nil, Nat.reduceAdd, Nat.reduceSub, List.replicate_succ, List.replicate_zero, List.cons_append, List.nil_append]
  have w1 : IntKind.i64.wrap (((0 : Nat) : Int) - 1) = -1 := by decide
  have w2 : IntKind.i64.wrap ((0 : Int) - 1) = -1 := by decide
  have hd : decide ((0 : Int) ≤ -1) = false := rfl
  simp only [go_sem, w1, w2, hd, Try.results61]
  refine aw_loop (fun q fr st => fr = [.any, .any, .any, .any, .any, .any, di (-1), .any, .any, .any, .any, .any, .any, .any, .any, .any, .any, .any, .any, .any, .any, .any, .any, .any, .any, .any, .any, .any, .any] ∧ st = σ) 0 _ (Wk.cut [6] (Nat.le_refl _) hbd rfl ⟨rfl, rfl⟩) ?_
  rintro q fr st ⟨rfl, rfl⟩
  simp only [go_sem, w1, w2, hd, Try.results61]
  exact ⟨_, _, Weak.refl _ _ _ _, h⟩
/-- What the reference finds of a name that is not bound. -/
def vrR (o : Option (Int × Vr)) : A := match o with
  | some (k, v) => .tup [.d (vrD v), di k, db true]
  | none => .tup [.d (vrD vr0), di 0, db false]
set_option maxHeartbeats 4000000 in
theorem rvar_ac (S : Sy) (hS : S.Ok) (m p : Int) (old : Bool) (s : Str) (hs : s.length ≤ reachBytes) (σ : St) (G : Glob) (R : A → St → Prop) (h : R (vrR (declM S m p s)) σ) : AC Try.prog G 37 [.d (cxD S m p old), .d (.str s)] σ R := by
  have hre : reachBytes < 9223372036854775806 := by decide
  have hcx : cxD S m p old = .agg [.sl 22 (S.mods.map moD), vrsD S.vars, .sl 12 (S.locks.map lkD), .sl 16 (S.procs.map prD), .sl 5 (S.threads.map thD), iD m, iD p, .nils, .bool old] := rfl
  have hsy : syD S = .agg [.sl 22 (S.mods.map moD), vrsD S.vars, .sl 12 (S.locks.map lkD), .sl 16 (S.procs.map prD), .sl 5 (S.threads.map thD)] := rfl
  rw [hcx]
  refine ac_enter' mixed Try.func37 rfl Try.ntmps37 (by simp only [go_sem]) fun hbd => ?_
  simp only [List.length_cons, List.length_nil, Nat.reduceAdd, Nat.reduceSub, List.replicate_succ, List.replicate_zero, List.cons_append, List.nil_append]
  have n1 : ((1 : Int) != 0) = true := rfl
  have n2 : ((40 : Int) != 0) = true := rfl
  have n3 : ((0 : Int) != 0) = false := rfl
  simp only [go_sem, Try.results37]
  rw [← hcx]
  refine ac' (rbound_ac S m p old s _ _ _ ?_)
  simp only [go_sem, Try.results37]
  rw [← hsy]
  refine ac' (rlook_ac S hS m p s hs _ _ _ ?_)
  unfold declM at h
  cases hk : lookM S m p s with
  | bad =>
    rw [hk] at h
    simp only [tgA, go_sem, n1, Try.results37]
    exact ret_bd hbd rfl h
  | no =>
    rw [hk] at h
    simp only [tgA, go_sem, n2, Try.results37]
    exact ret_bd hbd rfl h
  | at_ k i =>
    rw [hk] at h
    obtain ⟨hpl, ⟨rfl, hi⟩ | ⟨q, hq, hh⟩⟩ := lookM_spec hk
    · have b1 : ((1 : Int) == 2) = false := rfl
      have b2 : ((1 : Int) == 3) = false := rfl
      have e1 := vr_d hi
      have hvl := hS.vars
      simp only [Int.reduceEq, if_false] at h
      have hvs : vrsD S.vars = .sl 7 (S.vars.map vrD) := rfl
      rw [hvs]
      simp only [tgA, go_sem, n3, b1, b2, Try.results37]
      refine aw_plan (.tk 7 0 <| .alt 7 (.alt 8 (.tk 3 9 <| .done) <| .alt 9 (.take 8 <| .tk 2 10 <| .done) <| .stop) <| .alt 9 (.tk 2 7 <| .tk 2 10 <| .done) <| .stop) (by kernel_rfl) ?_
      simp only [go_sem, List.length_map, e1, Int.toNat_natCast, Try.results37]
      exact ⟨⟨by omega, by omega⟩, ret_bd hbd rfl h⟩
    · have hq' := hq
      unfold prAt at hq'
      split at hq'
      case isFalse => cases hq'
      rename_i hp0
      have hp1 : p.toNat < S.procs.length := by
        rw [List.getElem?_eq_some_iff] at hq'; exact hq'.1
      have e1 := pr_d hp1
      have hqe : S.procs.getD p.toNat pr0 = q := by rw [List.getD_eq_getElem?_getD, hq']; rfl
      rw [hqe] at e1
      simp only [prD, vrsD, isD, Nd.cs, List.cons_append, List.nil_append] at e1
      rcases hh with ⟨rfl, hi⟩ | ⟨rfl, hi⟩
      · have b1 : ((2 : Int) == 2) = true := rfl
        have b2 : ((2 : Int) == 3) = false := rfl
        have e2 := vr_d hi
        simp only [Int.reduceEq, if_true, if_false, hq] at h
        simp only [tgA, go_sem, n3, b1, b2, Try.results37]
        refine aw_plan (.tk 12 0 <| .alt 12 (.alt 13 (.tk 3 14 <| .done) <| .alt 14 (.take 13 <| .tk 2 15 <| .done) <| .stop) <| .alt 14 (.tk 2 12 <| .tk 2 15 <| .done) <| .stop) (by kernel_rfl) ?_
        simp only [go_sem, List.length_map, e1, e2, Int.toNat_natCast, Try.results37]
        exact ⟨⟨by omega, by omega⟩, ⟨by omega, by omega⟩, ret_bd hbd rfl h⟩
      · have b1 : ((3 : Int) == 2) = false := rfl
        have b2 : ((3 : Int) == 3) = true := rfl
        have e2 := vr_d hi
        simp only [Int.reduceEq, if_true, if_false, hq] at h
        simp only [tgA, go_sem, n3, b1, b2, Try.results37]
        refine aw_plan (.tk 12 0 <| .alt 12 (.alt 13 (.tk 3 14 <| .done) <| .alt 14 (.take 13 <| .tk 2 15 <| .done) <| .stop) <| .alt 14 (.tk 2 12 <| .tk 2 15 <| .done) <| .stop) (by kernel_rfl) ?_
        simp only [go_sem, List.length_map, e1, e2, Int.toNat_natCast, Try.results37]
        exact ⟨⟨by omega, by omega⟩, ⟨by omega, by omega⟩, ret_bd hbd rfl h⟩
theorem den_nil (L : Str → Option (Int × Vr)) (s : Str) : den L [] s = match L s with | some (k, v) => .var k v | none => .none := rfl
theorem op_cases (s : Str) : opM s = 0 ∨ opM s = 1 ∨ opM s = 2 ∨ opM s = 3 := by
  unfold opM
  split
  · simp
  split
  · simp
  split <;> simp
theorem beq_t {a b : Int} (h : a = b) : (a == b) = true := by simpa using h
theorem beq_f {a b : Int} (h : ¬ a = b) : (a == b) = false := by simpa using h
set_option maxHeartbeats 8000000 in
theorem rown_ac (S : Sy) (hS : S.Ok) (m p : Int) (old : Bool) (G : Glob) : ∀ (e : Nd), e.Ok → ∀ (σ : St) (R : A → St → Prop), R (di (ownM (den (declM S m p) []) e)) σ → AC Try.prog G 14 [.d (cxD S m p old), .d e.d] σ R := by
  have hcx : cxD S m p old = .agg [.sl 22 (S.mods.map moD), vrsD S.vars, .sl 12 (S.locks.map lkD), .sl 16 (S.procs.map prD), .sl 5 (S.threads.map thD), iD m, iD p, .nils, .bool old] := rfl
  refine Nd.ind (fun _ σ R h => ?_) fun e ih _ hok σ R h => ?_
  · rw [own_none] at h
    rw [hcx, Nd.d_eq]
    refine ac_enter' mixed Try.func14 rfl Try.ntmps14 (by simp only [go_sem]) fun hbd => ?_
    simp only [List.length_cons, List.length_nil, Nat.reduceAdd, Nat.reduceSub, List.replicate_succ, List.replicate_zero, List.cons_append, List.nil_append]
    have c2 : (Nd.none.kind == 2) = false := rfl
    have c3 : (Nd.none.kind == 3) = false := rfl
    have c4 : (Nd.none.kind == 4) = false := rfl
    have c5 : (Nd.none.kind == 5) = false := rfl
    have c6 : (Nd.none.kind == 6) = false := rfl
    have c7 : (Nd.none.kind == 7) = false := rfl
    have c8 : (Nd.none.kind == 8) = false := rfl
    simp only [go_sem, c2, c3, c4, c5, c6, c7, c8, Try.results14]
    exact ret_d hbd h
  rw [own_eq] at h
  rw [hcx, Nd.d_eq]
  refine ac_enter' mixed Try.func14 rfl Try.ntmps14 (by simp only [go_sem]) fun hbd => ?_
  simp only [List.length_cons, List.length_nil, Nat.reduceAdd, Nat.reduceSub, List.replicate_succ, List.replicate_zero, List.cons_append, List.nil_append]
  by_cases k2 : e.kind = 2
  · have c2 := beq_t k2
    rw [if_pos k2, den_nil] at h
    simp only [go_sem, c2, Try.results14]
    rw [← hcx]
    refine ac' (rvar_ac S hS m p old e.name hok.nm _ _ _ ?_)
    cases hl : declM S m p e.name with
    | none =>
      rw [hl] at h
      simp only [vrR, vrD, go_sem, Try.results14]
      exact ret_d hbd h
    | some q =>
      rw [hl] at h
      simp only [vrR, vrD, go_sem, Try.results14]
      exact ret_d hbd h
  have c2 := beq_f k2
  rw [if_neg k2] at h
  by_cases k34 : e.kind = 3 ∨ e.kind = 4
  · rw [if_pos k34] at h
    rcases k34 with k3 | k4
    · have c3 := beq_t k3
      simp only [go_sem, c2, c3, Try.results14]
      refine aw_plan (.take 1 <| .pure 2 <| .take 0 <| .pure 3 <| .take 4 <| .done) (by kernel_rfl) ?_
      simp only [go_sem, Try.results14]
      rw [← hcx, ← Nd.d_eq e]
      refine exP (.d (e.kid 0).d) ⟨fun σ' => ac' (rkid_ac e 0 (by omega) hok.len _ _ _ ⟨rfl, rfl⟩), ?_⟩
      simp only [go_sem, Try.results14]
      refine exP (di (ownM (den (declM S m p) []) (e.kid 0))) ⟨fun σ' => ac' (ih 0 (hok.kid 0) _ _ ⟨rfl, rfl⟩), ?_⟩
      simp only [go_sem, Try.results14]
      exact ret_d hbd h
    · have c3 : (e.kind == 3) = false := beq_f (by omega)
      have c4 := beq_t k4
      simp only [go_sem, c2, c3, c4, Try.results14]
      refine aw_plan (.take 1 <| .pure 2 <| .take 0 <| .pure 3 <| .take 4 <| .done) (by kernel_rfl) ?_
      simp only [go_sem, Try.results14]
      rw [← hcx, ← Nd.d_eq e]
      refine exP (.d (e.kid 0).d) ⟨fun σ' => ac' (rkid_ac e 0 (by omega) hok.len _ _ _ ⟨rfl, rfl⟩), ?_⟩
      simp only [go_sem, Try.results14]
      refine exP (di (ownM (den (declM S m p) []) (e.kid 0))) ⟨fun σ' => ac' (ih 0 (hok.kid 0) _ _ ⟨rfl, rfl⟩), ?_⟩
      simp only [go_sem, Try.results14]
      exact ret_d hbd h
  have c3 : (e.kind == 3) = false := beq_f (by omega)
  have c4 : (e.kind == 4) = false := beq_f (by omega)
  rw [if_neg k34] at h
  by_cases k5 : e.kind = 5
  · have c5 := beq_t k5
    rw [if_pos k5] at h
    simp only [go_sem, c2, c3, c4, c5, Try.results14]
    refine ac' (class_ac e.name _ _ _ ?_)
    by_cases o3 : opM e.name = 3
    · have d3 := beq_t o3
      rw [if_pos o3] at h
      simp only [go_sem, d3, Try.results14]
      refine aw_plan (.take 1 <| .pure 2 <| .take 0 <| .pure 3 <| .take 5 <| .pure 6 <| .take 4 <| .pure 7 <| .pure 8 <| .take 9 <| .done) (by kernel_rfl) ?_
      simp only [go_sem, Try.results14]
      rw [← hcx, ← Nd.d_eq e]
      refine exP (.d (e.kid 0).d) ⟨fun σ' => ac' (rkid_ac e 0 (by omega) hok.len _ _ _ ⟨rfl, rfl⟩), ?_⟩
      simp only [go_sem, Try.results14]
      refine exP (di (ownM (den (declM S m p) []) (e.kid 0))) ⟨fun σ' => ac' (ih 0 (hok.kid 0) _ _ ⟨rfl, rfl⟩), ?_⟩
      simp only [go_sem, Try.results14]
      rw [← Nd.d_eq e]
      refine exP (.d (e.kid 1).d) ⟨fun σ' => ac' (rkid_ac e 1 (by omega) hok.len _ _ _ ⟨rfl, rfl⟩), ?_⟩
      simp only [go_sem, Try.results14]
      refine exP (di (ownM (den (declM S m p) []) (e.kid 1))) ⟨fun σ' => ac' (ih 1 (hok.kid 1) _ _ ⟨rfl, rfl⟩), ?_⟩
      simp only [go_sem, Try.results14]
      refine exP (di (orM (ownM (den (declM S m p) []) (e.kid 0)) (ownM (den (declM S m p) []) (e.kid 1)))) ⟨fun σ' => ac' (either_ac _ _ _ _ _ ⟨rfl, rfl⟩), ?_⟩
      simp only [go_sem, Try.results14]
      exact ret_d hbd h
    · have d3 := beq_f o3
      rw [if_neg o3] at h
      simp only [go_sem, d3, Try.results14]
      refine ac' (class_ac e.name _ _ _ ?_)
      simp only [go_sem, Try.results14]
      have := op_cases e.name
      have hm : min (opM e.name) 1 = if opM e.name = 0 then 0 else 1 := by split <;> omega
      rw [hm]
      exact ret_d hbd h
  have c5 := beq_f k5
  rw [if_neg k5] at h
  by_cases k6 : e.kind = 6
  · have c6 := beq_t k6
    rw [if_pos k6] at h
    simp only [go_sem, c2, c3, c4, c5, c6, Try.results14]
    refine aw_plan (.take 1 <| .pure 2 <| .take 0 <| .pure 3 <| .take 5 <| .pure 6 <| .take 4 <| .pure 7 <| .pure 8 <| .take 9 <| .done) (by kernel_rfl) ?_
    simp only [go_sem, Try.results14]
    rw [← hcx, ← Nd.d_eq e]
    refine exP (.d (e.kid 1).d) ⟨fun σ' => ac' (rkid_ac e 1 (by omega) hok.len _ _ _ ⟨rfl, rfl⟩), ?_⟩
    simp only [go_sem, Try.results14]
    refine exP (di (ownM (den (declM S m p) []) (e.kid 1))) ⟨fun σ' => ac' (ih 1 (hok.kid 1) _ _ ⟨rfl, rfl⟩), ?_⟩
    simp only [go_sem, Try.results14]
    rw [← Nd.d_eq e]
    refine exP (.d (e.kid 2).d) ⟨fun σ' => ac' (rkid_ac e 2 (by omega) hok.len _ _ _ ⟨rfl, rfl⟩), ?_⟩
    simp only [go_sem, Try.results14]
    refine exP (di (ownM (den (declM S m p) []) (e.kid 2))) ⟨fun σ' => ac' (ih 2 (hok.kid 2) _ _ ⟨rfl, rfl⟩), ?_⟩
    simp only [go_sem, Try.results14]
    refine exP (di (orM (ownM (den (declM S m p) []) (e.kid 1)) (ownM (den (declM S m p) []) (e.kid 2)))) ⟨fun σ' => ac' (either_ac _ _ _ _ _ ⟨rfl, rfl⟩), ?_⟩
    simp only [go_sem, Try.results14]
    exact ret_d hbd h
  have c6 := beq_f k6
  rw [if_neg k6] at h
  by_cases k7 : e.kind = 7
  · have c7 := beq_t k7
    rw [if_pos (.inl k7)] at h
    simp only [go_sem, c2, c3, c4, c5, c6, c7, Try.results14]
    exact ret_d hbd h
  have c7 := beq_f k7
  by_cases k8 : e.kind = 8
  · have c8 := beq_t k8
    rw [if_pos (.inr k8)] at h
    simp only [go_sem, c2, c3, c4, c5, c6, c7, c8, Try.results14]
    exact ret_d hbd h
  have c8 := beq_f k8
  rw [if_neg (by omega)] at h
  simp only [go_sem, c2, c3, c4, c5, c6, c7, c8, Try.results14]
  exact ret_d hbd h
def lk0 : Lk := ⟨[], 0, Nd.none, 0⟩
theorem lk_d {l : List Lk} {i : Nat} (h : i < l.length) : List.getD (l.map lkD) i default = lkD (l.getD i lk0) := by
  rw [getD_mapD (d := lk0) h]
set_option maxHeartbeats 8000000 in
theorem rusable_ac (S : Sy) (hS : S.Ok) (σ : St) (G : Glob) (R : A → St → Prop) (h : R (db (usableM S)) σ) : AC Try.prog G 12 [.d (syD S)] σ R := by
  have hre : reachBytes < 9223372036854775806 := by decide
  have hl := hS.mods
  have hlv := hS.vars
  have hll := hS.locks
  have hlp := hS.procs
  have hvs : vrsD S.vars = .sl 7 (S.vars.map vrD) := rfl
  have hsy : syD S = .agg [.sl 22 (S.mods.map moD), .sl 7 (S.vars.map vrD), .sl 12 (S.locks.map lkD), .sl 16 (S.procs.map prD), .sl 5 (S.threads.map thD)] := rfl
  rw [hsy]
  refine ac_enter mixed Try.func12 rfl Try.ntmps12 (by simp only [go_sem]) fun hbd => ?_
  simp only [List.length_cons, List.length_nil, Nat.reduceAdd, Nat.reduceSub, List.replicate_succ, List.replicate_zero, List.cons_append, List.nil_append]
  have hu : usableM S = (S.vars.all (fun v => inMods S v.mod) && S.locks.all (fun l => inMods S l.mod) && S.procs.all (fun p => inMods S p.mod && sizedM p.params && sizedM p.locals) && sizedM S.vars) := rfl
  simp only [go_sem, List.length_map, Try.results12]
  rw [← hvs]
  refine ac' (rvars_ac S.vars hlv _ _ _ ?_)
  by_cases hz : sizedM S.vars = true
  · have hz1 : (!sizedM S.vars) = false := by rw [hz]; rfl
    rw [hvs]
    have him : ∀ m : Int, (decide (m < 0) || decide ((S.mods.length : Int) ≤ m)) = !inMods S m := fun m => by
      unfold inMods; rw [Bool.eq_iff_iff]; simp only [Bool.or_eq_true, decide_eq_true_eq, Bool.not_eq_true', decide_eq_false_iff_not]; omega
    simp only [go_sem, List.length_map, hz1, Try.results12]
    refine aw_loop (fun m fr st => ∃ j : Nat, j ≤ S.vars.length ∧ m = S.vars.length - j ∧ (S.vars.take j).all (fun v => inMods S v.mod) = true ∧ fr = [.any, .ref σ.length 0, .any, dn S.mods.length, dn j, .any, .any, .any, .any, .any, .any, .any, .any, .any, .any, .any, .any, .any, .any, .any, .any, .any, .any, .any, .any, .any, .any, .any, .any, .any, .any, .any, .any, .any, .any, .any, .any, .any, .any, .any, .any, .any, .any, .any, .any, .any, .any, .any, .any, .any, .any, .any, .any, .any, .any, .any, .any, .any, .any, .any, .any, .any, .any, .any, .any, .any, .any, .any, .any, .any, .any, .any, .any, .any, .any, .any, .any, .any, .any, .any, .any, .any, .any, .any, .any, .any, .any, .any, .any, .any, .any, .any, .any, .any, .any, .any] ∧ st = σ ++ [some (.cells [.d (.sl 22 (S.mods.map moD)), .d (.sl 7 (S.vars.map vrD)), .d (.sl 12 (S.locks.map lkD)), .d (.sl 16 (S.procs.map prD)), .d (.sl 5 (S.threads.map thD))])]) S.vars.length _
      (Wk.mask [1, 3, 4] ⟨0, by omega, by omega, rfl, rfl, rfl⟩) ?_
    rintro m fr st ⟨j, hj, hm, ha, rfl, rfl⟩
    rcases Nat.lt_or_ge j S.vars.length with hlt | hge
    · have hd : decide ((j : Int) < (S.vars.length : Int)) = true := by simp; omega
      have e1 := vr_d hlt
      have w1 := wrapS j (by omega)
      simp only [go_sem, List.length_map, hd, e1, w1, Try.results12]
      generalize hv : S.vars.getD j vr0 = v
      refine ⟨⟨by omega, by omega⟩, fun _ => ⟨by omega, by omega⟩, fun c => ret_d hbd ?_, fun c => ?_⟩
      · rw [him] at c
        have c' : inMods S v.mod = false := by simpa using c
        have : usableM S = false := by
          rw [hu, all_bad (p := fun v => inMods S v.mod) vr0 hlt (by rw [hv]; exact c')]; rfl
        rwa [this] at h
      · rw [him] at c
        have c' : inMods S v.mod = true := by simpa using c
        exact Wk.mask [1, 3, 4] ⟨S.vars.length - (j + 1), by omega, j + 1, hlt, rfl, by rw [all_take vr0 hlt, ha, hv, c']; rfl, rfl, rfl⟩
    have hd : decide ((j : Int) < (S.vars.length : Int)) = false := by simp; omega
    rw [List.take_of_length_le hge] at ha
    rw [ha, Bool.true_and] at hu
    simp only [go_sem, List.length_map, hd, Try.results12]
    clear hd ha hge hm hj
    refine aw_loop (fun m fr st => ∃ j : Nat, j ≤ S.locks.length ∧ m = S.locks.length - j ∧ (S.locks.take j).all (fun v => inMods S v.mod) = true ∧ fr = [.any, .ref σ.length 0, .any, dn S.mods.length, .any, dn j, .any, .any, .any, .any, .any, .any, .any, .any, .any, .any, .any, .any, .any, .any, .any, .any, .any, .any, .any, .any, .any, .any, .any, .any, .any, .any, .any, .any, .any, .any, .any, .any, .any, .any, .any, .any, .any, .any, .any, .any, .any, .any, .any, .any, .any, .any, .any, .any, .any, .any, .any, .any, .any, .any, .any, .any, .any, .any, .any, .any, .any, .any, .any, .any, .any, .any, .any, .any, .any, .any, .any, .any, .any, .any, .any, .any, .any, .any, .any, .any, .any, .any, .any, .any, .any, .any, .any, .any, .any, .any] ∧ st = σ ++ [some (.cells [.d (.sl 22 (S.mods.map moD)), .d (.sl 7 (S.vars.map vrD)), .d (.sl 12 (S.locks.map lkD)), .d (.sl 16 (S.procs.map prD)), .d (.sl 5 (S.threads.map thD))])]) S.locks.length _
      (Wk.mask [1, 3, 5] ⟨0, by omega, by omega, rfl, rfl, rfl⟩) ?_
    rintro m fr st ⟨j, hj, hm, ha, rfl, rfl⟩
    rcases Nat.lt_or_ge j S.locks.length with hlt | hge
    · have hd : decide ((j : Int) < (S.locks.length : Int)) = true := by simp; omega
      have e1 := lk_d hlt
      have w1 := wrapS j (by omega)
      generalize hv : S.locks.getD j lk0 = v at e1
      simp only [lkD, Nd.cs, List.cons_append, List.nil_append] at e1
      simp only [go_sem, List.length_map, hd, e1, w1, Try.results12]
      refine ⟨⟨by omega, by omega⟩, fun _ => ⟨by omega, by omega⟩, fun c => ret_d hbd ?_, fun c => ?_⟩
      · rw [him] at c
        have c' : inMods S v.mod = false := by simpa using c
        have : usableM S = false := by
          rw [hu, all_bad (p := fun v => inMods S v.mod) lk0 hlt (by rw [hv]; exact c')]; rfl
        rwa [this] at h
      · rw [him] at c
        have c' : inMods S v.mod = true := by simpa using c
        exact Wk.mask [1, 3, 5] ⟨S.locks.length - (j + 1), by omega, j + 1, hlt, rfl, by rw [all_take lk0 hlt, ha, hv, c']; rfl, rfl, rfl⟩
    have hd : decide ((j : Int) < (S.locks.length : Int)) = false := by simp; omega
    rw [List.take_of_length_le hge] at ha
    rw [ha, Bool.true_and] at hu
    simp only [go_sem, List.length_map, hd, Try.results12]
    clear hd ha hge hm hj
    refine aw_loop (fun m fr st => ∃ j : Nat, j ≤ S.procs.length ∧ m = S.procs.length - j ∧ (S.procs.take j).all (fun p => inMods S p.mod && sizedM p.params && sizedM p.locals) = true ∧ fr = [.any, .ref σ.length 0, .any, dn S.mods.length, .any, .any, dn j, .any, .any, .any, .any, .any, .any, .any, .any, .any, .any, .any, .any, .any, .any, .any, .any, .any, .any, .any, .any, .any, .any, .any, .any, .any, .any, .any, .any, .any, .any, .any, .any, .any, .any, .any, .any, .any, .any, .any, .any, .any, .any, .any, .any, .any, .any, .any, .any, .any, .any, .any, .any, .any, .any, .any, .any, .any, .any, .any, .any, .any, .any, .any, .any, .any, .any, .any, .any, .any, .any, .any, .any, .any, .any, .any, .any, .any, .any, .any, .any, .any, .any, .any, .any, .any, .any, .any, .any, .any] ∧ st = σ ++ [some (.cells [.d (.sl 22 (S.mods.map moD)), .d (.sl 7 (S.vars.map vrD)), .d (.sl 12 (S.locks.map lkD)), .d (.sl 16 (S.procs.map prD)), .d (.sl 5 (S.threads.map thD))])]) S.procs.length _
      (Wk.mask [1, 3, 6] ⟨0, by omega, by omega, rfl, rfl, rfl⟩) ?_
    rintro m fr st ⟨j, hj, hm, ha, rfl, rfl⟩
    rcases Nat.lt_or_ge j S.procs.length with hlt | hge
    · have hd : decide ((j : Int) < (S.procs.length : Int)) = true := by simp; omega
      have e1 := pr_d hlt
      have w1 := wrapS j (by omega)
      have hq : (S.procs.getD j pr0).Ok := hS.pr _ (getD_mem _ hlt)
      generalize hv : S.procs.getD j pr0 = v at e1 hq
      simp only [prD, vrsD, isD, Nd.cs, List.cons_append, List.nil_append] at e1
      simp only [go_sem, List.length_map, hd, e1, w1, Try.results12]
      refine ⟨⟨by omega, by omega⟩, ex' (.bool (sizedM v.params)) ⟨fun q => ?_, ?_⟩⟩
      · simp only [go_sem, Try.results12]
        rw [← vrsD]
        exact ⟨by assumption, ac' (rvars_ac _ hq.params _ _ _ ⟨rfl, rfl⟩)⟩
      simp only [go_sem, Try.results12]
      refine ex' (.bool (sizedM v.locals)) ⟨fun q => ?_, ?_⟩
      · simp only [go_sem, Try.results12]
        rw [← vrsD]
        exact ⟨by assumption, ac' (rvars_ac _ hq.locals _ _ _ ⟨rfl, rfl⟩)⟩
      simp only [go_sem, w1, Try.results12]
      have hk : (decide (v.mod < 0) || decide ((S.mods.length : Int) ≤ v.mod) || !sizedM v.params || !sizedM v.locals) = !(inMods S v.mod && sizedM v.params && sizedM v.locals) := by
        rw [him]; cases inMods S v.mod <;> cases sizedM v.params <;> cases sizedM v.locals <;> rfl
      refine ⟨fun c => ret_d hbd ?_, fun c => ?_⟩
      · rw [hk] at c
        have c' : (inMods S v.mod && sizedM v.params && sizedM v.locals) = false := by simpa only [Bool.not_eq_true'] using c
        have : usableM S = false := by
          rw [hu, all_bad (p := fun p : Pr => inMods S p.mod && sizedM p.params && sizedM p.locals) pr0 hlt (by rw [hv]; exact c')]; rfl
        rwa [this] at h
      · rw [hk] at c
        have c' : (inMods S v.mod && sizedM v.params && sizedM v.locals) = true := by simpa only [Bool.not_eq_false'] using c
        exact Wk.keep [1, 3, 6] [0] (by decide) (Nat.le_refl _) hbd ⟨S.procs.length - (j + 1), by omega, j + 1, hlt, rfl, by rw [all_take pr0 hlt, ha, hv, c']; rfl, by simp only [go_sem], by simp only [go_sem]⟩
    · have hd : decide ((j : Int) < (S.procs.length : Int)) = false := by simp; omega
      rw [List.take_of_length_le hge] at ha
      simp only [go_sem, List.length_map, hd, Try.results12]
      have : usableM S = true := by rw [hu, ha, hz]; rfl
      rw [this] at h
      exact ret_d hbd h
  · have hz' : sizedM S.vars = false := by simpa using hz
    have hz1 : (!sizedM S.vars) = true := by rw [hz']; rfl
    have : usableM S = false := by rw [hu, hz', Bool.and_false]
    rw [this] at h
    simp only [go_sem, List.length_map, hz1, Try.results12]
    exact ret_d hbd h
end Go.Proofs.Ytfoblkeefpaceaa
end PartS5

section PartS6
/- Symbols that package typing takes. -/
set_option linter.unusedSimpArgs false
set_option linter.unusedVariables false
set_option maxRecDepth 100000
namespace Go.Proofs.Ytfoblkeefpaceaa
open Go Go.Ab

theorem lt_of_some {α : Type} {l : List α} {i : Nat} {x : α} (h : l[i]? = some x) : i < l.length := (List.getElem?_eq_some_iff.1 h).1
theorem objK_old {τ l : St} {i : Nat} {cs : List A} {k : List A → Prop} (h : τ[i]? = some (some (.cells cs))) : objK (τ ++ l) i k = k cs := objK_of (by rw [List.getElem?_append_left (lt_of_some h)]; exact h)
theorem live_old {τ l : St} {i : Nat} {o : Ob} (h : τ[i]? = some (some o)) : liveId (τ ++ l) i = true := live_of (o := o) (by rw [List.getElem?_append_left (lt_of_some h)]; exact h)
theorem set_old {τ l : St} {i : Nat} {x : Option Ob} (h : i < τ.length) : List.set (τ ++ l) i x = List.set τ i x ++ l := List.set_append_left _ _ h
theorem mod_ac (S : Sy) (m : Int) (i : Nat) (σ : St) (hi : σ[i]? = some (some (.cells [.d (.sl 22 (S.mods.map moD)), .d (.sl 7 (S.vars.map vrD)), .d (.sl 12 (S.locks.map lkD)), .d (.sl 16 (S.procs.map prD)), .d (.sl 5 (S.threads.map thD))]))) (G : Glob) (R : A → St → Prop) (h : R (db (inMods S m)) σ) : AC Try.prog G 47 [di m, .ref i 0] σ R := by
  refine ac_enter mixed Try.func47 rfl Try.ntmps47 (by simp only [go_sem]) fun hbd => ?_
  simp only [List.length_cons, List.length_nil, Nat.reduceAdd, Nat.reduceSub, List.replicate_succ, List.replicate_zero, List.cons_append, List.nil_append]
  simp only [go_sem, live_of hi, objK_of hi, List.length_map, Try.results47]
  have e : (decide (0 ≤ m) && decide (m < (S.mods.length : Int))) = inMods S m := by
    unfold inMods; rw [Bool.decide_and]
  rw [e]
  exact ret_d0 h
set_option maxHeartbeats 8000000 in
theorem usable_ac (S : Sy) (hS : S.Ok) (σ : St) (G : Glob) (R : A → St → Prop) (h : R (db (usableM S)) σ) : AC Try.prog G 32 [.d (syD S)] σ R := by
  have hre : reachBytes < 9223372036854775806 := by decide
  have hl := hS.mods
  have hlv := hS.vars
  have hll := hS.locks
  have hlp := hS.procs
  have hsy : syD S = .agg [.sl 22 (S.mods.map moD), .sl 7 (S.vars.map vrD), .sl 12 (S.locks.map lkD), .sl 16 (S.procs.map prD), .sl 5 (S.threads.map thD)] := rfl
  have hvs : vrsD S.vars = .sl 7 (S.vars.map vrD) := rfl
  rw [hsy]
  refine ac_enter mixed Try.func32 rfl Try.ntmps32 (by simp only [go_sem]) fun hbd => ?_
  simp only [List.length_cons, List.length_nil, Nat.reduceAdd, Nat.reduceSub, List.replicate_succ, List.replicate_zero, List.cons_append, List.nil_append]
  have hu : usableM S = (S.vars.all (fun v => inMods S v.mod) && S.locks.all (fun l => inMods S l.mod) && S.procs.all (fun p => inMods S p.mod && sizedM p.params && sizedM p.locals) && sizedM S.vars) := rfl
  simp only [go_sem, List.length_map, Try.results32]
  refine aw_loop (fun m fr st => ∃ j : Nat, j ≤ S.vars.length ∧ m = S.vars.length - j ∧ (S.vars.take j).all (fun v => inMods S v.mod) = true ∧ fr = [.any, .ref σ.length 0, .any, .fn (.func 47) [] [.ref σ.length 0], .any, .any, .any, .any, .any, .any, .any, .any, .d (.sl 7 (S.vars.map vrD)), dn S.vars.length, dn j, .any, .any, .any, .any, .any, .any, .any, .any, .any, .any, .any, .any, .any, .any, .any, .any, .any, .any, .any, .any, .any, .any, .any, .any, .any, .any, .any, .any, .any, .any, .any, .any, .any, .any, .any, .any, .any, .any, .any, .any, .any, .any, .any, .any, .any, .any, .any, .any, .any, .any] ∧ st = σ ++ [some (.cells [.d (.sl 22 (S.mods.map moD)), .d (.sl 7 (S.vars.map vrD)), .d (.sl 12 (S.locks.map lkD)), .d (.sl 16 (S.procs.map prD)), .d (.sl 5 (S.threads.map thD))])]) S.vars.length _
    (Wk.mask [1, 3, 12, 13, 14] ⟨0, by omega, by omega, rfl, rfl, rfl⟩) ?_
  rintro m fr st ⟨j, hj, hm, ha, rfl, rfl⟩
  rcases Nat.lt_or_ge j S.vars.length with hlt | hge
  · have hd : decide ((j : Int) < (S.vars.length : Int)) = true := by simp; omega
    have e1 := vr_d hlt
    have w1 := wrapS j (by omega)
    generalize hv : S.vars.getD j vr0 = v at e1
    simp only [go_sem, List.length_map, hd, e1, w1, Try.results32]
    refine ⟨⟨by omega, by omega⟩, ac' (mod_ac S _ _ _ (by simp) _ _ ?_)⟩
    simp only [go_sem, w1, Try.results32]
    refine ⟨fun c => ret_d hbd ?_, fun c => ?_⟩
    · have c' : inMods S v.mod = false := by simpa using c
      have : usableM S = false := by
        rw [hu, all_bad (p := fun v => inMods S v.mod) vr0 hlt (by rw [hv]; exact c')]; rfl
      rwa [this] at h
    · have c' : inMods S v.mod = true := by simpa using c
      exact Wk.keep [1, 3, 12, 13, 14] [0] (by decide) (Nat.le_refl _) hbd ⟨S.vars.length - (j + 1), by omega, j + 1, hlt, rfl, by rw [all_take vr0 hlt, ha, hv, c']; rfl, by simp only [go_sem], by simp only [go_sem]⟩
  have hd : decide ((j : Int) < (S.vars.length : Int)) = false := by simp; omega
  rw [List.take_of_length_le hge] at ha
  rw [ha, Bool.true_and] at hu
  simp only [go_sem, List.length_map, hd, Try.results32]
  clear hd ha hge hm hj
  refine aw_loop (fun m fr st => ∃ j : Nat, j ≤ S.locks.length ∧ m = S.locks.length - j ∧ (S.locks.take j).all (fun v => inMods S v.mod) = true ∧ fr = [.any, .ref σ.length 0, .any, .fn (.func 47) [] [.ref σ.length 0], .any, .any, .any, .any, .any, .any, .any, .any, .any, .any, .any, .any, .any, .any, .any, .any, .any, .any, .any, .any, .any, .d (.sl 12 (S.locks.map lkD)), dn S.locks.length, dn j, .any, .any, .any, .any, .any, .any, .any, .any, .any, .any, .any, .any, .any, .any, .any, .any, .any, .any, .any, .any, .any, .any, .any, .any, .any, .any, .any, .any, .any, .any, .any, .any, .any, .any, .any, .any, .any] ∧ st = σ ++ [some (.cells [.d (.sl 22 (S.mods.map moD)), .d (.sl 7 (S.vars.map vrD)), .d (.sl 12 (S.locks.map lkD)), .d (.sl 16 (S.procs.map prD)), .d (.sl 5 (S.threads.map thD))])]) S.locks.length _
    (Wk.mask [1, 3, 25, 26, 27] ⟨0, by omega, by omega, rfl, rfl, rfl⟩) ?_
  rintro m fr st ⟨j, hj, hm, ha, rfl, rfl⟩
  rcases Nat.lt_or_ge j S.locks.length with hlt | hge
  · have hd : decide ((j : Int) < (S.locks.length : Int)) = true := by simp; omega
    have e1 := lk_d hlt
    have w1 := wrapS j (by omega)
    generalize hv : S.locks.getD j lk0 = v at e1
    simp only [lkD, Nd.cs, List.cons_append, List.nil_append] at e1
    simp only [go_sem, List.length_map, hd, e1, w1, Try.results32]
    refine ⟨⟨by omega, by omega⟩, ac' (mod_ac S _ _ _ (by simp) _ _ ?_)⟩
    simp only [go_sem, w1, Try.results32]
    refine ⟨fun c => ret_d hbd ?_, fun c => ?_⟩
    · have c' : inMods S v.mod = false := by simpa using c
      have : usableM S = false := by
        rw [hu, all_bad (p := fun v => inMods S v.mod) lk0 hlt (by rw [hv]; exact c')]; rfl
      rwa [this] at h
    · have c' : inMods S v.mod = true := by simpa using c
      exact Wk.keep [1, 3, 25, 26, 27] [0] (by decide) (Nat.le_refl _) hbd ⟨S.locks.length - (j + 1), by omega, j + 1, hlt, rfl, by rw [all_take lk0 hlt, ha, hv, c']; rfl, by simp only [go_sem], by simp only [go_sem]⟩
  have hd : decide ((j : Int) < (S.locks.length : Int)) = false := by simp; omega
  rw [List.take_of_length_le hge] at ha
  rw [ha, Bool.true_and] at hu
  simp only [go_sem, List.length_map, hd, Try.results32]
  clear hd ha hge hm hj
  refine aw_loop (fun m fr st => ∃ j : Nat, j ≤ S.procs.length ∧ m = S.procs.length - j ∧ (S.procs.take j).all (fun p => inMods S p.mod && sizedM p.params && sizedM p.locals) = true ∧ fr = [.any, .ref σ.length 0, .any, .fn (.func 47) [] [.ref σ.length 0], .any, .any, .any, .any, .any, .any, .any, .any, .any, .any, .any, .any, .any, .any, .any, .any, .any, .any, .any, .any, .any, .any, .any, .any, .any, .any, .any, .any, .any, .any, .any, .any, .any, .any, .d (.sl 16 (S.procs.map prD)), dn S.procs.length, dn j, .any, .any, .any, .any, .any, .any, .any, .any, .any, .any, .any, .any, .any, .any, .any, .any, .any, .any, .any, .any, .any, .any, .any, .any] ∧ st = σ ++ [some (.cells [.d (.sl 22 (S.mods.map moD)), .d (.sl 7 (S.vars.map vrD)), .d (.sl 12 (S.locks.map lkD)), .d (.sl 16 (S.procs.map prD)), .d (.sl 5 (S.threads.map thD))])]) S.procs.length _
    (Wk.mask [1, 3, 38, 39, 40] ⟨0, by omega, by omega, rfl, rfl, rfl⟩) ?_
  rintro m fr st ⟨j, hj, hm, ha, rfl, rfl⟩
  rcases Nat.lt_or_ge j S.procs.length with hlt | hge
  · have hd : decide ((j : Int) < (S.procs.length : Int)) = true := by simp; omega
    have e1 := pr_d hlt
    have w1 := wrapS j (by omega)
    have hq : (S.procs.getD j pr0).Ok := hS.pr _ (getD_mem _ hlt)
    generalize hv : S.procs.getD j pr0 = v at e1 hq
    simp only [prD, vrsD, isD, Nd.cs, List.cons_append, List.nil_append] at e1
    simp only [go_sem, List.length_map, hd, e1, w1, Try.results32]
    refine ⟨⟨by omega, by omega⟩, ac' (mod_ac S _ _ _ (by simp) _ _ ?_)⟩
    simp only [go_sem, w1, Try.results32]
    refine ex' (.bool (sizedM v.params)) ⟨fun q => ?_, ?_⟩
    · simp only [go_sem, Try.results32]
      rw [← vrsD]
      exact ⟨by assumption, ac' (sized_ac _ hq.params _ _ _ ⟨rfl, rfl⟩)⟩
    simp only [go_sem, Try.results32]
    refine ⟨fun q => by simpa using q, ex' (.bool (sizedM v.locals)) ⟨fun q => ?_, ?_⟩⟩
    · simp only [go_sem, Try.results32]
      rw [← vrsD]
      exact ⟨by assumption, ac' (sized_ac _ hq.locals _ _ _ ⟨rfl, rfl⟩)⟩
    simp only [go_sem, w1, Try.results32]
    have hk : (!inMods S v.mod || !sizedM v.params || !sizedM v.locals) = !(inMods S v.mod && sizedM v.params && sizedM v.locals) := by
      cases inMods S v.mod <;> cases sizedM v.params <;> cases sizedM v.locals <;> rfl
    refine ⟨fun c => ret_d hbd ?_, fun c => ?_⟩
    · rw [hk] at c
      have c' : (inMods S v.mod && sizedM v.params && sizedM v.locals) = false := by simpa only [Bool.not_eq_true'] using c
      have : usableM S = false := by
        rw [hu, all_bad (p := fun p : Pr => inMods S p.mod && sizedM p.params && sizedM p.locals) pr0 hlt (by rw [hv]; exact c')]; rfl
      rwa [this] at h
    · rw [hk] at c
      have c' : (inMods S v.mod && sizedM v.params && sizedM v.locals) = true := by simpa only [Bool.not_eq_false'] using c
      exact Wk.keep [1, 3, 38, 39, 40] [0] (by decide) (Nat.le_refl _) hbd ⟨S.procs.length - (j + 1), by omega, j + 1, hlt, rfl, by rw [all_take pr0 hlt, ha, hv, c']; rfl, by simp only [go_sem], by simp only [go_sem]⟩
  · have hd : decide ((j : Int) < (S.procs.length : Int)) = false := by simp; omega
    rw [List.take_of_length_le hge] at ha
    simp only [go_sem, List.length_map, hd, Try.results32]
    rw [← hvs]
    refine ac' (sized_ac _ hlv _ _ _ ?_)
    simp only [go_sem, Try.results32]
    have : usableM S = sizedM S.vars := by rw [hu, ha]; rfl
    rw [this] at h
    exact ret_d hbd h
end Go.Proofs.Ytfoblkeefpaceaa
end PartS6

section PartK1
/- The checker: what a path denotes. -/
set_option linter.unusedSimpArgs false
set_option linter.unusedVariables false
set_option maxRecDepth 100000
namespace Go.Proofs.Ytfoblkeefpaceaa
open Go Go.Ab

/-- A checker's cells. -/
def chk (S : Sy) (m p : Int) (bd : A) (old : Bool) (ig : Nat) (st : A) : List A :=
  [.d (.sl 22 (S.mods.map moD)), .d (vrsD S.vars), .d (.sl 12 (S.locks.map lkD)), .d (.sl 16 (S.procs.map prD)), .d (.sl 5 (S.threads.map thD)), di m, di p, bd, db old, .fn (.func 50) [] [.ref ig 0], st]
/-- Bound variables as they lie. -/
def bcs (B : Bnd) : List A := B.flatMap fun b => [.d (.str b.1), di b.2]
theorem bcs_len (B : Bnd) : (bcs B).length = B.length * 2 := by
  induction B with
  | nil => rfl
  | cons b r ih => simp only [bcs, List.flatMap_cons, List.length_append, List.length_cons, List.length_nil] at ih ⊢; omega
theorem bcs_at {B : Bnd} {k : Nat} (h : k < B.length) {b : Str × Int} (hb : B.getD k ([], 0) = b) : (bcs B).getD (k * 2) .any = .d (.str b.1) ∧ (bcs B).getD (k * 2 + 1) .any = di b.2 := by
  induction B generalizing k with
  | nil => simp at h
  | cons a r ih =>
    cases k with
    | zero => simp only [List.getD_cons_zero] at hb; subst hb; exact ⟨rfl, rfl⟩
    | succ k =>
      simp only [List.getD_cons_succ] at hb
      have := ih (by simpa using h) hb
      have e1 : (k + 1) * 2 = k * 2 + 1 + 1 := by omega
      have e2 : bcs (a :: r) = .d (.str a.1) :: di a.2 :: bcs r := rfl
      rw [e1, e2, List.getD_cons_succ, List.getD_cons_succ, List.getD_cons_succ, List.getD_cons_succ]
      exact this
theorem rev_split {B : Bnd} {k : Nat} (h : k < B.length) {b : Str × Int} (hb : B.getD k ([], 0) = b) : (B.drop k).reverse = (B.drop (k + 1)).reverse ++ [b] := by
  rw [drop_getD ([], 0) h, hb, List.reverse_cons]
theorem drop_miss {B : Bnd} {k : Nat} (h : k < B.length) {b : Str × Int} (hb : B.getD k ([], 0) = b) {s : Str} (hn : (B.drop (k + 1)).reverse.find? (fun b => b.1 == s) = none) (hs : (b.1 == s) = false) : (B.drop k).reverse.find? (fun b => b.1 == s) = none := by
  rw [rev_split h hb, List.find?_append, hn]; simp [hs]
theorem den_hit {L : Str → Option (Int × Vr)} {B : Bnd} {k : Nat} (h : k < B.length) {b : Str × Int} (hb : B.getD k ([], 0) = b) {s : Str} (hn : (B.drop (k + 1)).reverse.find? (fun b => b.1 == s) = none) (hs : (b.1 == s) = true) : den L B s = .bound b.2 := by
  unfold den
  have : B.reverse = (B.drop k).reverse ++ (B.take k).reverse := by rw [← List.reverse_append, List.take_append_drop]
  rw [this, rev_split h hb, List.find?_append, List.find?_append, hn]; simp [hs]
set_option maxHeartbeats 4000000 in
theorem denotes_ac (S : Sy) (hS : S.Ok) (m p : Int) (hpl : True) (old : Bool) (ig ib ic : Nat) (st : A) (B : Bnd) (hB : B.length ≤ reachBytes) (ow : Option TypeId) (s : Str) (hs : s.length ≤ reachBytes) (σ : St) (hc : σ[ic]? = some (some (.cells (chk S m p (.rs ib 2 0 B.length ow) old ig st)))) (hb : σ[ib]? = some (some (.cells (bcs B))))
    (G : Glob) (R : A → St → Prop) (h : R (.d (mnD (den (declM S m p) B s))) σ) : AC Try.prog G 57 [.ref ic 0, .d (.str s)] σ R := by
  have hre : reachBytes < 9223372036854775806 := by decide
  unfold chk at hc
  refine ac_enterC' [6] mixed Try.func57 rfl Try.ntmps57 (by simp only [go_sem]) fun hbd => ?_
  simp only [List.length_cons, List.length_nil, Nat.reduceAdd, Nat.reduceSub, List.replicate_succ, List.replicate_zero, List.cons_append, List.nil_append]
  simp only [go_sem, live_of hc, objK_of hc, live_old hc, objK_old hc, Try.results57]
  refine aw_cut (fun fr st => den (declM S m p) B s = (match declM S m p s with | some (k, v) => .var k v | none => .none) ∧ fr = [.ref ic 0, .d (.str s), .any, .any, .ref σ.length 0, .any, .any, .any, .any, .any, .any, .any, .any, .any, .any, .any, .any, .any, .any, .any, .any, .any, .any, .any, .any, .any, .any, .any, .any, .any, .any, .any, .any, .any, .any, .any, .any, .any, .any, .any, .any, .any, .any, .any, .any, .any, .any, .any, .any, .any, .any, .any, .any, .any, .any, .any, .any, .any, .any, .any, .any, .any, .any, .any, .any, .any, .any, .any, .any, .any, .any, .any, .any, .any, .any, .any, .any, .any, .any, .any, .any, .any, .any, .any, .any, .any, .any, .any, .any, .any, .any, .any, .any, .any, .any, .any, .any, .any, .any, .any, .any, .any, .any, .any, .any, .any, .any, .any, .any, .any, .any, .any, .any, .any] ∧ st = σ ++ [some (.cells [di 0, di 0, .d (.str []), di 0, di 0, di 0, db false, di 0, di 0])]) ?_ ?_
  · simp only [go_sem, live_of hc, objK_of hc, live_old hc, objK_old hc, live_old hb, objK_old hb, Try.results57]
    have w0 : IntKind.i64.wrap ((B.length : Int) - 1) = (B.length : Int) - 1 := wrap64_id _ (by omega) (by omega)
    simp only [w0]
    refine aw_loop (fun q fr st => ∃ j : Nat, j ≤ B.length ∧ q = j ∧ (B.drop j).reverse.find? (fun b => b.1 == s) = none ∧ fr = [.ref ic 0, .d (.str s), .any, .any, .ref σ.length 0, di ((j : Int) - 1), .any, .any, .any, .any, .any, .any, .any, .any, .any, .any, .any, .any, .any, .any, .any, .any, .any, .any, .any, .any, .any, .any, .any, .any, .any, .any, .any, .any, .any, .any, .any, .any, .any, .any, .any, .any, .any, .any, .any, .any, .any, .any, .any, .any, .any, .any, .any, .any, .any, .any, .any, .any, .any, .any, .any, .any, .any, .any, .any, .any, .any, .any, .any, .any, .any, .any, .any, .any, .any, .any, .any, .any, .any, .any, .any, .any, .any, .any, .any, .any, .any, .any, .any, .any, .any, .any, .any, .any, .any, .any, .any, .any, .any, .any, .any, .any, .any, .any, .any, .any, .any, .any, .any, .any, .any, .any, .any, .any] ∧ st = σ ++ [some (.cells [di 0, di 0, .d (.str []), di 0, di 0, di 0, db false, di 0, di 0])]) B.length _ ?_ ?_
    · exact Wk.mask [0, 1, 4, 5] ⟨B.length, by omega, rfl, by simp, rfl, rfl⟩
    rintro q fr st ⟨j, hj, rfl, hn, rfl, rfl⟩
    rcases Nat.eq_zero_or_pos q with rfl | hpos
    · have hd : decide ((0 : Int) ≤ ((0 : Nat) : Int) - 1) = false := by decide
      simp only [go_sem, hd, Try.results57]
      refine Wk.mask [0, 1, 4] ⟨?_, rfl, rfl⟩
      unfold den
      rw [List.drop_zero] at hn
      rw [hn]
      rfl
    · obtain ⟨k, rfl⟩ : ∃ k, q = k + 1 := ⟨q - 1, by omega⟩
      have hd : decide ((0 : Int) ≤ ((k + 1 : Nat) : Int) - 1) = true := by simp
      have e0 : ((k + 1 : Nat) : Int) - 1 = (k : Int) := by omega
      obtain ⟨b, hbk⟩ : ∃ b, B.getD k ([], 0) = b := ⟨_, rfl⟩
      obtain ⟨f0, f1⟩ := bcs_at (by omega) hbk
      have fl := bcs_len B
      have hd0 : decide ((0 : Int) ≤ (k : Int)) = true := by simp
      have wk : IntKind.i64.wrap ((k : Int) - 1) = (k : Int) - 1 := wrap64_id _ (by omega) (by omega)
      simp only [go_sem, hd, hd0, wk, e0, live_old hc, objK_old hc, live_old hb, objK_old hb, f0, f1, fl, Try.results57]
      refine ⟨⟨by omega, by omega⟩, by omega, fun c => ⟨⟨by omega, by omega⟩, by omega, ?_⟩, fun c => ?_⟩
      · rw [den_hit (by omega) hbk hn c] at h
        exact ret_d hbd h
      · exact Wk.mask [0, 1, 4, 5] ⟨k, by omega, k, by omega, rfl, drop_miss (by omega) hbk hn c, rfl, rfl⟩
  · rintro fr st ⟨hden, rfl, rfl⟩
    rw [hden] at h
    have hk1 : ((1 : Int) != 0) = true := rfl
    have hk2 : ((40 : Int) != 0) = true := rfl
    have hk3 : ((0 : Int) != 0) = false := rfl
    simp only [go_sem, Try.results57]
    refine aw_plan (.tk 13 0 <| .pure 13 <| .tk 6 14 <| .done) (by kernel_rfl) ?_
    simp only [go_sem, live_old hc, objK_old hc, Try.results57]
    have hsy : syD S = .agg [.sl 22 (S.mods.map moD), vrsD S.vars, .sl 12 (S.locks.map lkD), .sl 16 (S.procs.map prD), .sl 5 (S.threads.map thD)] := rfl
    refine exP (tgA (lookM S m p s)) ⟨fun σ' => ?_, ?_⟩
    · simp only [go_sem, Try.results57]
      rw [← hsy]
      exact ac' (look_ac S hS m p s hs _ _ _ ⟨rfl, rfl⟩)
    unfold declM at h
    cases hk : lookM S m p s with
    | bad =>
      rw [hk] at h
      simp only [tgA, go_sem, hk1, Try.results57]
      exact ret_d hbd h
    | no =>
      rw [hk] at h
      simp only [tgA, go_sem, hk2, Try.results57]
      exact ret_d hbd h
    | at_ k i =>
      rw [hk] at h
      obtain ⟨hpl, ⟨rfl, hi⟩ | ⟨q, hq, hh⟩⟩ := lookM_spec hk
      · have b1 : ((1 : Int) == 1) = true := rfl
        have e1 := vr_d hi
        have hvl := hS.vars
        have hvs : vrsD S.vars = .sl 7 (S.vars.map vrD) := rfl
        rw [hvs] at hc
        simp only [Int.reduceEq, if_false] at h
        simp only [tgA, go_sem, hk3, b1, Try.results57]
        refine aw_plan (.tk 11 0 <| .done) (by kernel_rfl) ?_
        simp only [go_sem, live_old hc, objK_old hc, List.length_map, e1, Int.toNat_natCast, Try.results57]
        refine ⟨⟨by omega, by omega⟩, ?_⟩
        exact ret_d hbd h
      have hq' := hq
      unfold prAt at hq'
      split at hq'
      case isFalse => cases hq'
      rename_i hp0
      have hp1 : p.toNat < S.procs.length := by
        rw [List.getElem?_eq_some_iff] at hq'; exact hq'.1
      have e1 := pr_d hp1
      have hqe : S.procs.getD p.toNat pr0 = q := by rw [List.getD_eq_getElem?_getD, hq']; rfl
      rw [hqe] at e1
      simp only [prD, vrsD, isD, Nd.cs, List.cons_append, List.nil_append] at e1
      have hlp := hS.procs
      rcases hh with ⟨rfl, hi⟩ | ⟨rfl, hi⟩
      · have b1 : ((2 : Int) == 1) = false := rfl
        have b2 : ((2 : Int) == 2) = true := rfl
        have b3 : ((2 : Int) == 3) = false := rfl
        have e2 := vr_d hi
        simp only [Int.reduceEq, if_true, if_false, hq] at h
        simp only [tgA, go_sem, hk3, b1, b2, b3, Try.results57]
        refine aw_plan (.tk 18 0 <| .done) (by kernel_rfl) ?_
        simp only [go_sem, live_old hc, objK_old hc, List.length_map, e1, e2, Int.toNat_natCast, Try.results57]
        refine ⟨⟨by omega, by omega⟩, ⟨by omega, by omega⟩, ?_⟩
        exact ret_d hbd h
      · have b1 : ((3 : Int) == 1) = false := rfl
        have b2 : ((3 : Int) == 2) = false := rfl
        have b3 : ((3 : Int) == 3) = true := rfl
        have e2 := vr_d hi
        simp only [Int.reduceEq, if_true, if_false, hq] at h
        simp only [tgA, go_sem, hk3, b1, b2, b3, Try.results57]
        refine aw_plan (.tk 18 0 <| .done) (by kernel_rfl) ?_
        simp only [go_sem, live_old hc, objK_old hc, List.length_map, e1, e2, Int.toNat_natCast, Try.results57]
        refine ⟨⟨by omega, by omega⟩, ⟨by omega, by omega⟩, ?_⟩
        exact ret_d hbd h
end Go.Proofs.Ytfoblkeefpaceaa
end PartK1

section PartK2
/- The checker: widths. -/
set_option linter.unusedSimpArgs false
set_option linter.unusedVariables false
set_option maxRecDepth 100000
namespace Go.Proofs.Ytfoblkeefpaceaa
open Go Go.Ab

/-- What does not turn while a tree is checked: symbols, place, the reports' cell, the checker, its statements. -/
structure Kx where
  S : Sy
  m : Int
  p : Int
  old : Bool
  ig : Nat
  ic : Nat
  st : A
def Kx.L (X : Kx) : Str → Option (Int × Vr) := declM X.S X.m X.p
def Kx.C (X : Kx) : Cx := ⟨X.L, X.old⟩
/-- The checker in a store. -/
structure Rdy (X : Kx) (B : Bnd) (ib : Nat) (σ : St) : Prop where
  ok : X.S.Ok
  us : usableM X.S = true
  pl : True
  c : σ[X.ic]? = some (some (.cells (chk X.S X.m X.p (.rs ib 2 0 B.length (some 110)) X.old X.ig X.st)))
  b : σ[ib]? = some (some (.cells (bcs B)))
  hB : B.length ≤ 10000
  hN : ∀ b ∈ B, I64 b.2
theorem Rdy.app {X : Kx} {B : Bnd} {ib : Nat} {σ : St} (h : Rdy X B ib σ) (l : St) : Rdy X B ib (σ ++ l) :=
  ⟨h.ok, h.us, h.pl, by rw [List.getElem?_append_left (lt_of_some h.c)]; exact h.c, by rw [List.getElem?_append_left (lt_of_some h.b)]; exact h.b, h.hB, h.hN⟩
theorem Rdy.den {X : Kx} {B : Bnd} {ib : Nat} {σ : St} (h : Rdy X B ib σ) (s : Str) (hs : s.length ≤ reachBytes) (G : Glob) (R : A → St → Prop) (hR : R (.d (mnD (den X.L B s))) σ) : AC Try.prog G 57 [.ref X.ic 0, .d (.str s)] σ R :=
  denotes_ac X.S h.ok X.m X.p h.pl X.old X.ig ib X.ic X.st B (by have := h.hB; simp only [reachBytes]; omega) _ s hs σ h.c h.b G R hR
theorem decl_kind {S : Sy} {m p : Int} {s : Str} {k : Int} {v : Vr} (h : declM S m p s = some (k, v)) : k = 1 ∨ k = 2 ∨ k = 3 := by
  unfold declM at h
  split at h
  · rename_i k' i hl
    obtain ⟨-, ⟨rfl, hi⟩ | ⟨q, hq, h'⟩⟩ := lookM_spec hl
    · injection h with h; injection h with h1 h2; exact .inl h1.symm
    · injection h with h; injection h with h1 h2
      rcases h' with ⟨rfl, -⟩ | ⟨rfl, -⟩
      · exact .inr (.inl h1.symm)
      · exact .inr (.inr h1.symm)
  · cases h
theorem den_kind {X : Kx} {B : Bnd} {s : Str} {k : Int} {v : Vr} (h : den X.L B s = .var k v) : k = 1 ∨ k = 2 ∨ k = 3 := decl_kind (den_var h)
theorem own_of_kind {X : Kx} {B : Bnd} {s : Str} : (den X.L B s).own = if ((den X.L B s).kind != 0 && (den X.L B s).kind != 4) = true then (den X.L B s).vr.w else 0 := by
  cases h : den X.L B s with
  | none => rfl
  | bound n => rfl
  | var k v =>
    rcases den_kind h with rfl | rfl | rfl <;> rfl
/-- A kid's own width. -/
def OwnAt (X : Kx) (B : Bnd) (ib : Nat) (e : Nd) : Prop := ∀ (σ : St), Rdy X B ib σ → ∀ (G : Glob) (R : A → St → Prop), R (di (ownM (den X.L B) e)) σ → AC Try.prog G 51 [.ref X.ic 0, .d e.d] σ R
theorem ownOf_ac {X : Kx} {B : Bnd} {ib : Nat} {e : Nd} (hok : e.Ok) (i j : Nat) (hi : i < 1000) (hj : j < 1000) (h1 : OwnAt X B ib (e.kid i)) (h2 : OwnAt X B ib (e.kid j)) (σ : St) (hr : Rdy X B ib σ) (G : Glob) (R : A → St → Prop) (h : R (di (orM (ownM (den X.L B) (e.kid i)) (ownM (den X.L B) (e.kid j)))) σ) :
    AC Try.prog G 67 [.ref X.ic 0, .d e.d, dn i, dn j] σ R := by
  rw [Nd.d_eq]
  refine ac_enter mixed Try.func67 rfl Try.ntmps67 (by simp only [go_sem]) fun hbd => ?_
  simp only [List.length_cons, List.length_nil, Nat.reduceAdd, Nat.reduceSub, List.replicate_succ, List.replicate_zero, List.cons_append, List.nil_append]
  simp only [go_sem, Try.results67]
  rw [← Nd.d_eq]
  refine ac' (kid_ac e i (by omega) hok.len _ _ _ ?_)
  simp only [go_sem, Try.results67]
  refine ac' (h1 _ (hr.app _) _ _ ?_)
  unfold orM at h
  by_cases hz : ownM (den X.L B) (e.kid i) = 0
  · have b : (ownM (den X.L B) (e.kid i) != 0) = false := by simpa using hz
    rw [if_neg (by omega)] at h
    simp only [go_sem, b, Try.results67]
    rw [← Nd.d_eq]
    refine ac' (kid_ac e j (by omega) hok.len _ _ _ ?_)
    simp only [go_sem, Try.results67]
    refine ac' (h2 _ (hr.app _) _ _ ?_)
    simp only [go_sem, Try.results67]
    exact ret_d hbd h
  · have b : (ownM (den X.L B) (e.kid i) != 0) = true := by simpa using hz
    rw [if_pos hz] at h
    simp only [go_sem, b, Try.results67]
    exact ret_d hbd h
set_option maxHeartbeats 8000000 in
theorem own_ac (X : Kx) (B : Bnd) (ib : Nat) : ∀ e : Nd, e.Ok → OwnAt X B ib e := by
  refine Nd.ind (fun _ σ hr G R h => ?_) fun e ih _ hok σ hr G R h => ?_
  · rw [own_none] at h
    rw [Nd.d_eq]
    refine ac_enter mixed Try.func51 rfl Try.ntmps51 (by simp only [go_sem]) fun hbd => ?_
    simp only [List.length_cons, List.length_nil, Nat.reduceAdd, Nat.reduceSub, List.replicate_succ, List.replicate_zero, List.cons_append, List.nil_append]
    have c2 : (Nd.none.kind == 2) = false := rfl
    have c3 : (Nd.none.kind == 3) = false := rfl
    have c4 : (Nd.none.kind == 4) = false := rfl
    have c5 : (Nd.none.kind == 5) = false := rfl
    have c6 : (Nd.none.kind == 6) = false := rfl
    have c7 : (Nd.none.kind == 7) = false := rfl
    have c8 : (Nd.none.kind == 8) = false := rfl
    simp only [go_sem, c2, c3, c4, c5, c6, c7, c8, Try.results51]
    exact ret_d hbd h
  rw [own_eq] at h
  rw [Nd.d_eq]
  refine ac_enter mixed Try.func51 rfl Try.ntmps51 (by simp only [go_sem]) fun hbd => ?_
  simp only [List.length_cons, List.length_nil, Nat.reduceAdd, Nat.reduceSub, List.replicate_succ, List.replicate_zero, List.cons_append, List.nil_append]
  by_cases k2 : e.kind = 2
  · have c2 := beq_t k2
    rw [if_pos k2, own_of_kind] at h
    simp only [go_sem, c2, Try.results51]
    refine ac' ((hr.app _).den e.name hok.nm _ _ ?_)
    simp only [mnD, Vr.cs, List.cons_append, List.nil_append, go_sem, Try.results51]
    have em : ∀ m : Mn, D.agg [iD m.kind, iD m.num, .str m.vr.name, iD m.vr.w, iD m.vr.len, iD m.vr.init, .bool m.vr.ghost, iD m.vr.mod, iD m.vr.pos] = mnD m := fun m => rfl
    rw [em]
    refine ac' (decl_ac _ _ _ _ ?_)
    simp only [mnD, Vr.cs, List.cons_append, List.nil_append, go_sem, Try.results51]
    refine ⟨fun c => ?_, fun c => ?_⟩
    · rw [if_pos c] at h
      exact ret_d hbd h
    · rw [if_neg (by rw [c]; exact Bool.false_ne_true)] at h
      exact ret_d hbd h
  have c2 := beq_f k2
  rw [if_neg k2] at h
  by_cases k34 : e.kind = 3 ∨ e.kind = 4
  · rw [if_pos k34] at h
    rcases k34 with k3 | k4
    · have c3 := beq_t k3
      simp only [go_sem, c2, c3, Try.results51]
      rw [← Nd.d_eq]
      refine ac' (kid_ac e 0 (by omega) hok.len _ _ _ ?_)
      simp only [go_sem, Try.results51]
      refine ac' (ih 0 (hok.kid 0) _ (hr.app _) _ _ ?_)
      simp only [go_sem, Try.results51]
      exact ret_d hbd h
    · have c3 : (e.kind == 3) = false := beq_f (by omega)
      have c4 := beq_t k4
      simp only [go_sem, c2, c3, c4, Try.results51]
      rw [← Nd.d_eq]
      refine ac' (kid_ac e 0 (by omega) hok.len _ _ _ ?_)
      simp only [go_sem, Try.results51]
      refine ac' (ih 0 (hok.kid 0) _ (hr.app _) _ _ ?_)
      simp only [go_sem, Try.results51]
      exact ret_d hbd h
  have c3 : (e.kind == 3) = false := beq_f (by omega)
  have c4 : (e.kind == 4) = false := beq_f (by omega)
  rw [if_neg k34] at h
  by_cases k5 : e.kind = 5
  · have c5 := beq_t k5
    rw [if_pos k5] at h
    simp only [go_sem, c2, c3, c4, c5, Try.results51]
    refine ac' (op_ac e.name _ _ _ ?_)
    by_cases o3 : opM e.name = 3
    · have d3 := beq_t o3
      rw [if_pos o3] at h
      simp only [go_sem, d3, Try.results51]
      rw [← Nd.d_eq]
      refine ac' (ownOf_ac hok 0 1 (by omega) (by omega) (ih 0 (hok.kid 0)) (ih 1 (hok.kid 1)) _ (hr.app _) _ _ ?_)
      simp only [go_sem, Try.results51]
      exact ret_d hbd h
    · have d3 := beq_f o3
      rw [if_neg o3] at h
      by_cases o0 : opM e.name = 0
      · have d0 := beq_t o0
        rw [if_pos o0] at h
        simp only [go_sem, d3, d0, Try.results51]
        exact ret_d hbd h
      · have d0 := beq_f o0
        rw [if_neg o0] at h
        simp only [go_sem, d3, d0, Try.results51]
        exact ret_d hbd h
  have c5 := beq_f k5
  rw [if_neg k5] at h
  by_cases k6 : e.kind = 6
  · have c6 := beq_t k6
    rw [if_pos k6] at h
    simp only [go_sem, c2, c3, c4, c5, c6, Try.results51]
    rw [← Nd.d_eq]
    refine ac' (ownOf_ac hok 1 2 (by omega) (by omega) (ih 1 (hok.kid 1)) (ih 2 (hok.kid 2)) _ (hr.app _) _ _ ?_)
    simp only [go_sem, Try.results51]
    exact ret_d hbd h
  have c6 := beq_f k6
  rw [if_neg k6] at h
  by_cases k7 : e.kind = 7
  · have c7 := beq_t k7
    rw [if_pos (.inl k7)] at h
    simp only [go_sem, c2, c3, c4, c5, c6, c7, Try.results51]
    exact ret_d hbd h
  have c7 := beq_f k7
  by_cases k8 : e.kind = 8
  · have c8 := beq_t k8
    rw [if_pos (.inr k8)] at h
    simp only [go_sem, c2, c3, c4, c5, c6, c7, c8, Try.results51]
    exact ret_d hbd h
  have c8 := beq_f k8
  rw [if_neg (by omega)] at h
  simp only [go_sem, c2, c3, c4, c5, c6, c7, c8, Try.results51]
  exact ret_d hbd h
end Go.Proofs.Ytfoblkeefpaceaa
end PartK2

section PartK3
/- The checker: least widths; the width of an expression. -/
set_option linter.unusedSimpArgs false
set_option linter.unusedVariables false
set_option maxRecDepth 100000
namespace Go.Proofs.Ytfoblkeefpaceaa
open Go Go.Ab

theorem least_of_kind {X : Kx} {B : Bnd} {s : Str} : (den X.L B s).least = if ((den X.L B s).kind == 4) = true then bitsM (topM (den X.L B s).num) else 1 := by
  cases h : den X.L B s with
  | none => rfl
  | bound n => rfl
  | var k v =>
    rcases den_kind h with rfl | rfl | rfl <;> rfl
theorem den_num {L : Str → Option (Int × Vr)} {B : Bnd} (hN : ∀ b ∈ B, I64 b.2) (s : Str) : I64 (den L B s).num := by
  have h0 : I64 0 := by unfold I64; omega
  unfold den
  cases h : B.reverse.find? (fun b => b.1 == s) with
  | some b =>
    have := List.mem_of_find?_eq_some h
    exact hN b (by simpa using this)
  | none =>
    cases L s with
    | none => exact h0
    | some q => exact h0
theorem top_i64 {n : Int} (h : I64 n) : I64 (topM n) := by unfold I64 topM at *; split <;> omega
/-- A kid's least width. -/
def LeastAt (X : Kx) (B : Bnd) (ib : Nat) (e : Nd) : Prop := ∀ (σ : St), Rdy X B ib σ → ∀ (G : Glob) (R : A → St → Prop), R (di (leastM (den X.L B) e)) σ → AC Try.prog G 52 [.ref X.ic 0, .d e.d] σ R
theorem leastOf_ac {X : Kx} {B : Bnd} {ib : Nat} {e : Nd} (hok : e.Ok) (i j : Nat) (hi : i < 1000) (hj : j < 1000) (h1 : LeastAt X B ib (e.kid i)) (h2 : LeastAt X B ib (e.kid j)) (σ : St) (hr : Rdy X B ib σ) (G : Glob) (R : A → St → Prop) (h : R (di (max (leastM (den X.L B) (e.kid i)) (leastM (den X.L B) (e.kid j)))) σ) :
    AC Try.prog G 70 [.ref X.ic 0, .d e.d, dn i, dn j] σ R := by
  rw [Nd.d_eq]
  refine ac_enter' mixed Try.func70 rfl Try.ntmps70 (by simp only [go_sem]) fun hbd => ?_
  simp only [List.length_cons, List.length_nil, Nat.reduceAdd, Nat.reduceSub, List.replicate_succ, List.replicate_zero, List.cons_append, List.nil_append]
  simp only [go_sem, Try.results70]
  refine aw_plan (.tk 3 0 <| .take 5 <| .take 7 <| .pure 3 <| .alt 4 (.take 6 <| .pure 8 <| .tk 3 9 <| .done) <| .alt 6 (.take 4 <| .pure 8 <| .tk 3 9 <| .done) <| .stop) (by kernel_rfl) ?_
  simp only [go_sem, Try.results70]
  rw [← Nd.d_eq e]
  refine exP (.d (e.kid i).d) ⟨fun σ' => ?_, ?_⟩
  · simp only [go_sem, Try.results70]
    exact ac' (kid_ac e i (by omega) hok.len _ _ _ ⟨rfl, rfl⟩)
  simp only [go_sem, Try.results70]
  with_reducible apply And.intro
  all_goals
    refine ac' (h1 _ (hr.app _) _ _ ?_)
    simp only [go_sem, Try.results70]
    rw [← Nd.d_eq e]
    refine exP (.d (e.kid j).d) ⟨fun σ' => ?_, ?_⟩
    · simp only [go_sem, Try.results70]
      exact ac' (kid_ac e j (by omega) hok.len _ _ _ ⟨rfl, rfl⟩)
    simp only [go_sem, Try.results70]
    refine ac' (h2 _ (hr.app _) _ _ ?_)
    simp only [go_sem, Try.results70]
    exact ret_d hbd h
set_option maxHeartbeats 8000000 in
theorem least_ac (X : Kx) (B : Bnd) (ib : Nat) : ∀ e : Nd, e.Ok → LeastAt X B ib e := by
  refine Nd.ind (fun _ σ hr G R h => ?_) fun e ih _ hok σ hr G R h => ?_
  · rw [least_none] at h
    rw [Nd.d_eq]
    refine ac_enter mixed Try.func52 rfl Try.ntmps52 (by simp only [go_sem]) fun hbd => ?_
    simp only [List.length_cons, List.length_nil, Nat.reduceAdd, Nat.reduceSub, List.replicate_succ, List.replicate_zero, List.cons_append, List.nil_append]
    have c1 : (Nd.none.kind == 1) = false := rfl
    have c2 : (Nd.none.kind == 2) = false := rfl
    have c3 : (Nd.none.kind == 3) = false := rfl
    have c4 : (Nd.none.kind == 4) = false := rfl
    have c5 : (Nd.none.kind == 5) = false := rfl
    have c6 : (Nd.none.kind == 6) = false := rfl
    simp only [go_sem, c1, c2, c3, c4, c5, c6, Try.results52]
    exact ret_d hbd h
  rw [least_eq] at h
  rw [Nd.d_eq]
  refine ac_enter mixed Try.func52 rfl Try.ntmps52 (by simp only [go_sem]) fun hbd => ?_
  simp only [List.length_cons, List.length_nil, Nat.reduceAdd, Nat.reduceSub, List.replicate_succ, List.replicate_zero, List.cons_append, List.nil_append]
  by_cases k1 : e.kind = 1
  · have c1 := beq_t k1
    rw [if_pos k1] at h
    simp only [go_sem, c1, Try.results52]
    refine ac' (bits_ac e.n hok.num _ _ _ ?_)
    simp only [go_sem, Try.results52]
    exact ret_d hbd h
  have c1 := beq_f k1
  rw [if_neg k1] at h
  by_cases k2 : e.kind = 2
  · have c2 := beq_t k2
    rw [if_pos k2, least_of_kind] at h
    have hnum := den_num (L := X.L) hr.hN e.name
    simp only [go_sem, c1, c2, Try.results52]
    refine ac' ((hr.app _).den e.name hok.nm _ _ ?_)
    simp only [mnD, Vr.cs, List.cons_append, List.nil_append, go_sem, Try.results52]
    refine ⟨fun c => ?_, fun c => ?_⟩
    · rw [if_pos c] at h
      have em : ∀ m : Mn, D.agg [iD m.kind, iD m.num, .str m.vr.name, iD m.vr.w, iD m.vr.len, iD m.vr.init, .bool m.vr.ghost, iD m.vr.mod, iD m.vr.pos] = mnD m := fun m => rfl
      rw [em]
      refine ac' (top_ac _ hnum _ _ _ ?_)
      simp only [go_sem, Try.results52]
      refine ac' (bits_ac _ (top_i64 hnum) _ _ _ ?_)
      simp only [go_sem, Try.results52]
      exact ret_d hbd h
    · rw [if_neg (by rw [c]; exact Bool.false_ne_true)] at h
      exact ret_d hbd h
  have c2 := beq_f k2
  rw [if_neg k2] at h
  by_cases k34 : e.kind = 3 ∨ e.kind = 4
  · rw [if_pos k34] at h
    rcases k34 with k3 | k4
    · have c3 := beq_t k3
      simp only [go_sem, c1, c2, c3, Try.results52]
      rw [← Nd.d_eq]
      refine ac' (kid_ac e 0 (by omega) hok.len _ _ _ ?_)
      simp only [go_sem, Try.results52]
      refine ac' (ih 0 (hok.kid 0) _ (hr.app _) _ _ ?_)
      simp only [go_sem, Try.results52]
      exact ret_d hbd h
    · have c3 : (e.kind == 3) = false := beq_f (by omega)
      have c4 := beq_t k4
      simp only [go_sem, c1, c2, c3, c4, Try.results52]
      rw [← Nd.d_eq]
      refine ac' (kid_ac e 0 (by omega) hok.len _ _ _ ?_)
      simp only [go_sem, Try.results52]
      refine ac' (ih 0 (hok.kid 0) _ (hr.app _) _ _ ?_)
      simp only [go_sem, Try.results52]
      exact ret_d hbd h
  have c3 : (e.kind == 3) = false := beq_f (by omega)
  have c4 : (e.kind == 4) = false := beq_f (by omega)
  rw [if_neg k34] at h
  by_cases k5 : e.kind = 5
  · have c5 := beq_t k5
    rw [if_pos k5] at h
    simp only [go_sem, c1, c2, c3, c4, c5, Try.results52]
    refine ac' (op_ac e.name _ _ _ ?_)
    by_cases o3 : opM e.name = 3
    · have d3 := beq_t o3
      rw [if_pos o3] at h
      simp only [go_sem, d3, Try.results52]
      rw [← Nd.d_eq]
      refine ac' (leastOf_ac hok 0 1 (by omega) (by omega) (ih 0 (hok.kid 0)) (ih 1 (hok.kid 1)) _ (hr.app _) _ _ ?_)
      simp only [go_sem, Try.results52]
      exact ret_d hbd h
    · have d3 := beq_f o3
      rw [if_neg o3] at h
      simp only [go_sem, d3, Try.results52]
      exact ret_d hbd h
  have c5 := beq_f k5
  rw [if_neg k5] at h
  by_cases k6 : e.kind = 6
  · have c6 := beq_t k6
    rw [if_pos k6] at h
    simp only [go_sem, c1, c2, c3, c4, c5, c6, Try.results52]
    rw [← Nd.d_eq]
    refine ac' (leastOf_ac hok 1 2 (by omega) (by omega) (ih 1 (hok.kid 1)) (ih 2 (hok.kid 2)) _ (hr.app _) _ _ ?_)
    simp only [go_sem, Try.results52]
    exact ret_d hbd h
  have c6 := beq_f k6
  rw [if_neg k6] at h
  simp only [go_sem, c1, c2, c3, c4, c5, c6, Try.results52]
  exact ret_d hbd h
theorem width_ac {X : Kx} {B : Bnd} {ib : Nat} {e : Nd} (hok : e.Ok) (w : Int) (σ : St) (hr : Rdy X B ib σ) (G : Glob) (R : A → St → Prop) (h : R (di (widthM (den X.L B) e w)) σ) : AC Try.prog G 35 [.ref X.ic 0, .d e.d, di w] σ R := by
  rw [Nd.d_eq]
  refine ac_enter mixed Try.func35 rfl Try.ntmps35 (by simp only [go_sem]) fun hbd => ?_
  simp only [List.length_cons, List.length_nil, Nat.reduceAdd, Nat.reduceSub, List.replicate_succ, List.replicate_zero, List.cons_append, List.nil_append]
  unfold widthM at h
  by_cases hw : w = 0
  · have b : (w != 0) = false := by simpa using hw
    rw [if_neg (by omega)] at h
    simp only [go_sem, b, Try.results35]
    rw [← Nd.d_eq]
    refine ac' (own_ac X B ib e hok _ (hr.app _) _ _ ?_)
    by_cases hz : ownM (den X.L B) e = 0
    · have b : (ownM (den X.L B) e != 0) = false := by simpa using hz
      rw [if_neg (by omega)] at h
      simp only [go_sem, b, Try.results35]
      rw [← Nd.d_eq]
      refine ac' (least_ac X B ib e hok _ (hr.app _) _ _ ?_)
      simp only [go_sem, Try.results35]
      exact ret_d hbd h
    · have b : (ownM (den X.L B) e != 0) = true := by simpa using hz
      rw [if_pos hz] at h
      simp only [go_sem, b, Try.results35]
      exact ret_d hbd h
  · have b : (w != 0) = true := by simpa using hw
    rw [if_pos hw] at h
    simp only [go_sem, b, Try.results35]
    exact ret_d hbd h
end Go.Proofs.Ytfoblkeefpaceaa
end PartK3

section PartK4
/- The checker: reports, and the panic that ends a check. -/
set_option linter.unusedSimpArgs false
set_option linter.unusedVariables false
set_option maxRecDepth 100000
namespace Go.Proofs.Ytfoblkeefpaceaa
open Go Go.Ab

theorem set_same {σ : St} {i : Nat} {x y : Option Ob} (h : σ[i]? = some x) : (σ.set i y)[i]? = some y := by
  rw [List.getElem?_set, if_pos rfl, if_pos (lt_of_some h)]
theorem set_other {σ : St} {i j : Nat} {y : Option Ob} (h : i ≠ j) : (σ.set i y)[j]? = σ[j]? := by
  rw [List.getElem?_set, if_neg h]
/-- All but some objects are as they were. -/
def Keeps (X : List Nat) (σ σ' : St) : Prop := σ.length ≤ σ'.length ∧ ∀ id, id < σ.length → id ∉ X → σ'[id]? = σ[id]?
theorem Keeps.refl (X : List Nat) (σ : St) : Keeps X σ σ := ⟨Nat.le_refl _, fun _ _ _ => rfl⟩
theorem Keeps.app (X : List Nat) (σ l : St) : Keeps X σ (σ ++ l) := ⟨by simp, fun id h _ => List.getElem?_append_left h⟩
theorem Keeps.trans {X : List Nat} {σ σ' σ'' : St} (h : Keeps X σ σ') (k : Keeps X σ' σ'') : Keeps X σ σ'' :=
  ⟨Nat.le_trans h.1 k.1, fun id hid hn => by rw [k.2 id (Nat.lt_of_lt_of_le hid h.1) hn, h.2 id hid hn]⟩
/-- Reports as they lie. -/
def dcs (l : List Dg) : List A := l.flatMap fun d => [di d.err, di d.pos]
theorem dcs_len (l : List Dg) : (dcs l).length = l.length * 2 := by
  induction l with
  | nil => rfl
  | cons b r ih => simp only [dcs, List.flatMap_cons, List.length_append, List.length_cons, List.length_nil] at ih ⊢; omega
theorem dcs_app (l r : List Dg) : dcs (l ++ r) = dcs l ++ dcs r := by simp [dcs]
abbrev fullA : A := .ifc 102 (.d (.agg []))
/-- The checker in a store, with its reports; W: all reports of the whole check; σ0: the store at its beginning. -/
structure Ck (X : Kx) (G : Glob) (W : List Dg) (σ0 : St) (B : Bnd) (ds : List Dg) (ib il : Nat) (σ : St) : Prop where
  rd : Rdy X B ib σ
  g : σ[X.ig]? = some (some (.cells [.rs il 2 0 ds.length (some 75)]))
  l : σ[il]? = some (some (.cells (dcs ds)))
  lt : ds.length < 20
  ncg : X.ic ≠ X.ig
  nbc : ib ≠ X.ic
  nbg : ib ≠ X.ig
  nlc : il ≠ X.ic
  nlg : il ≠ X.ig
  nbl : ib ≠ il
  lowb : σ0.length ≤ ib
  lowl : σ0.length ≤ il
  keep : Keeps [X.ic, X.ig] σ0 σ
  pan : 20 ≤ W.length → ∀ s il', Keeps [X.ic, X.ig] σ0 s → s[X.ig]? = some (some (.cells [.rs il' 2 0 20 (some 75)])) → s[il']? = some (some (.cells (dcs (W.take 20)))) → σ0.length ≤ il' → G.pan fullA s
/-- A step of a check: bound variables and reports lie where they lay, or behind what was there. -/
structure Stq (X : Kx) (ib il : Nat) (σ : St) (ib' il' : Nat) (σ' : St) : Prop where
  atb : ib' = ib ∨ σ.length ≤ ib'
  atl : il' = il ∨ σ.length ≤ il'
  keep : Keeps [X.ic, X.ig, ib, il] σ σ'
theorem Stq.refl (X : Kx) (ib il : Nat) (σ : St) : Stq X ib il σ ib il σ := ⟨.inl rfl, .inl rfl, Keeps.refl _ _⟩
theorem Stq.trans {X : Kx} {ib il ib' il' ib'' il'' : Nat} {σ σ' σ'' : St} (h : Stq X ib il σ ib' il' σ') (k : Stq X ib' il' σ' ib'' il'' σ'') : Stq X ib il σ ib'' il'' σ'' := by
  have hl := h.keep.1
  refine ⟨?_, ?_, Nat.le_trans h.keep.1 k.keep.1, fun id hid hn => ?_⟩
  · rcases k.atb with e | e
    · rw [e]; exact h.atb
    · exact .inr (by omega)
  · rcases k.atl with e | e
    · rw [e]; exact h.atl
    · exact .inr (by omega)
  · simp only [List.mem_cons, List.not_mem_nil, or_false, not_or] at hn
    rw [k.keep.2 id (by omega) (by
      simp only [List.mem_cons, List.not_mem_nil, or_false, not_or]
      refine ⟨hn.1, hn.2.1, ?_, ?_⟩
      · rcases h.atb with e | e
        · rw [e]; exact hn.2.2.1
        · omega
      · rcases h.atl with e | e
        · rw [e]; exact hn.2.2.2
        · omega), h.keep.2 id hid (by simp only [List.mem_cons, List.not_mem_nil, or_false, not_or]; exact hn)]
theorem Stq.app {X : Kx} {ib il ib' il' : Nat} {σ l σ' : St} (h : Stq X ib il (σ ++ l) ib' il' σ') : Stq X ib il σ ib' il' σ' := by
  have hl := h.keep.1
  simp only [List.length_append] at hl
  refine ⟨?_, ?_, by omega, fun id hid hn => by rw [h.keep.2 id (by simp; omega) hn, List.getElem?_append_left hid]⟩
  · rcases h.atb with e | e
    · exact .inl e
    · exact .inr (by simp at e; omega)
  · rcases h.atl with e | e
    · exact .inl e
    · exact .inr (by simp at e; omega)
/-- A local object stays. -/
theorem Stq.at_ {X : Kx} {ib il ib' il' : Nat} {σ σ' : St} (h : Stq X ib il σ ib' il' σ') {i : Nat} (hi : i < σ.length) (h1 : i ≠ X.ic) (h2 : i ≠ X.ig) (h3 : i ≠ ib) (h4 : i ≠ il) : σ'[i]? = σ[i]? ∧ i ≠ ib' ∧ i ≠ il' := by
  refine ⟨h.keep.2 i hi (by simp only [List.mem_cons, List.not_mem_nil, or_false, not_or]; exact ⟨h1, h2, h3, h4⟩), ?_, ?_⟩
  · rcases h.atb with e | e
    · rw [e]; exact h3
    · omega
  · rcases h.atl with e | e
    · rw [e]; exact h4
    · omega
section
variable {X : Kx} {G : Glob} {W : List Dg} {σ0 : St} {B : Bnd} {ds : List Dg} {ib il : Nat} {σ : St}
theorem Ck.app (h : Ck X G W σ0 B ds ib il σ) (l : St) : Ck X G W σ0 B ds ib il (σ ++ l) :=
  ⟨h.rd.app l, by rw [List.getElem?_append_left (lt_of_some h.g)]; exact h.g, by rw [List.getElem?_append_left (lt_of_some h.l)]; exact h.l, h.lt, h.ncg, h.nbc, h.nbg, h.nlc, h.nlg, h.nbl, h.lowb, h.lowl, h.keep.trans (Keeps.app _ _ _), h.pan⟩
/-- The reports' closure. -/
theorem report_ac (hC : Ck X G W σ0 B ds ib il σ) (err pos : Int) (hW : ds ++ [⟨err, pos⟩] <+: W) (R : A → St → Prop)
    (h : ∀ r il' σ', Ck X G W σ0 B (ds ++ [⟨err, pos⟩]) ib il' σ' → Stq X ib il σ ib il' σ' → R r σ') : AC Try.prog G 50 [di err, di pos, .ref X.ig 0] σ R := by
  obtain ⟨hrd, hg, hl, hlt, ncg, nbc, nbg, nlc, nlg, nbl, lowb, lowl, keep, pan⟩ := hC
  have hlg := lt_of_some hg
  have hll := lt_of_some hl
  have hdl := dcs_len ds
  have h3 : (σ.set il none)[X.ig]? = some (some (.cells [.rs il 2 0 ds.length (some 75)])) := by rw [set_other nlg]; exact hg
  have hlg2 : X.ig < (σ.set il none).length := by rw [List.length_set]; exact hlg
  obtain ⟨τ, hτ⟩ : ∃ τ, τ = (σ.set il none).set X.ig (some (.cells [.rs (σ.length + 1) 2 0 (ds.length + 1) (some 75)])) := ⟨_, rfl⟩
  have hτl : τ.length = σ.length := by rw [hτ]; simp
  have ht : τ[X.ig]? = some (some (.cells [.rs (σ.length + 1) 2 0 (ds.length + 1) (some 75)])) := by rw [hτ]; exact set_same h3
  have hot : ∀ id, id ≠ X.ig → id ≠ il → τ[id]? = σ[id]? := fun id h4 h5 => by rw [hτ, set_other (Ne.symm h4), set_other (Ne.symm h5)]
  obtain ⟨nw, hnw⟩ : ∃ nw : St, nw = [some (.cells [di err, di pos]), some (.cells (dcs ds ++ [di err, di pos]))] := ⟨_, rfl⟩
  have hd2 : dcs (ds ++ [⟨err, pos⟩]) = dcs ds ++ [di err, di pos] := by rw [dcs_app]; rfl
  have htb : (τ ++ nw)[σ.length + 1]? = some (some (.cells (dcs (ds ++ [⟨err, pos⟩])))) := by
    rw [hd2, hnw, List.getElem?_append_right (by omega), hτl, Nat.add_sub_cancel_left]; rfl
  have htg : (τ ++ nw)[X.ig]? = some (some (.cells [.rs (σ.length + 1) 2 0 (ds.length + 1) (some 75)])) := by rw [List.getElem?_append_left (by omega)]; exact ht
  have hto : ∀ id, id < σ.length → id ≠ X.ig → id ≠ il → (τ ++ nw)[id]? = σ[id]? := fun id h3 h4 h5 => by rw [List.getElem?_append_left (by omega), hot id h4 h5]
  have hkeep : Keeps [X.ic, X.ig] σ0 (τ ++ nw) := by
    refine ⟨by have := keep.1; simp; omega, fun id hid hn => ?_⟩
    have := keep.1
    simp only [List.mem_cons, List.not_mem_nil, or_false, not_or] at hn
    rw [hto id (by omega) hn.2 (by omega), keep.2 id hid (by simp only [List.mem_cons, List.not_mem_nil, or_false, not_or]; exact hn)]
  refine ac_enter mixed Try.func50 rfl Try.ntmps50 (by simp only [go_sem]) fun hbd => ?_
  simp only [List.length_cons, List.length_nil, Nat.reduceAdd, Nat.reduceSub, List.replicate_succ, List.replicate_zero, List.cons_append, List.nil_append]
  simp only [go_sem, live_of hg, objK_of hg, live_of hl, objK_of hl, live_old hg, objK_old hg, live_old hl, objK_old hl, live_old h3, objK_old h3, set_old hlg, set_old hll, set_old hlg2, List.length_set, Try.results50]
  refine ⟨⟨hdl, by simp only [maxLen]; omega, by omega⟩, live_of (o := .cells (dcs ds ++ [di err, di pos])) (by rw [List.getElem?_append_right (by simp), List.length_set, Nat.add_sub_cancel_left]; rfl), ?_⟩
  rw [← hτ, ← hnw]
  have hck : ds.length + 1 < 20 → Ck X G W σ0 B (ds ++ [⟨err, pos⟩]) ib (σ.length + 1) (τ ++ nw) := fun hlt2 => by
    refine ⟨⟨hrd.ok, hrd.us, hrd.pl, ?_, ?_, hrd.hB, hrd.hN⟩, by rw [htg]; simp, htb, by simpa using hlt2, ncg, nbc, nbg, ?_, ?_, ?_, lowb, by have := keep.1; omega, hkeep, pan⟩
    · rw [hto _ (lt_of_some hrd.c) ncg nlc.symm]; exact hrd.c
    · rw [hto _ (lt_of_some hrd.b) nbg nbl]; exact hrd.b
    · have := lt_of_some hrd.c; omega
    · omega
    · have := lt_of_some hrd.b; omega
  have hst : Stq X ib il σ ib (σ.length + 1) (τ ++ nw) := by
    refine ⟨.inl rfl, .inr (by omega), by simp; omega, fun id hid hn => ?_⟩
    simp only [List.mem_cons, List.not_mem_nil, or_false, not_or] at hn
    exact hto id hid hn.2.1 hn.2.2.2
  by_cases h20 : ds.length + 1 < 20
  · have hd : decide ((20 : Int) ≤ ((ds.length + 1 : Nat) : Int)) = false := by simp; omega
    simp only [go_sem, live_of htg, objK_of htg, live_of htb, objK_of htb, hd, Try.results50]
    exact ⟨_, _, Weak.refl _ _ _ _, h _ _ _ (hck h20) hst⟩
  · have hd : decide ((20 : Int) ≤ ((ds.length + 1 : Nat) : Int)) = true := by simp; omega
    have h19 : ds.length = 19 := by omega
    simp only [go_sem, live_of htg, objK_of htg, live_of htb, objK_of htb, hd, Try.results50]
    refine ⟨⟨_, _, rfl⟩, pan (by have := hW.length_le; simp at this; omega) _ (σ.length + 1) hkeep (by rw [htg, h19]) ?_ (by have := keep.1; omega)⟩
    rw [htb]
    have : W.take 20 = ds ++ [⟨err, pos⟩] := by
      obtain ⟨r, rfl⟩ := hW
      rw [List.take_append_of_le_length (by simp; omega), List.take_of_length_le (by simp; omega)]
    rw [this]
end
end Go.Proofs.Ytfoblkeefpaceaa
end PartK4
