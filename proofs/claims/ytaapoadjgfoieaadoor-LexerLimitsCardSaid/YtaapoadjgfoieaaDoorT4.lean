/- What the reference lexer's functions answer. -/
import Derived.Test.YtaapoadjgfoieaaDoorT3
set_option linter.unusedSimpArgs false
set_option maxRecDepth 100000
namespace Go.Proofs.YtaapoadjgfoieaaDoor
open Go Go.Ab
abbrev dc (c : UInt8) : A := .d (.int .u8 c.toNat)
theorem rletter_ac (c : UInt8) (σ : St) (G : Glob) (R : A → St → Prop) (h : R (db (letterB c)) σ) : AC Tryd.prog G 34 [dc c] σ R := by
  refine ac_enter mixed Tryd.func34 rfl Tryd.ntmps34 (by simp only [facts]) fun hbd => ?_
  simp only [List.length_cons, List.length_nil, Nat.reduceAdd, Nat.reduceSub, List.replicate_succ, List.replicate_zero, List.cons_append, List.nil_append]
  simp only [go_sem, Tryd.results34, facts]
  rw [letterB, Bool.or_comm] at h
  exact ⟨fun hn => ⟨hn, fun h2 => by rw [hn, h2]; rfl⟩, ret_d0 h⟩
theorem rdigit_ac (c : UInt8) (σ : St) (G : Glob) (R : A → St → Prop) (h : R (db (digitB c)) σ) : AC Tryd.prog G 36 [dc c] σ R := by
  refine ac_enter mixed Tryd.func36 rfl Tryd.ntmps36 (by simp only [facts]) fun hbd => ?_
  simp only [List.length_cons, List.length_nil, Nat.reduceAdd, Nat.reduceSub, List.replicate_succ, List.replicate_zero, List.cons_append, List.nil_append]
  simp only [go_sem, Tryd.results36, facts]
  exact ret_d0 h
theorem rwhite_ac (c : UInt8) (σ : St) (G : Glob) (R : A → St → Prop) (h : R (db (whiteB c)) σ) : AC Tryd.prog G 24 [dc c] σ R := by
  refine ac_enter mixed Tryd.func24 rfl Tryd.ntmps24 (by simp only [facts]) fun hbd => ?_
  simp only [List.length_cons, List.length_nil, Nat.reduceAdd, Nat.reduceSub, List.replicate_succ, List.replicate_zero, List.cons_append, List.nil_append]
  simp only [go_sem, Tryd.results24, facts]
  exact ret_d0 h
theorem begins_ac (s x : List UInt8) (hs : s.length ≤ 1073741824) (hx : x.length ≤ 1073741824) (n : Nat) (h1 : n ≤ s.length) (σ : St) (G : Glob) (R : A → St → Prop) (h : R (db (pre x (s.drop n))) σ) : AC Tryd.prog G 33 [.d (.str s), dn n, .d (.str x)] σ R := by
  refine ac_enter mixed Tryd.func33 rfl Tryd.ntmps33 (by simp only [facts]) fun hbd => ?_
  simp only [List.length_cons, List.length_nil, Nat.reduceAdd, Nat.reduceSub, List.replicate_succ, List.replicate_zero, List.cons_append, List.nil_append]
  have w1 : IntKind.i64.wrap ((n : Int) + (x.length : Int)) = ((n + x.length : Nat) : Int) := by rw [wrap64_id _ (by omega) (by omega)]; rfl
  simp only [go_sem, Tryd.results33, facts, w1]
  rw [begins_eq h1]
  exact ⟨fun hc => ⟨hc, by omega, by omega, by simp at hc; omega⟩, ret_d0 h⟩
theorem skip_ac (s : List UInt8) (hs : s.length ≤ 1073741824) (n : Nat) (h1 : n ≤ s.length) (σ : St) (G : Glob) (R : A → St → Prop) (h : R (dn (n + sk false (s.drop n))) σ) :
    AC Tryd.prog G 22 [.d (.str s), dn n] σ R := by
  refine ac_enter mixed Tryd.func22 rfl Tryd.ntmps22 (by simp only [facts]) fun hbd => ?_
  simp only [List.length_cons, List.length_nil, Nat.reduceAdd, Nat.reduceSub, List.replicate_succ, List.replicate_zero, List.cons_append, List.nil_append]
  simp only [go_sem, facts]
  refine aw_loop (fun m fr st => ∃ j : Nat, j ≤ s.length ∧ m = s.length - j ∧ j + sk false (s.drop j) = n + sk false (s.drop n) ∧
    fr = [.d (.str s), dn j, .any, .any, .any, .any, .any, .any, .any, .any, .any, .any, .any, .any, .any, .any, .any, .any, .any, .any, .any, .any, .any, .any, .any, .any, .any, .any, .any, .any, .any, .any] ∧ st = σ) (s.length - n) _
    (Wk.mask [0, 1] ⟨n, h1, rfl, rfl, rfl, rfl⟩) ?_
  rintro m fr σ ⟨j, hj, hm, hr, rfl, rfl⟩
  have w1 : j < s.length → IntKind.i64.wrap ((j : Int) + 1) = ((j + 1 : Nat) : Int) := fun h => by rw [wrap64_id _ (by omega) (by omega)]; rfl
  simp only [go_sem, facts, Tryd.results22]
  refine ⟨fun hc => ac' (begins_ac s [47, 47] hs (by decide) j hj _ _ _ ?_), fun hc => ret_d0 ?_⟩
  · have hlt : j < s.length := by simp at hc; omega
    have w1 := w1 hlt
    simp only [go_sem, facts, Tryd.results22]
    refine ⟨fun hp => ?_, fun hp => ⟨⟨by omega, by omega⟩, ac' (rwhite_ac _ _ _ _ ?_)⟩⟩
    · refine aw_loop (fun m1 fr st => ∃ k : Nat, j ≤ k ∧ k ≤ s.length ∧ m1 = s.length - k ∧ k + sk true (s.drop k) = n + sk false (s.drop n) ∧
        fr = [.d (.str s), dn k, .any, .any, .any, .any, .any, .any, .any, .any, .any, .any, .any, .any, .any, .any, .any, .any, .any, .any, .any, .any, .any, .any, .any, .any, .any, .any, .any, .any, .any, .any] ∧ st = σ) (s.length - j) _
        (Wk.mask [0, 1] ⟨j, Nat.le_refl _, hj, rfl, by rw [← sk_open hp]; exact hr, rfl, rfl⟩) ?_
      rintro m1 fr σ ⟨k, hjk, hk, hm1, hrk, rfl, rfl⟩
      have w2 : k < s.length → IntKind.i64.wrap ((k : Int) + 1) = ((k + 1 : Nat) : Int) := fun h => by rw [wrap64_id _ (by omega) (by omega)]; rfl
      simp only [go_sem, facts, Tryd.results22]
      refine ⟨fun hlt1 => ⟨hlt1, by omega, by simp at hlt1; omega⟩, fun hc1 => ?_, fun hc1 => ?_⟩
      · simp only [Bool.and_eq_true, decide_eq_true_eq] at hc1
        have hk1 : k < s.length := by omega
        rw [w2 hk1]
        exact Wk.mask [0, 1] ⟨s.length - (k + 1), by omega, k + 1, by omega, by omega, rfl, by rw [← hrk, sk_in hk1 hc1.2], rfl, rfl⟩
      · have hend : k < s.length → lineB (s.getD k 0) = false := fun hk1 => by
          have : decide ((k : Int) < (s.length : Int)) = true := by simp; omega
          rw [this, Bool.true_and] at hc1
          exact hc1
        have hkj : j < k := by
          rcases Nat.lt_or_ge j k with hl | hl
          · exact hl
          · obtain rfl : j = k := by omega
            obtain ⟨t, ht⟩ := pre_slash.1 hp
            rw [drop_cons hlt] at ht
            injection ht with ht
            have := hend hlt
            rw [ht] at this
            exact absurd this (by decide)
        refine Wk.mask [0, 1] ⟨s.length - k, by omega, k, hk, rfl, ?_, rfl, rfl⟩
        rw [← hrk]
        congr 1
        refine (sk_same ?_).symm
        rcases Nat.lt_or_ge k s.length with hk1 | hk1
        · exact .inr ⟨_, _, drop_cons hk1, hend hk1⟩
        · exact .inl (List.drop_of_length_le hk1)
    · simp only [go_sem, facts, Tryd.results22, w1]
      refine ⟨fun hw => Wk.mask [0, 1] ⟨s.length - (j + 1), by omega, j + 1, by omega, rfl, by rw [← hr, sk_on hlt hw], rfl, rfl⟩, fun hw => ret_d0 ?_⟩
      rw [← hr, sk_off hlt hp hw] at h; exact h
  · have : j = s.length := by simp at hc; omega
    subst this
    rw [← hr, List.drop_length] at h; exact h
theorem name_ac (s : List UInt8) (hs : s.length ≤ 1073741824) (n : Nat) (h1 : n ≤ s.length) (σ : St) (G : Glob) (R : A → St → Prop)
    (h : R (.tup [.d (tokD ⟨1, (s.drop n).take (runL wordB (s.drop n)), n⟩), db (decide (runL wordB (s.drop n) ≤ 16))]) σ) :
    AC Tryd.prog G 35 [.d (.str s), dn n] σ R := by
  refine ac_enter mixed Tryd.func35 rfl Tryd.ntmps35 (by simp only [facts]) fun hbd => ?_
  simp only [List.length_cons, List.length_nil, Nat.reduceAdd, Nat.reduceSub, List.replicate_succ, List.replicate_zero, List.cons_append, List.nil_append]
  simp only [go_sem, facts]
  refine aw_loop (fun m fr st => ∃ j : Nat, n ≤ j ∧ j ≤ s.length ∧ m = s.length - j ∧ j + runL wordB (s.drop j) = n + runL wordB (s.drop n) ∧
    fr = [.d (.str s), dn n, .any, .any, .ref σ.length 0, .any, dn j, .any, .any, .any, .any, .any, .any, .any, .any, .any, .any, .any, .any, .any, .any, .any, .any, .any, .any, .any, .any, .any, .any, .any, .any, .any, .any, .any, .any, .any, .any, .any, .any, .any, .any, .any] ∧ st = σ ++ [some (.cells [.d (.int .i64 0), .d (.str []), .d (.int .i64 0)])]) (s.length - n) _
    (Wk.mask [0, 1, 4, 6] ⟨n, Nat.le_refl _, h1, rfl, rfl, rfl, rfl⟩) ?_
  rintro m fr st ⟨j, hnj, hj, hm, hr, rfl, rfl⟩
  have w1 : IntKind.i64.wrap ((j : Int) - (n : Int)) = ((j - n : Nat) : Int) := by rw [wrap64_id _ (by omega) (by omega)]; omega
  simp only [go_sem, facts, Tryd.results35]
  refine ⟨fun hlt => ⟨hlt, by omega, by simp at hlt; omega⟩, ex' (.bool (letterB (s.getD j 0))) ⟨fun hc => ?_, ?_⟩⟩
  · simp only [go_sem, facts]
    exact ⟨by simpa [ev, A.cond] using hc, ac' (rletter_ac _ _ _ _ ⟨rfl, rfl⟩)⟩
  simp only [go_sem, facts, Tryd.results35]
  refine ⟨fun hc => ⟨hc, by omega, by simp at hc; omega⟩, ex' (.bool (digitB (s.getD j 0))) ⟨fun hc => ?_, ?_⟩⟩
  · simp only [go_sem, facts]
    exact ⟨by simpa [ev, A.cond] using hc, ac' (rdigit_ac _ _ _ _ ⟨rfl, rfl⟩)⟩
  simp only [go_sem, facts, Tryd.results35]
  refine ⟨fun h => ⟨h, fun h2 => by rw [h, h2]; rfl⟩, fun hc => ⟨hc, by omega, by simp at hc; omega⟩, fun h => ⟨h, fun h2 => by rw [h, h2]; rfl⟩, fun hc => ?_, fun hc => ⟨⟨by omega, by omega, by omega⟩, ret_bd hbd rfl ?_⟩⟩
  · have hc : decide ((j : Int) < (s.length : Int)) = true ∧ wordB (s.getD j 0) = true := by rw [Bool.and_eq_true] at hc; exact hc
    have hlt : j < s.length := by have := hc.1; simp at this; omega
    rw [show IntKind.i64.wrap ((j : Int) + 1) = ((j + 1 : Nat) : Int) by rw [wrap64_id _ (by omega) (by omega)]; rfl]
    exact Wk.mask [0, 1, 4, 6] ⟨s.length - (j + 1), by omega, j + 1, by omega, by omega, rfl, by rw [← hr, run_step hlt hc.2], rfl, rfl⟩
  · have e : j + runL wordB (s.drop j) = j := run_stop fun hlt => by
      have : decide ((j : Int) < (s.length : Int)) = true := by simp; omega
      rw [this, Bool.true_and] at hc; exact hc
    have ej : runL wordB (s.drop n) = j - n := by omega
    rw [w1]
    rw [ej] at h
    have e2 : decide (((j - n : Nat) : Int) ≤ 16) = decide (j - n ≤ 16) := by simp; omega
    rw [e2, List.drop_take]
    exact h
theorem number_ac (s : List UInt8) (hs : s.length ≤ 1073741824) (n : Nat) (h1 : n < s.length) (h0 : digitB (s.getD n 0) = true) (σ : St) (G : Glob) (R : A → St → Prop)
    (h : R (.tup [.d (tokD ⟨2, (s.drop n).take (runL digitB (s.drop n)), n⟩), db (numOk (s.drop n))]) σ) :
    AC Tryd.prog G 37 [.d (.str s), dn n] σ R := by
  refine ac_enter mixed Tryd.func37 rfl Tryd.ntmps37 (by simp only [facts]) fun hbd => ?_
  simp only [List.length_cons, List.length_nil, Nat.reduceAdd, Nat.reduceSub, List.replicate_succ, List.replicate_zero, List.cons_append, List.nil_append]
  simp only [go_sem, facts]
  refine aw_loop (fun m fr st => ∃ j : Nat, n ≤ j ∧ j ≤ s.length ∧ m = s.length - j ∧ j + runL digitB (s.drop j) = n + runL digitB (s.drop n) ∧
    fr = [.d (.str s), dn n, .any, .any, .ref σ.length 0, .any, dn j, .any, .any, .any, .any, .any, .any, .any, .any, .any, .any, .any, .any, .any, .any, .any, .any, .any, .any, .any, .any, .any, .any, .any, .any, .any, .any, .any, .any, .any, .any, .any, .any, .any, .any, .any, .any, .any, .any, .any, .any, .any, .any, .any, .any, .any, .any, .any, .any, .any, .any, .any, .any, .any] ∧ st = σ ++ [some (.cells [.d (.int .i64 0), .d (.str []), .d (.int .i64 0)])]) (s.length - n) _
    (Wk.mask [0, 1, 4, 6] ⟨n, Nat.le_refl _, Nat.le_of_lt h1, rfl, rfl, rfl, rfl⟩) ?_
  rintro m fr st ⟨j, hnj, hj, hm, hr, rfl, rfl⟩
  have w1 : IntKind.i64.wrap ((j : Int) - (n : Int)) = ((j - n : Nat) : Int) := by rw [wrap64_id _ (by omega) (by omega)]; omega
  have w2 : IntKind.i64.wrap ((n : Int) + 1) = ((n + 1 : Nat) : Int) := by rw [wrap64_id _ (by omega) (by omega)]; omega
  simp only [go_sem, facts, Tryd.results37]
  refine ⟨fun hlt => ⟨hlt, by omega, by simp at hlt; omega⟩, ex' (.bool (digitB (s.getD j 0))) ⟨fun hc => ?_, ?_⟩⟩
  · simp only [go_sem, facts]
    exact ⟨by simpa [ev, A.cond] using hc, ac' (rdigit_ac _ _ _ _ ⟨rfl, rfl⟩)⟩
  simp only [go_sem, facts, Tryd.results37, w1, w2]
  refine ⟨fun hc => ?_, fun hc => ?_⟩
  · rw [Bool.and_eq_true] at hc
    have hlt : j < s.length := by have := hc.1; simp at this; omega
    rw [show IntKind.i64.wrap ((j : Int) + 1) = ((j + 1 : Nat) : Int) by rw [wrap64_id _ (by omega) (by omega)]; rfl]
    exact Wk.mask [0, 1, 4, 6] ⟨s.length - (j + 1), by omega, j + 1, by omega, by omega, rfl, by rw [← hr, run_step hlt hc.2], rfl, rfl⟩
  have e : j + runL digitB (s.drop j) = j := run_stop fun hlt => by
    have : decide ((j : Int) < (s.length : Int)) = true := by simp; omega
    rw [this, Bool.true_and] at hc; exact hc
  have ej : runL digitB (s.drop n) = j - n := by omega
  have hd : j < s.length → digitB (s.getD j 0) = false := fun hlt => by
    have : decide ((j : Int) < (s.length : Int)) = true := by simp; omega
    rw [this, Bool.true_and] at hc; exact hc
  refine ⟨fun hc => ⟨hc, by omega, by omega⟩, fun h => ⟨h, fun h2 => by rw [h, h2]; rfl⟩, fun hc => ⟨hc, by omega, by simp at hc; omega⟩, ex' (.bool (letterB (s.getD j 0))) ⟨fun hc => ?_, ?_⟩⟩
  · simp only [go_sem, facts]
    exact ⟨by simpa [ev, A.cond] using hc, ac' (rletter_ac _ _ _ _ ⟨rfl, rfl⟩)⟩
  have hpos : n < j := by have := run_pos (q := digitB) (t := s.drop (n + 1)) h0; rw [← drop_cons h1] at this; omega
  have hno := numOk_eq hpos hj ej hd
  simp only [go_sem, facts, Tryd.results37, w1]
  rw [ej, hno] at h
  refine ⟨fun hc => ⟨hc, by omega, by simp at hc; omega⟩, fun h => ⟨h, fun h2 => by rw [h, h2]; rfl⟩, fun hc => ⟨⟨by omega, by omega, by omega⟩, ret_bd hbd rfl ?_⟩, fun hc => ⟨⟨by omega, by omega, by omega⟩, ret_bd hbd rfl ?_⟩⟩
  · rw [hc, Bool.not_true, Bool.and_false] at h
    rw [List.drop_take]; exact h
  · rw [hc, Bool.not_false, Bool.and_true] at h
    rw [List.drop_take]; exact h
theorem symbols_ac (σ : St) (G : Glob) (R : A → St → Prop) (h : R (.d (.sl 1 (symsR.map .str))) σ) : AC Tryd.prog G 38 [] σ R := by
  refine ac_enter mixed Tryd.func38 rfl Tryd.ntmps38 (by simp only [facts]) fun hbd => ?_
  simp only [List.length_cons, List.length_nil, Nat.reduceAdd, Nat.reduceSub, List.replicate_succ, List.replicate_zero, List.cons_append, List.nil_append]
  simp only [go_sem, facts, Tryd.results38]
  refine ⟨by omega, ret_frz 0 1 0 (symsR.map .str) rfl (lies_of (xs := symsR.map .str) fun x hx => ?_) ?_⟩
  · simp only [List.mem_map] at hx
    obtain ⟨y, _, rfl⟩ := hx
    exact ⟨rfl, fun z hz => by simp only [D.cells, List.mem_singleton] at hz; subst hz; rfl⟩
  · simp only [go_sem, List.length_map, symsR_len, and_self]
    exact ret_bd hbd rfl h
theorem rtoken_ac (s : List UInt8) (hs : s.length ≤ 1073741824) (n : Nat) (h1 : n < s.length) (σ : St) (G : Glob) (R : A → St → Prop)
    (h : match tokL symsR (s.drop n) with | some (k, m) => R (.tup [.d (tokD ⟨k, (s.drop n).take m, n⟩), db true]) σ | none => ∀ t, R (.tup [.d (tokD t), db false]) σ) :
    AC Tryd.prog G 23 [.d (.str s), dn n] σ R := by
  refine ac_enter mixed Tryd.func23 rfl Tryd.ntmps23 (by simp only [facts]) fun hbd => ?_
  simp only [List.length_cons, List.length_nil, Nat.reduceAdd, Nat.reduceSub, List.replicate_succ, List.replicate_zero, List.cons_append, List.nil_append]
  have h0 : s.drop n = s.getD n 0 :: s.drop (n + 1) := drop_cons h1
  simp only [go_sem, facts]
  refine ⟨⟨by omega, by omega⟩, ac' (rletter_ac _ _ _ _ ?_)⟩
  simp only [go_sem, facts]
  refine ⟨fun hlet => ac' (name_ac s hs n (by omega) _ _ _ ?_), fun hlet => ⟨⟨by omega, by omega⟩, ac' (rdigit_ac _ _ _ _ ?_)⟩⟩
  · simp only [go_sem, facts, Tryd.results23, tokD]
    rw [tokL_eq h0, if_pos hlet] at h
    refine ret_bd hbd rfl ?_
    by_cases hc : runL wordB (s.drop n) ≤ 16
    · rw [if_pos hc] at h
      rw [show decide (runL wordB (s.drop n) ≤ 16) = true by simpa using hc]; exact h
    · rw [if_neg hc] at h
      rw [show decide (runL wordB (s.drop n) ≤ 16) = false by simpa using hc]; exact h ⟨1, _, n⟩
  simp only [go_sem, facts]
  refine ⟨fun hdig => ac' (number_ac s hs n h1 hdig _ _ _ ?_), fun hdig => ac' (symbols_ac _ _ _ ?_)⟩
  · simp only [go_sem, facts, Tryd.results23, tokD]
    rw [numOk_tok h0 hlet hdig] at h
    refine ret_bd hbd rfl ?_
    cases hc : numOk (s.drop n) with
    | true => rw [hc, if_pos rfl] at h; exact h
    | false => rw [hc, if_neg Bool.false_ne_true] at h; exact h ⟨2, _, n⟩
  simp only [go_sem, facts]
  rw [tokL_eq h0, hlet, hdig, if_neg Bool.false_ne_true, if_neg Bool.false_ne_true] at h
  have hlen : (symsR.map D.str).length = 27 := rfl
  refine aw_loop (fun m fr st => ∃ j : Nat, j ≤ 27 ∧ m = 27 - j ∧ symL (symsR.drop j) (s.drop n) = symL symsR (s.drop n) ∧
    fr = [.d (.str s), dn n, .any, .any, .ref σ.length 0, .any, .d (.sl 1 (symsR.map .str)), dn j, .any, .any, .any, .any, .any, .any, .any, .any, .any, .any, .any, .any, .any, .any, .any, .any, .any, .any, .any, .any, .any, .any, .any, .any, .any, .any, .any, .any, .any, .any, .any, .any, .any, .any, .any, .any, .any, .any, .any] ∧ st = σ ++ [some (.cells [.d (.int .i64 0), .d (.str []), .d (.int .i64 0)])]) 27 _
    (Wk.mask [0, 1, 4, 6, 7] ⟨0, by omega, rfl, rfl, rfl, rfl⟩) ?_
  rintro m fr st ⟨j, hj, hm, hr, rfl, rfl⟩
  rcases Nat.lt_or_ge j 27 with hlt | hge
  · have hd : decide ((j : Int) < ((27 : Nat) : Int)) = true := by simp; omega
    have hx : symsR[j]? = some (symsR.getD j []) := getD_some hlt
    have e : List.getD (List.map D.str symsR) j default = .str (symsR.getD j []) := by rw [List.getD_eq_getElem?_getD, List.getElem?_map, hx]; rfl
    have hmem : symsR.getD j [] ∈ symsR := List.mem_of_getElem? hx
    have hdrop : symsR.drop j = symsR.getD j [] :: symsR.drop (j + 1) := by
      rw [List.drop_eq_getElem_cons (show j < symsR.length from hlt), List.getD_eq_getElem?_getD, List.getElem?_eq_getElem (show j < symsR.length from hlt)]; rfl
    rw [hdrop] at hr
    generalize symsR.getD j [] = x at *
    have hx3 := symsR_le x hmem
    have hx0 := symsR_ne x hmem
    have w2 : IntKind.i64.wrap ((j : Int) + 1) = ((j + 1 : Nat) : Int) := by rw [wrap64_id _ (by omega) (by omega)]; rfl
    simp only [go_sem, facts, hlen, hd, e, w2]
    refine ⟨⟨by omega, by omega⟩, ac' (begins_ac s x hs (by omega) n (by omega) _ _ _ ?_)⟩
    simp only [go_sem, facts, Tryd.results23, hlen, hd, e, w2]
    refine ⟨fun hp => ?_, fun hp => ?_⟩
    · rw [← hr, symL, hp, if_pos rfl, if_neg hx0] at h
      refine ⟨⟨by omega, by omega⟩, ret_bd hbd rfl ?_⟩
      have ht : (s.drop n).take x.length = x := by simpa [pre] using hp
      simp only [ht] at h
      exact h
    · refine Wk.mask [0, 1, 4, 6, 7] ⟨27 - (j + 1), by omega, j + 1, by omega, rfl, ?_, rfl, rfl⟩
      rw [← hr, symL, hp, if_neg Bool.false_ne_true]
  · have hd : decide ((j : Int) < ((27 : Nat) : Int)) = false := by simp; omega
    have : j = 27 := by omega
    subst this
    have h3 : symL symsR (s.drop n) = [] := by rw [← hr]; rfl
    rw [if_pos h3] at h
    simp only [go_sem, facts, Tryd.results23, hlen, hd]
    exact ret_bd hbd rfl (h ⟨0, [], 0⟩)
end Go.Proofs.YtaapoadjgfoieaaDoor
