/- What the lexer's functions answer. -/
import Derived.Test.YtaapoadjgfoieaaDoorT1
set_option linter.unusedSimpArgs false
set_option maxRecDepth 100000
namespace Go.Proofs.YtaapoadjgfoieaaDoor
open Go Go.Ab
theorem prefix_ac (x s : List UInt8) (σ : St) (G : Glob) (R : A → St → Prop) (h : R (db (pre x s)) σ) : AC Tryd.prog G 39 [.d (.str s), .d (.str x)] σ R := by
  refine ac_enter mixed Tryd.func39 rfl Tryd.ntmps39 (by simp only [facts]) fun hbd => ?_
  simp only [List.length_cons, List.length_nil, Nat.reduceAdd, Nat.reduceSub, List.replicate_succ, List.replicate_zero, List.cons_append, List.nil_append]
  simp only [go_sem, facts, Tryd.results39, pre_and]
  exact ⟨fun hc => ⟨by simpa [ev, A.cond] using hc, by omega, by omega, by simpa using hc⟩, ret_d0 h⟩
theorem hasPrefix_ac (x s : List UInt8) (σ : St) (G : Glob) (R : A → St → Prop) (h : R (db (pre x s)) σ) : AC Tryd.prog G 27 [.d (.str s), .d (.str x)] σ R := by
  refine ac_enter mixed Tryd.func27 rfl Tryd.ntmps27 (by simp only [facts]) fun hbd => ?_
  simp only [List.length_cons, List.length_nil, Nat.reduceAdd, Nat.reduceSub, List.replicate_succ, List.replicate_zero, List.cons_append, List.nil_append]
  simp only [go_sem, facts, Tryd.results27]
  refine ac' (prefix_ac _ _ _ _ _ ?_)
  simp only [go_sem, facts, Tryd.results27]
  exact ret_d0 h
theorem gap_ac (s : List UInt8) (hs : s.length ≤ 1073741824) (n : Nat) (h1 : n ≤ s.length) (σ : St) (G : Glob) (R : A → St → Prop) (h : R (dn (n + sk false (s.drop n))) σ) :
    AC Tryd.prog G 20 [scn s, dn n] σ R := by
  refine ac_enter mixed Tryd.func20 rfl Tryd.ntmps20 (by simp only [facts]) fun hbd => ?_
  simp only [List.length_cons, List.length_nil, Nat.reduceAdd, Nat.reduceSub, List.replicate_succ, List.replicate_zero, List.cons_append, List.nil_append]
  simp only [go_sem, facts]
  refine aw_loop (fun m fr st => ∃ j : Nat, j ≤ s.length ∧ m = s.length - j ∧ j + sk false (s.drop j) = n + sk false (s.drop n) ∧
    fr = [scn s, dn j, .ref σ.length 0, .any, .any, .any, .any, .any, .any, .any, .any, .any, .any, .any, .any, .any, .any, .any, .any, .any, .any, .any, .any, .any, .any, .any] ∧ st = σ ++ [some (Ob.cells [A.d (D.str s)])]) (s.length - n) _
    (Wk.mask [0, 1, 2] ⟨n, h1, rfl, rfl, rfl, rfl⟩) ?_
  rintro m fr st ⟨j, hj, hm, hr, rfl, rfl⟩
  simp only [go_sem, facts]
  refine ac' (run_ac s hs 26 whiteB G (fun n σ R h => white_ac s n h σ G R) j hj _ _ ?_)
  simp only [go_sem, facts]
  have hw := runL_le whiteB (s.drop j)
  simp only [List.length_drop] at hw
  refine ⟨⟨by omega, by omega, by omega⟩, ac' (hasPrefix_ac _ _ _ _ _ ?_)⟩
  simp only [go_sem, facts]
  have hstep := gap_step (s.drop j)
  have hstop := gap_stop (l := s.drop j)
  have hle : gapStep (s.drop j) ≤ s.length - j := by
    unfold gapStep
    split
    · have := runL_le lineB ((s.drop j).drop (runL whiteB (s.drop j)))
      simp only [List.length_drop] at this; omega
    · exact hw
  have fin : ∀ e : Nat, e = j + gapStep (s.drop j) → (((e : Int) == (j : Int)) = true → ∃ r σ', Weak G σ.length [dn j] (σ ++ [some (Ob.cells [A.d (D.str s)])]) [r] σ' ∧ R r σ') ∧ (((e : Int) == (j : Int)) = false → e ≤ s.length ∧ s.length - e < m ∧ e + sk false (s.drop e) = n + sk false (s.drop n)) := by
    rintro e rfl
    refine ⟨fun h0 => ret_d hbd ?_, fun h0 => ?_⟩
    · have h0 : gapStep (s.drop j) = 0 := by simp only [beq_iff_eq] at h0; omega
      rw [hstop h0, Nat.add_zero] at hr
      rw [← hr] at h; exact h
    · have h0 : gapStep (s.drop j) ≠ 0 := by intro e; rw [e] at h0; simp at h0
      refine ⟨by omega, by omega, ?_⟩
      rw [← hr, hstep, List.drop_drop]; omega
  constructor
  · intro hp
    refine ac' (run_ac s hs 28 lineB G (fun n σ R h => inLine_ac s n h σ G R) (j + runL whiteB (s.drop j)) (by omega) _ _ ?_)
    simp only [go_sem, facts, Tryd.results20]
    have hg : j + runL whiteB (s.drop j) + runL lineB (s.drop (j + runL whiteB (s.drop j))) = j + gapStep (s.drop j) := by
      rw [gapStep, List.drop_drop, if_pos hp]; omega
    have f := fin _ hg
    refine ⟨f.1, fun h0 => Wk.mask [0, 1, 2] ⟨_, (f.2 h0).2.1, _, (f.2 h0).1, rfl, (f.2 h0).2.2, rfl, rfl⟩⟩
  · intro hp
    have hg : j + runL whiteB (s.drop j) = j + gapStep (s.drop j) := by
      rw [gapStep, List.drop_drop, if_neg (by rw [hp]; exact Bool.false_ne_true)]
    have f := fin _ hg
    refine ⟨f.1, fun h0 => Wk.mask [0, 1, 2] ⟨_, (f.2 h0).2.1, _, (f.2 h0).1, rfl, (f.2 h0).2.2, rfl, rfl⟩⟩
theorem symbol_ac (syms : List (List UInt8)) (hy : syms.length = 27) (hy1 : ∀ x ∈ syms, x.length ≤ 3) (s : List UInt8) (hs : s.length ≤ 1073741824) (n : Nat) (h1 : n ≤ s.length) (σ : St) (G : Glob) (hG : G 0 = some (.agg (syms.map .str))) (R : A → St → Prop) (h : R (.d (.str (symL syms (s.drop n)))) σ) :
    AC Tryd.prog G 32 [scn s, dn n] σ R := by
  refine ac_enter mixed Tryd.func32 rfl Tryd.ntmps32 (by simp only [facts]) fun hbd => ?_
  simp only [List.length_cons, List.length_nil, Nat.reduceAdd, Nat.reduceSub, List.replicate_succ, List.replicate_zero, List.cons_append, List.nil_append]
  have ht : List.take 27 (List.map D.str syms) = List.map D.str syms := List.take_of_length_le (by simp; omega)
  simp only [go_sem, facts, ev_global hG, ht]
  refine ⟨by simp; omega, ?_⟩
  refine aw_loop (fun m fr st => ∃ j : Nat, j ≤ 27 ∧ m = 27 - j ∧ symL (syms.drop j) (s.drop n) = symL syms (s.drop n) ∧
    fr = [scn s, dn n, .ref σ.length 0, .any, .d (.str []), .any, .any, .any, .d (.agg (syms.map .str)), dn j, .any, .any, .any, .any, .any, .any, .any, .any, .any, .any, .any, .any, .any, .any, .any, .any, .any, .any, .any, .any, .any, .any, .any, .any, .any, .any, .any, .any] ∧ st = σ ++ [some (Ob.cells [A.d (D.str s)])]) 27 _
    (Wk.mask [0, 1, 2, 4, 8, 9] ⟨0, by omega, rfl, rfl, rfl, rfl⟩) ?_
  rintro m fr st ⟨j, hj, hm, hr, rfl, rfl⟩
  rcases Nat.lt_or_ge j 27 with hlt | hge
  · have hd : decide ((j : Int) < 27) = true := by simp; omega
    have hx : syms[j]? = some (syms.getD j []) := getD_some (by omega)
    have e : List.getD (List.map D.str syms) j default = .str (syms.getD j []) := by rw [List.getD_eq_getElem?_getD, List.getElem?_map, hx]; rfl
    have hmem : syms.getD j [] ∈ syms := List.mem_of_getElem? hx
    have hdrop : syms.drop j = syms.getD j [] :: syms.drop (j + 1) := by
      rw [List.drop_eq_getElem_cons (by omega)]; simp [List.getD, hy, hlt]
    rw [hdrop] at hr
    generalize syms.getD j [] = x at *
    have hx3 := hy1 x hmem
    have w1 : IntKind.i64.wrap ((s.length : Int) - (n : Int)) = ((s.length - n : Nat) : Int) := by rw [wrap64_id _ (by omega) (by omega)]; omega
    have w2 : IntKind.i64.wrap ((j : Int) + 1) = ((j + 1 : Nat) : Int) := by rw [wrap64_id _ (by omega) (by omega)]; rfl
    simp only [go_sem, facts, hd, e, Nat.mul_one, w1, w2]
    have next : pre x (s.drop n) = false → symL (syms.drop (j + 1)) (s.drop n) = symL syms (s.drop n) := fun hp => by
      rw [← hr, symL, hp, if_neg Bool.false_ne_true]
    refine ⟨⟨by omega, by omega, by simp; omega⟩, fun hc => ?_, fun hc => ?_⟩
    · have hp : pre x (s.drop n) = false := pre_short (by simpa using hc)
      exact Wk.mask [0, 1, 2, 4, 8, 9] ⟨27 - (j + 1), by omega, j + 1, by omega, rfl, next hp, rfl, rfl⟩
    · have hl : x.length ≤ s.length - n := by simp at hc; omega
      refine aw_loop (fun m1 fr st => ∃ i : Nat, i ≤ x.length ∧ m1 = x.length - i ∧ (∀ k, k < i → s.getD (n + k) 0 = x.getD k 0) ∧
        fr = [scn s, dn n, .ref σ.length 0, .any, .d (.str []), .any, .d (.str x), .any, .d (.agg (syms.map .str)), dn j, .any, .any, .any, .any, .any, .any, .any, .any, .any, .any, .any, dn x.length, dn i, .any, .any, .any, .any, .any, .any, .any, .any, .any, .any, .any, .any, .any, .any, .any] ∧ st = σ ++ [some (Ob.cells [A.d (D.str s)])]) x.length _
        (Wk.mask [0, 1, 2, 4, 6, 8, 9, 21, 22] ⟨0, by omega, rfl, fun k hk => by omega, rfl, rfl⟩) ?_
      rintro m1 fr st ⟨i, hi, hm1, hall, rfl, rfl⟩
      have w3 : IntKind.i64.wrap ((n : Int) + (i : Int)) = ((n + i : Nat) : Int) := by rw [wrap64_id _ (by omega) (by omega)]; rfl
      have w4 : IntKind.i64.wrap ((i : Int) + 1) = ((i + 1 : Nat) : Int) := by rw [wrap64_id _ (by omega) (by omega)]; rfl
      simp only [go_sem, facts, Tryd.results32, w2, w3, w4]
      refine ⟨fun hlt1 => ⟨⟨by omega, by simp at hlt1; omega⟩, ⟨by omega, by simpa using hlt1⟩, fun hne => ?_, fun heq => ?_⟩, fun hge => ?_⟩
      · exact Wk.mask [0, 1, 2, 4, 8, 9] ⟨27 - (j + 1), by omega, j + 1, by omega, rfl, next (pre_no (by simpa using hlt1) (u8_ne.1 hne)), rfl, rfl⟩
      · have hlt1 : i < x.length := by simpa using hlt1
        refine Wk.mask [0, 1, 2, 4, 6, 8, 9, 21, 22] ⟨x.length - (i + 1), by omega, i + 1, hlt1, rfl, fun k hk => ?_, rfl, rfl⟩
        rcases Nat.lt_or_ge k i with hki | hki
        · exact hall k hki
        · obtain rfl : k = i := by omega
          exact Classical.byContradiction fun hne => by rw [u8_ne.2 hne] at heq; cases heq
      · have hi' : i = x.length := by simp at hge; omega
        subst hi'
        have hp : pre x (s.drop n) = true := pre_of hl hall
        rw [← hr, symL, hp, if_pos rfl] at h
        exact ret_d hbd h
  · have hd : decide ((j : Int) < 27) = false := by simp; omega
    have : j = 27 := by omega
    subst this
    rw [List.drop_of_length_le (by omega), symL] at hr
    simp only [go_sem, facts, Tryd.results32, hd]
    rw [← hr] at h
    exact ret_d hbd h
theorem token_ac (syms : List (List UInt8)) (hy : syms.length = 27) (hy1 : ∀ x ∈ syms, x.length ≤ 3) (s : List UInt8) (hs : s.length ≤ 1073741824) (n : Nat) (h1 : n < s.length) (σ : St) (G : Glob) (hG : G 0 = some (.agg (syms.map .str))) (R : A → St → Prop)
    (h : R (match tokL syms (s.drop n) with | none => .tup [dn 0, dn n] | some (k, m) => .tup [dn k, dn (n + m)]) σ) :
    AC Tryd.prog G 21 [scn s, dn n] σ R := by
  refine ac_enter mixed Tryd.func21 rfl Tryd.ntmps21 (by simp only [facts]) fun hbd => ?_
  simp only [List.length_cons, List.length_nil, Nat.reduceAdd, Nat.reduceSub, List.replicate_succ, List.replicate_zero, List.cons_append, List.nil_append]
  have h0 : s.drop n = s.getD n 0 :: s.drop (n + 1) := drop_cons h1
  simp only [go_sem, facts]
  refine ⟨⟨by omega, by omega⟩, ac' (letter_ac _ _ _ _ ?_)⟩
  simp only [go_sem, facts]
  refine ⟨fun hlet => ac' (run_ac s hs 30 wordB G (fun n σ R h => word_ac s n h σ G R) n (by omega) _ _ ?_), fun hlet => ac' (digit_ac _ _ h1 _ _ _ ?_)⟩
  · simp only [go_sem, facts, Tryd.results21]
    have hle := runL_le wordB (s.drop n)
    simp only [List.length_drop] at hle
    have w1 : IntKind.i64.wrap (((n + runL wordB (s.drop n) : Nat) : Int) - (n : Int)) = (runL wordB (s.drop n) : Nat) := by rw [wrap64_id _ (by omega) (by omega)]; omega
    rw [w1]
    rw [tokL_eq h0, if_pos hlet] at h
    refine ⟨fun hc => ret_bd hbd rfl ?_, fun hc => ret_bd hbd rfl ?_⟩
    · rw [if_neg (by simp at hc; omega)] at h; exact h
    · rw [if_pos (by simp at hc; omega)] at h; exact h
  · simp only [go_sem, facts, Tryd.results21]
    rw [tokL_eq h0, if_neg (by rw [hlet]; exact Bool.false_ne_true)] at h
    refine ⟨fun hdig => ac' (run_ac s hs 31 digitB G (fun n σ R h => digit_ac s n h σ G R) n (by omega) _ _ ?_), fun hdig => ac' (symbol_ac syms hy hy1 s hs n (by omega) _ _ hG _ ?_)⟩
    · rw [if_pos hdig] at h
      have hle := runL_le digitB (s.drop n)
      simp only [List.length_drop] at hle h
      have w1 : IntKind.i64.wrap (((n + runL digitB (s.drop n) : Nat) : Int) - (n : Int)) = (runL digitB (s.drop n) : Nat) := by rw [wrap64_id _ (by omega) (by omega)]; omega
      have hgd : (s.drop n).getD (runL digitB (s.drop n)) 0 = s.getD (n + runL digitB (s.drop n)) 0 := by simp [List.getD]
      rw [hgd] at h
      simp only [go_sem, facts, Tryd.results21, w1]
      refine ⟨fun hc => ⟨fun _ => ret_bd hbd rfl ?_, fun hc' => by rw [hc] at hc'; cases hc'⟩, fun hc => ⟨⟨by omega, by omega⟩, fun hz => ret_bd hbd rfl ?_, fun hz => ex' (.bool (wordB (s.getD (n + runL digitB (s.drop n)) 0))) ⟨fun hlt => ?_, ?_⟩⟩⟩
      · rw [if_pos (.inl (by simp at hc; omega))] at h; exact h
      · simp only [Bool.and_eq_true, is48, decide_eq_true_eq] at hz
        rw [if_pos (.inr ⟨hz.1, by omega⟩)] at h; exact h
      · simp only [go_sem, facts]
        exact ⟨by simpa [ev, A.cond] using hlt, ac' (word_ac s _ (by simp at hlt; omega) _ _ _ ⟨rfl, rfl⟩)⟩
      · simp only [go_sem, facts, Tryd.results21]
        have hnz : ¬ (9 < runL digitB (s.drop n) ∨ (s.getD n 0 = 48 ∧ 1 < runL digitB (s.drop n))) := by
          rintro (h9 | ⟨h48, h1'⟩)
          · simp at hc; omega
          · rw [Bool.and_eq_false_iff] at hz
            rcases hz with hz | hz
            · rw [is48.2 h48] at hz; cases hz
            · simp at hz; omega
        rw [if_neg hnz] at h
        refine ⟨fun hw => ret_bd hbd rfl ?_, fun hw => ret_bd hbd rfl ?_⟩
        · simp only [Bool.and_eq_true, decide_eq_true_eq] at hw
          rw [if_pos ⟨by omega, hw.2⟩] at h; exact h
        · rw [if_neg (by rintro ⟨h1', h2'⟩; rw [h2'] at hw; simp at hw; omega)] at h; exact h
    · rw [if_neg (by rw [hdig]; exact Bool.false_ne_true)] at h
      have hsl := symL_len hy1 (s.drop n)
      have w1 : IntKind.i64.wrap ((n : Int) + ((symL syms (s.drop n)).length : Int)) = ((n + (symL syms (s.drop n)).length : Nat) : Int) := by rw [wrap64_id _ (by omega) (by omega)]; omega
      simp only [go_sem, facts, Tryd.results21, w1]
      refine ⟨fun hc => ret_bd hbd rfl ?_, fun hc => ret_bd hbd rfl ?_⟩
      · rw [if_neg (by simpa using hc)] at h; exact h
      · rw [if_pos (by simpa using hc)] at h; exact h
end Go.Proofs.YtaapoadjgfoieaaDoor
