/- What the law package's Blank and gap and the reference's Shift answer. -/
import Derived.Test.YtaapoadjgfoieaaDoorT9
import Derived.Test.YtaapoadjgfoieaaDoorP3
set_option linter.unusedSimpArgs false
set_option maxRecDepth 100000
namespace Go.Proofs.YtaapoadjgfoieaaDoor
open Go Go.Ab
def gapsL : List (List UInt8) := [[32], [10], [9, 32], [32, 47, 47, 32, 120, 32, 58, 61, 32, 49, 32, 47, 10], [13, 10], [47, 47, 10]]
def gapL (k : Nat) : List UInt8 := gapsL.getD (k % 6) []
theorem gapC_ac (k : Nat) (hk : k ≤ 255) (σ : St) (G : Glob) (R : A → St → Prop) (h : R (.d (.str (gapL k))) σ) : AC Tryd.prog G 16 [.d (.int .u8 k)] σ R := by
  refine ac_enter mixed Tryd.func16 rfl Tryd.ntmps16 (by simp only [facts]) fun hbd => ?_
  simp only [List.length_cons, List.length_nil, Nat.reduceAdd, Nat.reduceSub, List.replicate_succ, List.replicate_zero, List.cons_append, List.nil_append]
  have w1 : IntKind.i64.wrap (k : Int) = (k : Int) := wrap64_id _ (by omega) (by omega)
  have tm : Int.tmod (k : Int) ((6 : Nat) : Int) = ((k % 6 : Nat) : Int) := rfl
  have h6 : k % 6 < 6 := Nat.mod_lt _ (by omega)
  have e : List.getD [A.d (D.str [32]), A.d (D.str [10]), A.d (D.str [9, 32]), A.d (D.str [32, 47, 47, 32, 120, 32, 58, 61, 32, 49, 32, 47, 10]), A.d (D.str [13, 10]), A.d (D.str [47, 47, 10])] (k % 6 * 1) A.any = .d (.str (gapL k)) := by
    unfold gapL
    rw [Nat.mul_one]
    generalize k % 6 = j at h6
    match j, h6 with
    | 0, _ => rfl
    | 1, _ => rfl
    | 2, _ => rfl
    | 3, _ => rfl
    | 4, _ => rfl
    | 5, _ => rfl
  simp only [go_sem, facts, Tryd.results16, w1, tm, e]
  exact ⟨by omega, by omega, ⟨by omega, by omega⟩, by omega, ret_bd hbd rfl h⟩
theorem shift_ac (ts : List Tok) (n : Nat) (hn : n ≤ 5000) (hts : ts.length ≤ 1500) (hp : ∀ t ∈ ts, t.pos ≤ 5000) (σ : St) (G : Glob) (R : A → St → Prop) (h : R (.d (toksD (ts.map (shiftT n)))) σ) : AC Tryd.prog G 17 [.d (toksD ts), dn n] σ R := by
  refine ac_enter mixed Tryd.func17 rfl Tryd.ntmps17 (by simp only [facts]) fun hbd => ?_
  simp only [List.length_cons, List.length_nil, Nat.reduceAdd, Nat.reduceSub, List.replicate_succ, List.replicate_zero, List.cons_append, List.nil_append]
  simp only [toksD, go_sem, facts, Tryd.results17]
  refine aw_loop (fun m fr st => ∃ j : Nat, j ≤ ts.length ∧ m = ts.length - j ∧ fr = [.d (.sl 3 (ts.map tokD)), dn n, .any, .any, .any, .rs σ.length 3 0 j (some 30), dn j, .any, .any, .any, .any, .any, .any, .any, .any, .any, .any, .any, .any, .any, .any, .any, .any, .any, .any, .any, .any, .any, .any, .any, .any, .any, .any, .any, .any] ∧
    st = σ ++ [some (Ob.cells (flat (((ts.take j).map (shiftT n)).map tokD)))]) ts.length _
    ⟨_, _, (Weak.mask [0, 1, 5, 6]).trans (Weak.empty 5 3 (some 30) rfl), 0, by omega, rfl, by simp only [maskN]; rfl, by simp [flat]⟩ ?_
  rintro m fr st ⟨j, hj, hm, rfl, rfl⟩
  rcases Nat.lt_or_ge j ts.length with hlt | hge
  · have hd : decide ((j : Int) < (ts.length : Int)) = true := by simp; omega
    obtain ⟨t, ht⟩ : ∃ t, ts[j]? = some t := ⟨_, List.getElem?_eq_getElem hlt⟩
    have e1 : List.getD (List.map tokD ts) j default = tokD t := by rw [List.getD_eq_getElem?_getD, List.getElem?_map, ht]; rfl
    have htp := hp t (List.mem_of_getElem? ht)
    have w1 : IntKind.i64.wrap ((j : Int) + 1) = ((j + 1 : Nat) : Int) := by rw [wrap64_id _ (by omega) (by omega)]; rfl
    have w2 : IntKind.i64.wrap ((t.pos : Int) + (n : Int)) = ((t.pos + n : Nat) : Int) := by rw [wrap64_id _ (by omega) (by omega)]; rfl
    have hfl : (flat (((ts.take j).map (shiftT n)).map tokD)).length = j * 3 := by rw [flat_len fun x hx => (tokD_cells _ x hx).1]; simp; omega
    simp only [go_sem, facts, List.length_map, hd, e1, tokD, w1, w2, Tryd.results17]
    refine ⟨⟨by omega, by omega⟩, ⟨by omega, by omega⟩, ⟨by omega, by omega⟩, by omega, ⟨hfl, by simp only [maxLen]; omega, by omega⟩, ?_⟩
    refine Wk.keep [0, 1, 5, 6] [2] (by decide) (Nat.le_refl _) hbd ⟨ts.length - (j + 1), by omega, j + 1, hlt, rfl, ?_, ?_⟩
    · simp only [go_sem]
    · have e2 : ts.take (j + 1) = ts.take j ++ [t] := by rw [List.take_add_one, ht]; rfl
      simp only [go_sem, e2]
      simp [flat, tokD, D.cells, shiftT]
  · have hd : decide ((j : Int) < (ts.length : Int)) = false := by simp; omega
    have : j = ts.length := by omega
    subst this
    simp only [go_sem, facts, List.length_map, hd, Tryd.results17, List.take_length]
    refine ret_frz 0 3 0 ((ts.map (shiftT n)).map tokD) rfl (lies_of (tokD_cells _)) ?_
    simp only [go_sem, and_self, List.length_map]
    exact ret_bd hbd rfl h
theorem lineB_eq (c : UInt8) : (((c.toNat : Nat) : Int) != 10) = lineB c := rfl
theorem beq47 (c : UInt8) : ((((c.toNat : Nat) : Int)) == 47) = (c == 47) := by
  have := byte_eq (c := c) (n := 47) (by decide)
  cases h : (c == 47) with
  | true =>
    have : c = 47 := by simpa using h
    subst this; rfl
  | false =>
    cases h2 : ((((c.toNat : Nat) : Int)) == 47) with
    | false => rfl
    | true =>
      have h3 := this.1 h2
      rw [h3] at h
      exact absurd h (by decide)
theorem slashes (s : List UInt8) (j : Nat) : (decide (((j + 1 : Nat) : Int) < (s.length : Int)) && (((s.getD j 0).toNat : Nat) : Int) == 47 && (((s.getD (j + 1) 0).toNat : Nat) : Int) == 47) = (s.getD j 0 == 47 && (s.drop (j + 1)).head? == some 47) := by
  rw [beq47, beq47, List.head?_drop]
  by_cases h : j + 1 < s.length
  · have e : s[j + 1]? = some (s.getD (j + 1) 0) := by simp [List.getD, h]
    rw [decide_eq_true (by omega), Bool.true_and, e]
    rfl
  · rw [decide_eq_false (by omega), Bool.false_and, Bool.false_and, List.getElem?_eq_none (by omega)]
    cases (s.getD j 0 == 47) <;> rfl
theorem blank_ac (s : List UInt8) (hs : s.length ≤ 5000) (σ : St) (G : Glob) (R : A → St → Prop) (h : R (db (decide (sk false s = s.length))) σ) : AC Tryd.prog G 15 [.d (.str s)] σ R := by
  refine ac_enter mixed Tryd.func15 rfl Tryd.ntmps15 (by simp only [facts]) fun hbd => ?_
  simp only [List.length_cons, List.length_nil, Nat.reduceAdd, Nat.reduceSub, List.replicate_succ, List.replicate_zero, List.cons_append, List.nil_append]
  simp only [go_sem, facts, Tryd.results15]
  refine aw_loop (fun m fr st => ∃ (j : Nat) (b : Bool), j ≤ s.length ∧ m = s.length - j ∧ (sk b (s.drop j) = s.length - j ↔ sk false s = s.length) ∧ fr = [.d (.str s), .any, .any, db b, dn j, .any, .any, .any, .any, .any, .any, .any, .any, .any, .any, .any, .any, .any, .any, .any, .any, .any, .any, .any, .any, .any, .any, .any, .any, .any, .any, .any, .any, .any, .any, .any, .any, .any, .any] ∧ st = σ) s.length _
    (Wk.mask [0, 3, 4] ⟨0, false, by omega, rfl, by simp, rfl, rfl⟩) ?_
  rintro m fr σ ⟨j, b, hj, hm, hr, rfl, rfl⟩
  rcases Nat.lt_or_ge j s.length with hlt | hge
  · have hd : decide ((j : Int) < (s.length : Int)) = true := by simp; omega
    have h0 : s.drop j = s.getD j 0 :: s.drop (j + 1) := drop_cons hlt
    have w1 : IntKind.i64.wrap ((j : Int) + 1) = ((j + 1 : Nat) : Int) := by rw [wrap64_id _ (by omega) (by omega)]; rfl
    cases b with
    | true =>
      rw [h0, sk_t] at hr
      simp only [go_sem, facts, hd, w1, Tryd.results15, lineB_eq]
      refine ⟨⟨by omega, by omega⟩, Wk.mask [0, 3, 4] ⟨s.length - (j + 1), by omega, j + 1, _, hlt, rfl, ?_, rfl, rfl⟩⟩
      rw [← hr]; omega
    | false =>
      rw [h0, sk_f] at hr
      simp only [go_sem, facts, hd, w1, Tryd.results15]
      refine ⟨fun h1 => ⟨h1, by omega, by omega⟩, fun h1 => ⟨h1, by omega, by simp at h1; omega⟩, fun h1 => ?_, fun h1 => ⟨⟨by omega, by omega⟩, ac' (rwhite_ac _ _ _ _ ?_)⟩⟩
      · rw [slashes] at h1
        rw [if_pos h1] at hr
        refine Wk.mask [0, 3, 4] ⟨s.length - (j + 1), by omega, j + 1, true, hlt, rfl, ?_, rfl, rfl⟩
        rw [← hr]; omega
      · rw [slashes] at h1
        rw [h1, if_neg Bool.false_ne_true] at hr
        simp only [go_sem, facts, Tryd.results15, w1]
        refine ⟨fun hw => ?_, fun hw => ?_⟩
        · have hw : whiteB (s.getD j 0) = false := by simpa using hw
          rw [hw, if_neg Bool.false_ne_true] at hr
          have : ¬ (sk false s = s.length) := fun e => by have := hr.2 e; omega
          rw [decide_eq_false this] at h
          exact ret_d0 h
        · have hw : whiteB (s.getD j 0) = true := by simpa using hw
          rw [if_pos hw] at hr
          refine Wk.mask [0, 3, 4] ⟨s.length - (j + 1), by omega, j + 1, false, hlt, rfl, ?_, rfl, rfl⟩
          rw [← hr]; omega
  · have hd : decide ((j : Int) < (s.length : Int)) = false := by simp; omega
    simp only [go_sem, facts, hd, Tryd.results15]
    rw [List.drop_of_length_le hge] at hr
    have : sk false s = s.length := hr.1 (by cases b <;> simp [sk] <;> omega)
    rw [decide_eq_true this] at h
    exact ret_d0 h
end Go.Proofs.YtaapoadjgfoieaaDoor
