/- The law LexerLimits. -/
import Derived.Test.YtaapoadjgfoieaaDoorT8
set_option linter.unusedSimpArgs false
set_option maxRecDepth 100000
namespace Go.Proofs.YtaapoadjgfoieaaDoor
open Go Go.Ab
/-- n names of one letter, each with a blank behind it. -/
def names (c : UInt8) (n : Nat) : List UInt8 := (List.replicate n [c, 32]).flatten
theorem names_len (c : UInt8) (n : Nat) : (names c n).length = 2 * n := by
  unfold names; rw [List.length_flatten]; simp; omega
theorem names_snoc (c : UInt8) (n : Nat) : names c (n + 1) = names c n ++ [c, 32] := by
  unfold names; rw [List.replicate_succ', List.flatten_append]; simp
theorem names_cons (c : UInt8) (n : Nat) : names c (n + 1) = c :: 32 :: names c n := by
  unfold names; rw [List.replicate_succ, List.flatten_cons]; rfl
def tks (c : UInt8) : Nat → Nat → List Tok
  | _, 0 => []
  | pos, n + 1 => ⟨1, [c], pos + 1⟩ :: tks c (pos + 2) n
theorem tks_len (c : UInt8) : ∀ (pos n : Nat), (tks c pos n).length = n
  | _, 0 => rfl
  | pos, n + 1 => by simp [tks, tks_len c (pos + 2) n]
theorem letter_facts {c : UInt8} (hc : letterB c = true) : wordB c = true ∧ whiteB c = false ∧ (c == 47) = false := by
  have h : (65 ≤ (c.toNat : Int) ∧ (c.toNat : Int) ≤ 90) ∨ (97 ≤ (c.toNat : Int) ∧ (c.toNat : Int) ≤ 122) := by
    simpa [letterB, Bool.or_eq_true, Bool.and_eq_true, decide_eq_true_eq] using hc
  refine ⟨by simp [wordB, hc], ?_, ?_⟩
  · simp only [whiteB, Bool.or_eq_false_iff, beq_eq_false_iff_ne]; omega
  · rw [beq_eq_false_iff_ne]
    rintro rfl
    rcases h with h | h <;> simp at h
theorem sk_letter {c : UInt8} (hc : letterB c = true) (t : List UInt8) : sk false (c :: t) = 0 := by
  obtain ⟨_, h2, h3⟩ := letter_facts hc
  rw [sk_f, h3, Bool.false_and, if_neg Bool.false_ne_true, h2, if_neg Bool.false_ne_true]
theorem tok_letter {syms : List (List UInt8)} {c : UInt8} (hc : letterB c = true) (t : List UInt8) : tokL syms (c :: 32 :: t) = some (1, 1) := by
  have h1 : runL wordB (c :: 32 :: t) = 1 := by
    rw [runL, if_pos (letter_facts hc).1, runL, if_neg (by decide)]
  rw [tokL_eq rfl, if_pos hc, h1, if_pos (by omega)]
theorem lex_names {syms : List (List UInt8)} {c : UInt8} (hc : letterB c = true) : ∀ (n f pos k : Nat), 2 * n + 1 < f → k ≤ 1500 →
    lexL syms f (32 :: names c n) pos k = if k + n ≤ 1500 then .ok (tks c pos n) else .error (2, pos + 1 + 2 * (1500 - k))
  | 0, f, pos, k, hf, hk => by
    obtain ⟨f, rfl⟩ : ∃ f', f = f' + 1 := ⟨f - 1, by omega⟩
    rw [lexL, if_pos (by rw [sk_f]; rfl), if_pos (by omega)]; rfl
  | n + 1, f, pos, k, hf, hk => by
    obtain ⟨f, rfl⟩ : ∃ f', f = f' + 1 := ⟨f - 1, by omega⟩
    rw [names_cons]
    have hs : sk false (32 :: c :: 32 :: names c n) = 1 := by
      rw [sk_f, show ((32 : UInt8) == 47) = false from rfl, Bool.false_and, if_neg Bool.false_ne_true, if_pos (by decide), sk_letter hc]
    rw [lexL, hs, if_neg (by simp)]
    by_cases h : k = 1500
    · rw [if_pos h, if_neg (by omega)]; subst h; rfl
    · rw [if_neg h, List.drop_succ_cons, List.drop_zero, tok_letter hc]
      have hd : (32 :: c :: 32 :: names c n).drop (1 + 1) = 32 :: names c n := rfl
      simp only [hd]
      rw [lex_names hc n f (pos + 1 + 1) (k + 1) (by omega) (by omega)]
      by_cases h2 : k + 1 + n ≤ 1500
      · rw [if_pos h2, if_pos (by omega)]; rfl
      · rw [if_neg h2, if_neg (by omega)]
        simp only [Except.error.injEq, Prod.mk.injEq, true_and]; omega
theorem lexS_names {syms : List (List UInt8)} {c : UInt8} (hc : letterB c = true) (n : Nat) :
    lexS syms (names c n) = if 4000 < 2 * n then .error (2, 0) else if n ≤ 1500 then .ok (match n with | 0 => [] | n + 1 => ⟨1, [c], 0⟩ :: tks c 1 n) else .error (2, 3000) := by
  unfold lexS
  rw [names_len]
  by_cases h : 4000 < 2 * n
  · rw [if_pos h, if_pos h]
  · rw [if_neg h, if_neg h]
    match n with
    | 0 => rfl
    | n + 1 =>
      rw [names_cons, lexL, sk_letter hc, if_neg (by simp), if_neg (by omega), List.drop_zero, tok_letter hc]
      have hd : (c :: 32 :: names c n).drop (0 + 1) = 32 :: names c n := rfl
      simp only [hd]
      rw [lex_names hc n _ _ _ (by omega) (by omega)]
      by_cases h2 : n + 1 ≤ 1500
      · rw [if_pos (by omega), if_pos h2]; rfl
      · rw [if_neg (by omega), if_neg h2]
theorem law9_ac (many letter : Nat) (hm : many ≤ 65535) (hl : letter ≤ 255) (σ : St) (G : Glob) (hG : G 0 = some (.agg (symsP.map .str))) (R : A → St → Prop) (h : R (db true) σ) : AC Tryd.prog G 9 [.d (.int .u16 many), .d (.int .u8 letter)] σ R := by
  refine ac_enter mixed Tryd.func9 rfl Tryd.ntmps9 (by simp only [facts]) fun hbd => ?_
  simp only [List.length_cons, List.length_nil, Nat.reduceAdd, Nat.reduceSub, List.replicate_succ, List.replicate_zero, List.cons_append, List.nil_append]
  simp only [go_sem, facts]
  refine ac' (head_ac _ _ hG _ ?_)
  have w1 : IntKind.i64.wrap (many : Int) = (many : Int) := wrap64_id _ (by omega) (by omega)
  have tm : Int.tmod (many : Int) 2101 = ((many % 2101 : Nat) : Int) := rfl
  simp only [go_sem, facts, w1, tm]
  refine ⟨by omega, ?_⟩
  have hn : many % 2101 < 2101 := Nat.mod_lt _ (by omega)
  generalize many % 2101 = n at hn ⊢
  obtain ⟨c, hc, hcl⟩ : ∃ c : UInt8, IntKind.u8.wrap (97 + Int.tmod (letter : Int) 26) = (c.toNat : Int) ∧ letterB c = true := by
    have h26 : letter % 26 < 26 := Nat.mod_lt _ (by omega)
    refine ⟨UInt8.ofNat (97 + letter % 26), ?_, ?_⟩
    · rw [show Int.tmod (letter : Int) 26 = ((letter % 26 : Nat) : Int) from rfl, IntKind.wrap_u8]
      simp
    · simp only [letterB, UInt8.toNat_ofNat']
      simp; omega
  refine aw_loop (fun m fr st => ∃ j : Nat, j ≤ n ∧ m = n - j ∧ fr = [.any, .d (.int .u8 letter), .any, .any, .any, db true, dn n, .rs σ.length 1 0 (2 * j) (some 5), dn j, .any, .any, .any, .any, .any, .any, .any, .any, .any, .any, .any, .any, .any, .any, .any, .any, .any, .any, .any, .any, .any, .any, .any, .any, .any, .any, .any, .any, .any, .any, .any, .any, .any, .any, .any, .any, .any, .any, .any, .any, .any, .any, .any, .any, .any, .any, .any, .any, .any, .any, .any, .any, .any, .any, .any, .any, .any, .any, .any, .any, .any, .any, .any, .any, .any, .any, .any, .any, .any, .any, .any, .any, .any] ∧
    st = σ ++ [some (Ob.cells ((names c j).map fun c => .d (.int .u8 (c.toNat : Int))))]) n _
    ⟨_, _, (Weak.mask [1, 5, 6, 7, 8]).trans (Weak.empty 7 1 (some 5) rfl), 0, by omega, rfl, by simp only [maskN]; rfl, rfl⟩ ?_
  rintro m fr st ⟨j, hj, hm', rfl, rfl⟩
  have w2 : IntKind.i64.wrap ((j : Int) + 1) = ((j + 1 : Nat) : Int) := by rw [wrap64_id _ (by omega) (by omega)]; rfl
  simp only [go_sem, facts, hc, w2, Tryd.results9]
  have hnl : (List.map (fun c => A.d (D.int IntKind.u8 (c.toNat : Int))) (names c j)).length = 2 * j := by rw [List.length_map, names_len]
  refine ⟨fun hlt => ?_, fun hge => ?_⟩
  · have hlt : j < n := by simpa using hlt
    refine ⟨by omega, by omega, ⟨by rw [hnl]; omega, by simp only [maxLen]; omega, by omega⟩, ?_⟩
    refine Wk.keep [1, 5, 6, 7, 8] [2] (by decide) (Nat.le_refl _) hbd ⟨n - (j + 1), by omega, j + 1, hlt, rfl, ?_, ?_⟩
    · simp only [go_sem]; rfl
    · simp only [go_sem, names_snoc, List.map_append, List.map_cons, List.map_nil]; rfl
  · have hj' : j = n := by simp at hge; omega
    subst hj'
    rw [List.take_of_length_le (by rw [hnl]; exact Nat.le_refl _), bytesA_map]
    have hr := lexS_names (syms := symsP) hcl j
    simp only [go_sem]
    refine ⟨by rw [hnl]; exact Nat.le_refl _, ?_⟩
    refine ac' (plex_ac _ _ hr _ _ hG _ ?_)
    have z0 : (((0 : Nat) : Int) == 0) = true := rfl
    have z2 : (((2 : Nat) : Int) == 2) = true := rfl
    by_cases h4 : 4000 < 2 * j
    · rw [if_pos h4]
      have hd : decide ((4000 : Int) < ((2 * j : Nat) : Int)) = true := by simp; omega
      simp only [resD, toksD, go_sem, facts, Tryd.results9, List.map_nil, z0, z2, hd]
      exact ret_d hbd h
    · rw [if_neg h4]
      have hd : decide ((4000 : Int) < ((2 * j : Nat) : Int)) = false := by simp; omega
      by_cases h5 : j ≤ 1500
      · rw [if_pos h5]
        have hd2 : decide ((1500 : Int) < (j : Int)) = false := by simp; omega
        simp only [resD, toksD, go_sem, facts, Tryd.results9, z0, z2, hd, hd2, List.length_map]
        have e : (((match j with | 0 => [] | n + 1 => (⟨1, [c], 0⟩ : Tok) :: tks c 1 n).length : Nat) : Int) == (j : Int) := by
          match j with
          | 0 => rfl
          | n + 1 => simp [tks_len]
        rw [e]
        exact ret_d hbd h
      · rw [if_neg h5]
        have hd2 : decide ((1500 : Int) < (j : Int)) = true := by simp; omega
        have z3 : (((3000 : Nat) : Int) == 3000) = true := rfl
        simp only [resD, toksD, go_sem, facts, Tryd.results9, List.map_nil, z0, z2, z3, hd, hd2]
        exact ret_d hbd h
end Go.Proofs.YtaapoadjgfoieaaDoor
