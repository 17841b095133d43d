/- Plain laws on sources laid one behind the other. -/
import Derived.Test.YtaapoadjgfoieaaDoorP2
namespace Go.Proofs.YtaapoadjgfoieaaDoor
theorem head_ext (r t : List UInt8) (x : UInt8) (hx : x ≠ 47) : ((r ++ x :: t).head? == some 47) = (r.head? == some 47) := by
  cases r with
  | nil => simp [hx]
  | cons c r => simp
theorem sk_ext : ∀ (r : List UInt8) (b : Bool) (t : List UInt8), sk b (r ++ 10 :: t) = if sk b r = r.length then r.length + 1 + sk false t else sk b r
  | [], true, t => by rw [List.nil_append, sk_t]; simp [sk]; rfl
  | [], false, t => by
    have h : whiteB 10 = true := by decide
    rw [List.nil_append, sk_f]; simp [sk, h]
  | c :: r, true, t => by
    rw [List.cons_append, sk_t, sk_t, sk_ext r (lineB c) t]
    by_cases h : sk (lineB c) r = r.length
    · rw [if_pos h, if_pos (by simp; omega)]; simp; omega
    · rw [if_neg h, if_neg (by simp; omega)]
  | c :: r, false, t => by
    rw [List.cons_append, sk_f, sk_f, head_ext r t 10 (by decide), sk_ext r true t, sk_ext r false t]
    cases (c == 47 && r.head? == some 47) with
    | true =>
      rw [if_pos rfl, if_pos rfl]
      by_cases h : sk true r = r.length
      · rw [if_pos h, if_pos (by simp; omega)]; simp; omega
      · rw [if_neg h, if_neg (by simp; omega)]
    | false =>
      rw [if_neg Bool.false_ne_true, if_neg Bool.false_ne_true]
      cases whiteB c with
      | true =>
        rw [if_pos rfl, if_pos rfl]
        by_cases h : sk false r = r.length
        · rw [if_pos h, if_pos (by simp; omega)]; simp; omega
        · rw [if_neg h, if_neg (by simp; omega)]
      | false =>
        rw [if_neg Bool.false_ne_true, if_neg Bool.false_ne_true, if_neg (by simp)]
theorem run_ext {q : UInt8 → Bool} {x : UInt8} (hx : q x = false) : ∀ (r t : List UInt8), runL q (r ++ x :: t) = runL q r
  | [], t => by simp [runL, hx]
  | c :: r, t => by rw [List.cons_append, runL, runL, run_ext hx r t]
theorem pre_ext {x : UInt8} {y : List UInt8} (hx : x ∉ y) (r t : List UInt8) : pre y (r ++ x :: t) = pre y r := by
  unfold pre
  rcases Nat.lt_or_ge r.length y.length with h | h
  · have h1 : ((r ++ x :: t).take y.length == y) = false := by
      rw [beq_eq_false_iff_ne]
      intro e
      refine hx ?_
      rw [← e]
      refine List.mem_iff_getElem?.2 ⟨r.length, ?_⟩
      rw [List.getElem?_take_of_lt h, List.getElem?_append_right (Nat.le_refl _), Nat.sub_self]; rfl
    have h2 : (r.take y.length == y) = false := by
      rw [beq_eq_false_iff_ne]
      intro e
      have := congrArg List.length e
      rw [List.length_take] at this; omega
    rw [h1, h2]
  · rw [List.take_append_of_le_length h]
theorem symL_ext {x : UInt8} : ∀ {syms : List (List UInt8)} (_ : ∀ y ∈ syms, x ∉ y) (r t : List UInt8), symL syms (r ++ x :: t) = symL syms r
  | [], _, _, _ => rfl
  | y :: ys, hx, r, t => by
    rw [symL, symL, pre_ext (hx y (by simp)), symL_ext (fun z hz => hx z (by simp [hz]))]
theorem tok_ext {syms : List (List UInt8)} {x : UInt8} (hw : wordB x = false) (hx : ∀ y ∈ syms, x ∉ y) {r : List UInt8} {k n : Nat} (h : tokL syms r = some (k, n)) (t : List UInt8) : tokL syms (r ++ x :: t) = some (k, n) := by
  have hd : digitB x = false := by
    unfold wordB at hw
    cases hd : digitB x with
    | false => rfl
    | true => rw [hd] at hw; simp at hw
  match r with
  | [] => simp [tokL] at h
  | c :: r' =>
    rw [tokL_eq (List.cons_append ..)]
    rw [tokL_eq rfl] at h
    rw [run_ext hw, run_ext hd, symL_ext hx]
    split at h
    · rename_i hl; rw [if_pos hl]; exact h
    · rename_i hl
      rw [if_neg hl]
      split at h
      · rename_i hdc
        rw [if_pos hdc]
        split at h
        · cases h
        · rename_i h9
          rw [if_neg h9]
          split at h
          · cases h
          · rename_i hn
            rw [if_neg]
            · exact h
            · rintro ⟨h1, h2⟩
              have hle := runL_le digitB (c :: r')
              rcases Nat.lt_or_ge (runL digitB (c :: r')) (c :: r').length with hlt | hge
              · refine hn ⟨hlt, ?_⟩
                rw [← h2]
                simp only [List.getD]
                rw [List.getElem?_append_left hlt]
              · have e : runL digitB (c :: r') = (c :: r').length := by omega
                rw [e] at h2
                simp only [List.getD] at h2
                rw [List.getElem?_append_right (Nat.le_refl _), Nat.sub_self] at h2
                simp only [List.getElem?_cons_zero, Option.getD_some] at h2
                rw [hw] at h2; cases h2
      · rename_i hdc
        rw [if_neg hdc]; exact h
theorem lexL_concat {syms : List (List UInt8)} (hx : ∀ y ∈ syms, (10 : UInt8) ∉ y) : ∀ (f : Nat) (a : List UInt8) (pos k : Nat) (ts : List Tok), lexL syms f a pos k = .ok ts → a.length < f → ∀ (t : List UInt8) (f2 f3 : Nat), a.length + 1 + t.length < f2 → t.length < f3 →
    lexL syms f2 (a ++ 10 :: t) pos k = cont ts (lexL syms f3 t (pos + a.length + 1) (k + ts.length))
  | 0, _, _, _, _, _, h, _, _, _, _, _ => by omega
  | f + 1, a, pos, k, ts, h, hf, t, f2, f3, h2, h3 => by
    obtain ⟨f2, rfl⟩ : ∃ g, f2 = g + 1 := ⟨f2 - 1, by omega⟩
    have hle := sk_le a false
    rw [lexL] at h
    split at h
    · rename_i hg
      simp only [Except.ok.injEq] at h; subst h
      obtain ⟨f3, rfl⟩ : ∃ g, f3 = g + 1 := ⟨f3 - 1, by omega⟩
      have hle2 := sk_le t false
      have hd : ∀ m, (a ++ 10 :: t).drop (a.length + 1 + m) = t.drop m := fun m => by
        rw [List.drop_append, List.drop_of_length_le (by omega), List.nil_append, show a.length + 1 + m - a.length = m + 1 by omega, List.drop_succ_cons]
      rw [lexL, lexL, sk_ext, if_pos hg]
      simp only [List.length_append, List.length_cons, List.length_nil, Nat.add_zero]
      by_cases h1 : sk false t = t.length
      · rw [if_pos (by omega), if_pos h1]; rfl
      · rw [if_neg (by omega), if_neg h1]
        by_cases hk : k = 1500
        · rw [if_pos hk, if_pos hk]
          simp only [cont, Except.error.injEq, Prod.mk.injEq, true_and]; omega
        · rw [if_neg hk, if_neg hk, hd]
          cases htk : tokL syms (t.drop (sk false t)) with
          | none => simp only [cont, Except.error.injEq, Prod.mk.injEq, true_and]; omega
          | some q =>
            obtain ⟨kind, n⟩ := q
            have hn := tok_len htk
            rw [List.length_drop] at hn
            have e1 : (a ++ 10 :: t).drop (a.length + 1 + sk false t + n) = t.drop (sk false t + n) := by rw [Nat.add_assoc, hd]
            have e2 : pos + (a.length + 1 + sk false t) + n = pos + a.length + 1 + sk false t + n := by omega
            have e3 : pos + (a.length + 1 + sk false t) = pos + a.length + 1 + sk false t := by omega
            simp only [e1, e2, e3]
            rw [lexL_fuel f2 f3 _ _ _ (by rw [List.length_drop]; omega) (by rw [List.length_drop]; omega)]
            cases lexL syms f3 (t.drop (sk false t + n)) (pos + a.length + 1 + sk false t + n) (k + 1) <;> rfl
    · rename_i hg
      split at h
      · cases h
      · rename_i hk
        split at h
        · cases h
        · rename_i kind n htk
          have hn := tok_len htk
          rw [List.length_drop] at hn
          split at h
          · cases h
          · rename_i r hr
            simp only [Except.ok.injEq] at h; subst h
            rw [lexL, sk_ext, if_neg hg]
            have e1 : (a ++ 10 :: t).drop (sk false a) = a.drop (sk false a) ++ 10 :: t := List.drop_append_of_le_length (by omega)
            have e2 : (a ++ 10 :: t).drop (sk false a + n) = a.drop (sk false a + n) ++ 10 :: t := List.drop_append_of_le_length (by omega)
            rw [if_neg (by simp; omega), if_neg hk, e1, tok_ext (by decide) hx htk]
            simp only [e2]
            rw [lexL_concat hx f _ _ _ _ hr (by rw [List.length_drop]; omega) t f2 f3 (by rw [List.length_drop]; omega) h3, List.take_append_of_le_length (by rw [List.length_drop]; omega)]
            rw [show pos + sk false a + n + (a.drop (sk false a + n)).length + 1 = pos + a.length + 1 by rw [List.length_drop]; omega]
            simp only [List.length_cons]
            rw [show k + 1 + r.length = k + (r.length + 1) by omega]
            cases lexL syms f3 t (pos + a.length + 1) (k + (r.length + 1)) <;> rfl
def shiftT (n : Nat) (t : Tok) : Tok := ⟨t.kind, t.text, t.pos + n⟩
/-- Another place and another count to begin with. -/
def Shifted (pos c k : Nat) (R R' : Except (Nat × Nat) (List Tok)) : Prop := (∃ q, pos + c ≤ q ∧ R' = .error (2, q) ∧ ∀ ts, R = .ok ts → 1500 < k + ts.length) ∨
  (match R with
  | .ok ts => R' = .ok (ts.map (shiftT c)) ∧ k + ts.length ≤ 1500
  | .error (e, p) => e = 10 ∧ R' = .error (10, p + c))
theorem lexL_shift {syms : List (List UInt8)} (c d : Nat) : ∀ (f : Nat) (b : List UInt8) (pos k : Nat), k + d ≤ 1500 → Shifted pos c (k + d) (lexL syms f b pos k) (lexL syms f b (pos + c) (k + d))
  | 0, b, pos, k, hk => .inr ⟨rfl, by simpa using hk⟩
  | f + 1, b, pos, k, hk => by
    rw [lexL, lexL]
    by_cases h1 : sk false b = b.length
    · rw [if_pos h1, if_pos h1]; exact .inr ⟨rfl, by simpa using hk⟩
    · rw [if_neg h1, if_neg h1]
      by_cases h2 : k + d = 1500
      · rw [if_pos h2]
        refine .inl ⟨pos + c + sk false b, by omega, rfl, fun ts h => ?_⟩
        split at h
        · cases h
        · split at h
          · cases h
          · split at h
            · cases h
            · simp only [Except.ok.injEq] at h; subst h
              simp only [List.length_cons]; omega
      · rw [if_neg h2, if_neg (by omega)]
        cases htk : tokL syms (b.drop (sk false b)) with
        | none => exact .inr ⟨rfl, by simp only [Except.error.injEq, Prod.mk.injEq, true_and]; omega⟩
        | some q =>
          obtain ⟨kind, n⟩ := q
          have ih := lexL_shift (syms := syms) c d f (b.drop (sk false b + n)) (pos + sk false b + n) (k + 1) (by omega)
          have e1 : pos + sk false b + n + c = pos + c + sk false b + n := by omega
          have e2 : k + 1 + d = k + d + 1 := by omega
          rw [e1, e2] at ih
          simp only
          rcases ih with ⟨q, i1, i2, i3⟩ | ih
          · rw [i2]
            refine .inl ⟨q, by omega, rfl, fun ts h => ?_⟩
            cases hR : lexL syms f (b.drop (sk false b + n)) (pos + sk false b + n) (k + 1) with
            | error e => rw [hR] at h; cases h
            | ok r =>
              rw [hR] at h
              simp only [Except.ok.injEq] at h; subst h
              have := i3 r hR
              simp only [List.length_cons]; omega
          · cases hR : lexL syms f (b.drop (sk false b + n)) (pos + sk false b + n) (k + 1) with
            | error e =>
              obtain ⟨e, p⟩ := e
              rw [hR] at ih
              obtain ⟨rfl, i2⟩ := ih
              rw [i2]
              exact .inr ⟨rfl, rfl⟩
            | ok r =>
              rw [hR] at ih
              obtain ⟨i1, i2⟩ := ih
              rw [i1]
              refine .inr ⟨?_, by simp only [List.length_cons]; omega⟩
              simp only [List.map_cons, shiftT, Except.ok.injEq, List.cons.injEq, Tok.mk.injEq, true_and, and_true]; omega
end Go.Proofs.YtaapoadjgfoieaaDoor
