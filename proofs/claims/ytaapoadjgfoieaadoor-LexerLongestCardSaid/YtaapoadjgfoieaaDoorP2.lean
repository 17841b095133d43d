/- Plain laws on the lexer's plain functions. -/
import Derived.Test.YtaapoadjgfoieaaDoorP1
namespace Go.Proofs.YtaapoadjgfoieaaDoor
theorem run_take {q : UInt8 → Bool} : ∀ (l : List UInt8) (m : Nat), runL q l ≤ m → runL q (l.take m) = runL q l
  | [], m, _ => by simp
  | c :: t, 0, h => by
    rw [runL] at h ⊢
    split at h
    · omega
    · rename_i hc; simp [runL, hc]
  | c :: t, m + 1, h => by
    rw [List.take_succ_cons, runL, runL]
    rw [runL] at h
    split
    · rename_i hc
      rw [if_pos hc] at h
      rw [run_take t m (by omega)]
    · rfl
theorem pre_take {x l : List UInt8} {m : Nat} (h : x.length ≤ m) : pre x (l.take m) = pre x l := by
  unfold pre
  rw [List.take_take, Nat.min_eq_left h]
theorem pre_take_of {x l : List UInt8} {m : Nat} (h : pre x (l.take m) = true) : pre x l = true := by
  have := pre_len h
  rw [List.length_take] at this
  rwa [pre_take (by omega)] at h
theorem symL_take : ∀ (syms : List (List UInt8)) (l : List UInt8) (m : Nat), symL syms l ≠ [] → (symL syms l).length ≤ m → symL syms (l.take m) = symL syms l
  | [], l, m, h, _ => rfl
  | x :: r, l, m, h, hm => by
    unfold symL at h hm ⊢
    cases hx : pre x l with
    | true =>
      rw [hx, if_pos rfl] at hm
      rw [if_pos rfl, pre_take hm, hx, if_pos rfl]
    | false =>
      rw [hx, if_neg Bool.false_ne_true] at h hm
      rw [if_neg Bool.false_ne_true]
      have : pre x (l.take m) = false := by
        cases hp : pre x (l.take m) with
        | false => rfl
        | true => rw [pre_take_of hp] at hx; cases hx
      rw [this, if_neg Bool.false_ne_true]
      exact symL_take r l m h hm
theorem tok_take {syms : List (List UInt8)} {l : List UInt8} {k n m : Nat} (h : tokL syms l = some (k, n)) (hm : n ≤ m) : tokL syms (l.take m) = some (k, n) := by
  have hl := tok_len h
  match l with
  | [] => simp [tokL] at h
  | c :: t =>
    have hm0 : m = (m - 1) + 1 := by omega
    have hc : (c :: t).take m = c :: t.take (m - 1) := by rw [hm0, List.take_succ_cons]; simp
    rw [tokL_eq hc]
    rw [tokL_eq rfl] at h
    split at h
    · rename_i hlet
      rw [if_pos hlet]
      split at h
      · rename_i h16
        simp only [Option.some.injEq, Prod.mk.injEq] at h
        obtain ⟨rfl, rfl⟩ := h
        rw [run_take _ _ hm, if_pos h16]
      · cases h
    · rename_i hlet
      rw [if_neg hlet]
      split at h
      · rename_i hd
        rw [if_pos hd]
        split at h
        · cases h
        · rename_i h9
          split at h
          · cases h
          · rename_i hw
            simp only [Option.some.injEq, Prod.mk.injEq] at h
            obtain ⟨rfl, rfl⟩ := h
            rw [run_take _ _ hm, if_neg h9, if_neg]
            rintro ⟨h1, h2⟩
            refine hw ⟨?_, ?_⟩
            · rw [List.length_take] at h1; omega
            · rw [← h2]
              rw [List.length_take] at h1
              simp only [List.getD]
              rw [List.getElem?_take_of_lt (by omega)]
      · rename_i hd
        rw [if_neg hd]
        split at h
        · cases h
        · rename_i hne
          simp only [Option.some.injEq, Prod.mk.injEq] at h
          obtain ⟨rfl, rfl⟩ := h
          rw [symL_take syms _ m hne hm, if_neg hne]
theorem sk_f (c : UInt8) (t : List UInt8) : sk false (c :: t) = if c == 47 && t.head? == some 47 then 1 + sk true t else if whiteB c then 1 + sk false t else 0 := by rw [sk]
theorem sk_t (c : UInt8) (t : List UInt8) : sk true (c :: t) = 1 + sk (lineB c) t := by rw [sk]
theorem sk_take : ∀ (l : List UInt8) (b : Bool) (m : Nat), sk b l ≤ m → sk b (l.take m) = sk b l
  | [], b, m, _ => by simp
  | c :: t, true, m, h => by
    rw [sk] at h ⊢
    have hm0 : m = (m - 1) + 1 := by omega
    rw [hm0, List.take_succ_cons, sk, sk_take t (lineB c) (m - 1) (by omega)]
  | c :: t, false, m, h => by
    rw [sk_f] at h ⊢
    cases hs : (c == 47 && t.head? == some 47) with
    | true =>
      rw [hs, if_pos rfl] at h
      rw [if_pos rfl]
      obtain ⟨t', rfl⟩ : ∃ t', t = 47 :: t' := by
        simp only [Bool.and_eq_true, beq_iff_eq] at hs
        cases t with
        | nil => simp at hs
        | cons d t' => simp at hs; exact ⟨t', by rw [hs.2]⟩
      have h47 : 1 ≤ sk true (47 :: t') := by rw [sk_t]; omega
      obtain ⟨m, rfl⟩ : ∃ m', m = m' + 1 + 1 := ⟨m - 2, by omega⟩
      have hs' : (c == 47 && ((47 :: t').take (m + 1)).head? == some 47) = true := by
        rw [List.take_succ_cons]; simpa using hs
      rw [List.take_succ_cons, sk_f, hs', if_pos rfl, sk_take (47 :: t') true (m + 1) (by omega)]
    | false =>
      rw [hs, if_neg Bool.false_ne_true] at h
      rw [if_neg Bool.false_ne_true]
      have hs' : ∀ j, (c == 47 && (t.take j).head? == some 47) = false := fun j => by
        cases hc : (c == 47) with
        | false => rfl
        | true =>
          rw [hc, Bool.true_and] at hs
          rw [Bool.true_and]
          cases j with
          | zero => simp
          | succ j => cases t with
            | nil => simp
            | cons d t' => simpa using hs
      cases hw : whiteB c with
      | true =>
        rw [hw, if_pos rfl] at h
        rw [if_pos rfl]
        obtain ⟨m, rfl⟩ : ∃ m', m = m' + 1 := ⟨m - 1, by omega⟩
        rw [List.take_succ_cons, sk_f, hs', if_neg Bool.false_ne_true, if_pos hw, sk_take t false m (by omega)]
      | false =>
        rw [if_neg Bool.false_ne_true]
        cases m with
        | zero => rfl
        | succ m => rw [List.take_succ_cons, sk_f, hs', if_neg Bool.false_ne_true, hw, if_neg Bool.false_ne_true]
theorem sk_again : ∀ (l : List UInt8) (b : Bool), sk false (l.drop (sk b l)) = 0
  | [], b => by cases b <;> rfl
  | c :: t, true => by
    rw [sk, Nat.add_comm, List.drop_succ_cons]
    exact sk_again t (lineB c)
  | c :: t, false => by
    have e := sk_f c t
    rw [e]
    split
    · rw [Nat.add_comm, List.drop_succ_cons]; exact sk_again t true
    · split
      · rw [Nat.add_comm, List.drop_succ_cons]; exact sk_again t false
      · rename_i h1 h2
        rw [List.drop_zero, e, if_neg h1, if_neg h2]
/-- An error of its own has its place: before it all is well, and it stands at the head of what is behind. -/
theorem lexL_first {syms : List (List UInt8)} : ∀ (f : Nat) (l : List UInt8) (pos k q : Nat), lexL syms f l pos k = .error (10, q) →
    ∃ p, q = pos + p ∧ p < l.length ∧ (∃ ts, lexL syms f (l.take p) pos k = .ok ts) ∧ sk false (l.drop p) = 0 ∧ tokL syms (l.drop p) = none
  | 0, l, pos, k, q, h => by simp [lexL] at h
  | f + 1, l, pos, k, q, h => by
    have hle := sk_le l false
    rw [lexL] at h
    split at h
    · cases h
    · rename_i hne
      split at h
      · simp at h
      · rename_i hk
        split at h
        · rename_i htk
          simp only [Except.error.injEq, Prod.mk.injEq, true_and] at h
          refine ⟨sk false l, h.symm, by omega, ⟨[], ?_⟩, sk_again l false, htk⟩
          rw [lexL, sk_take l false _ (Nat.le_refl _), if_pos (by rw [List.length_take]; omega)]
        · rename_i kind n htk
          split at h
          · rename_i e he
            simp only [Except.error.injEq] at h
            subst h
            have hn := tok_len htk
            rw [List.length_drop] at hn
            obtain ⟨p, h1, h2, ⟨ts, h3⟩, h4, h5⟩ := lexL_first f _ _ _ _ he
            rw [List.length_drop] at h2
            refine ⟨sk false l + n + p, by omega, by omega, ⟨⟨kind, (l.drop (sk false l)).take n, pos + sk false l⟩ :: ts, ?_⟩, ?_, ?_⟩
            · rw [lexL, sk_take l false _ (by omega), if_neg (by rw [List.length_take]; omega), if_neg hk]
              have e1 : (l.take (sk false l + n + p)).drop (sk false l) = (l.drop (sk false l)).take (n + p) := by rw [List.drop_take]; congr 1; omega
              have e2 : (l.take (sk false l + n + p)).drop (sk false l + n) = (l.drop (sk false l + n)).take p := by rw [List.drop_take]; congr 1; omega
              rw [e1, tok_take htk (by omega)]
              simp only [e2, h3]
              rw [List.take_take, Nat.min_eq_left (by omega)]
            · rw [List.drop_drop] at h4; rw [show sk false l + n + p = sk false l + n + p from rfl]; exact h4
            · rw [List.drop_drop] at h5; exact h5
          · cases h
theorem lexL_fuel {syms : List (List UInt8)} : ∀ (f f' : Nat) (l : List UInt8) (pos k : Nat), l.length < f → l.length < f' → lexL syms f l pos k = lexL syms f' l pos k
  | 0, _, _, _, _, h, _ => by omega
  | _ + 1, 0, _, _, _, _, h => by omega
  | f + 1, f' + 1, l, pos, k, h, h' => by
    have hle := sk_le l false
    rw [lexL, lexL]
    cases htk : tokL syms (l.drop (sk false l)) with
    | none => rfl
    | some q =>
      obtain ⟨kind, n⟩ := q
      have hn := tok_len htk
      rw [List.length_drop] at hn
      have := lexL_fuel (syms := syms) f f' (l.drop (sk false l + n)) (pos + sk false l + n) (k + 1) (by rw [List.length_drop]; omega) (by rw [List.length_drop]; omega)
      simp only [this]
end Go.Proofs.YtaapoadjgfoieaaDoor
