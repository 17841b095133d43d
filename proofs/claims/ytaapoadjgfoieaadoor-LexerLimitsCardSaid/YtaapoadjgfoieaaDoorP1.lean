/- The lexer's plain functions. -/
namespace Go.Proofs.YtaapoadjgfoieaaDoor
/-- How many bytes at the head satisfy q. -/
def runL (q : UInt8 → Bool) : List UInt8 → Nat
  | [] => 0
  | c :: t => if q c then runL q t + 1 else 0
def letterB (c : UInt8) : Bool := decide (65 ≤ ((c.toNat : Nat) : Int)) && decide (((c.toNat : Nat) : Int) ≤ 90) || decide (97 ≤ ((c.toNat : Nat) : Int)) && decide (((c.toNat : Nat) : Int) ≤ 122)
def digitB (c : UInt8) : Bool := decide (48 ≤ ((c.toNat : Nat) : Int)) && decide (((c.toNat : Nat) : Int) ≤ 57)
def whiteB (c : UInt8) : Bool := ((c.toNat : Nat) : Int) == 32 || ((c.toNat : Nat) : Int) == 9 || ((c.toNat : Nat) : Int) == 10 || ((c.toNat : Nat) : Int) == 13
def wordB (c : UInt8) : Bool := letterB c || digitB c || ((c.toNat : Nat) : Int) == 95
def lineB (c : UInt8) : Bool := ((c.toNat : Nat) : Int) != 10
theorem runL_le (q : UInt8 → Bool) : ∀ (l : List UInt8), runL q l ≤ l.length
  | [] => Nat.le_refl _
  | c :: t => by
    unfold runL
    split
    · have := runL_le q t; simp; omega
    · simp
theorem drop_cons {s : List UInt8} {j : Nat} (h : j < s.length) : s.drop j = s.getD j 0 :: s.drop (j + 1) := by
  rw [List.drop_eq_getElem_cons h]; simp [List.getD, h]
theorem run_step {q : UInt8 → Bool} {s : List UInt8} {j : Nat} (h : j < s.length) (hq : q (s.getD j 0) = true) : j + runL q (s.drop j) = j + 1 + runL q (s.drop (j + 1)) := by
  rw [drop_cons h, runL, if_pos hq]; omega
theorem run_stop {q : UInt8 → Bool} {s : List UInt8} {j : Nat} (h : j < s.length → q (s.getD j 0) = false) : j + runL q (s.drop j) = j := by
  by_cases hj : j < s.length
  · rw [drop_cons hj, runL, if_neg (by simp only [h hj]; exact Bool.noConfusion)]; rfl
  · rw [List.drop_of_length_le (by omega)]; rfl
theorem byte_eq {c : UInt8} {n : Nat} (hn : n < 256) : ((((c.toNat : Nat) : Int) == (n : Int)) = true) ↔ c = UInt8.ofNat n := by
  simp only [beq_iff_eq]
  constructor
  · intro h
    have h : c.toNat = n := by omega
    apply UInt8.toNat_inj.1
    rw [h]; simp; omega
  · rintro rfl; simp; omega

def pre (x l : List UInt8) : Bool := l.take x.length == x
/-- The length of the gap at the head; b: within a comment. -/
def sk : Bool → List UInt8 → Nat
  | _, [] => 0
  | true, c :: t => 1 + sk (lineB c) t
  | false, c :: t => if c == 47 && t.head? == some 47 then 1 + sk true t else if whiteB c then 1 + sk false t else 0
theorem sk_le : ∀ (l : List UInt8) (b : Bool), sk b l ≤ l.length
  | [], b => by cases b <;> simp [sk]
  | c :: t, true => by rw [sk]; have := sk_le t (lineB c); simp; omega
  | c :: t, false => by
    have h1 := sk_le t true
    have h2 := sk_le t false
    rw [sk]
    split
    · simp; omega
    · split
      · simp; omega
      · simp
theorem line_white {c : UInt8} (h : lineB c = false) : whiteB c = true ∧ (c == 47) = false := by
  have : c = 10 := by
    have := (byte_eq (c := c) (n := 10) (by decide)).1 (by simpa [lineB, bne] using h)
    simpa using this
  subst this
  exact ⟨by decide, by decide⟩
theorem white_slash {c : UInt8} (h : whiteB c = true) : (c == 47) = false := by
  cases hc : c == 47 with
  | false => rfl
  | true =>
    have : c = 47 := by simpa using hc
    subst this
    exact absurd h (by decide)
theorem sk_true : ∀ (l : List UInt8), sk true l = runL lineB l + sk false (l.drop (runL lineB l))
  | [] => rfl
  | c :: t => by
    cases hc : lineB c with
    | true =>
      rw [sk, runL, hc, if_pos rfl, sk_true t, List.drop_succ_cons]; omega
    | false =>
      have := line_white hc
      rw [sk, runL, hc, if_neg Bool.false_ne_true, List.drop_zero, sk, this.2, Bool.false_and, if_neg Bool.false_ne_true, if_pos this.1]; omega
theorem sk_white : ∀ (l : List UInt8), sk false l = runL whiteB l + sk false (l.drop (runL whiteB l))
  | [] => rfl
  | c :: t => by
    cases hc : whiteB c with
    | true =>
      rw [sk, white_slash hc, Bool.false_and, if_neg Bool.false_ne_true, if_pos hc, runL, if_pos hc, sk_white t, List.drop_succ_cons]; omega
    | false => rw [runL, hc, if_neg Bool.false_ne_true, List.drop_zero]; omega
theorem pre_slash {l : List UInt8} : pre [47, 47] l = true ↔ ∃ t, l = 47 :: 47 :: t := by
  match l with
  | [] => simp [pre]
  | [c] => simp [pre]
  | c :: d :: t => simp [pre]
theorem sk_note {l : List UInt8} (h : pre [47, 47] l = true) : sk false l = runL lineB l + sk false (l.drop (runL lineB l)) := by
  obtain ⟨t, rfl⟩ := pre_slash.1 h
  have h1 : lineB 47 = true := by decide
  rw [← sk_true]; simp [sk, h1]
theorem sk_stop {l : List UInt8} (h : runL whiteB l = 0) (h1 : pre [47, 47] l = false) : sk false l = 0 := by
  match l with
  | [] => rfl
  | c :: t =>
    have hw : whiteB c = false := by
      rw [runL] at h
      split at h
      · omega
      · rename_i hc; simpa using hc
    rw [sk, hw, if_neg, if_neg Bool.false_ne_true]
    intro hc
    match t with
    | [] => simp at hc
    | d :: t =>
      simp at hc
      obtain ⟨rfl, rfl⟩ := hc
      simp [pre] at h1
/-- One round of the program's gap. -/
def gapStep (l : List UInt8) : Nat := if pre [47, 47] (l.drop (runL whiteB l)) then runL whiteB l + runL lineB (l.drop (runL whiteB l)) else runL whiteB l
theorem gap_step (l : List UInt8) : sk false l = gapStep l + sk false (l.drop (gapStep l)) := by
  unfold gapStep
  cases h : pre [47, 47] (l.drop (runL whiteB l)) with
  | true =>
    simp only [if_true]
    rw [sk_white l, sk_note h, List.drop_drop]; omega
  | false =>
    simp only [Bool.false_eq_true, if_false]
    exact sk_white l
theorem gap_stop {l : List UInt8} (h : gapStep l = 0) : sk false l = 0 := by
  unfold gapStep at h
  cases h1 : pre [47, 47] (l.drop (runL whiteB l)) with
  | true =>
    rw [h1, if_pos rfl] at h
    have hw : runL whiteB l = 0 := by omega
    rw [hw, List.drop_zero] at h1 h
    obtain ⟨t, rfl⟩ := pre_slash.1 h1
    rw [runL, if_pos (by decide)] at h
    omega
  | false =>
    rw [h1, if_neg Bool.false_ne_true] at h
    rw [h, List.drop_zero] at h1
    exact sk_stop h h1
def symL : List (List UInt8) → List UInt8 → List UInt8
  | [], _ => []
  | x :: r, l => if pre x l then x else symL r l
/-- The kind and the length of the token at the head. -/
def tokL (syms : List (List UInt8)) (l : List UInt8) : Option (Nat × Nat) := match l with
  | [] => none
  | c :: _ =>
    if letterB c then (if runL wordB l ≤ 16 then some (1, runL wordB l) else none)
    else if digitB c then
      (if 9 < runL digitB l ∨ (c = 48 ∧ 1 < runL digitB l) then none
      else if runL digitB l < l.length ∧ wordB (l.getD (runL digitB l) 0) = true then none
      else some (2, runL digitB l))
    else if symL syms l = [] then none else some (3, (symL syms l).length)
structure Tok where
  kind : Nat
  text : List UInt8
  pos : Nat
deriving DecidableEq
/-- All tokens, or the error and its place. -/
def lexL (syms : List (List UInt8)) : Nat → List UInt8 → Nat → Nat → Except (Nat × Nat) (List Tok)
  | 0, _, _, _ => .ok []
  | f + 1, l, pos, k =>
    let g := sk false l
    if g = l.length then .ok []
    else if k = 1500 then .error (2, pos + g)
    else match tokL syms (l.drop g) with
      | none => .error (10, pos + g)
      | some (kind, n) => match lexL syms f (l.drop (g + n)) (pos + g + n) (k + 1) with
        | .error e => .error e
        | .ok ts => .ok (⟨kind, (l.drop g).take n, pos + g⟩ :: ts)
end Go.Proofs.YtaapoadjgfoieaaDoor
namespace Go.Proofs.YtaapoadjgfoieaaDoor
theorem pre_len {x l : List UInt8} (h : pre x l = true) : x.length ≤ l.length := by
  simp only [pre, beq_iff_eq] at h
  have := congrArg List.length h
  simp at this; omega
theorem pre_and (x l : List UInt8) : (decide ((x.length : Int) ≤ (l.length : Int)) && List.take x.length l == x) = pre x l := by
  cases h : pre x l with
  | true => have := pre_len h; simp only [pre] at h; rw [h]; simp; omega
  | false => simp only [pre] at h; rw [h]; simp
end Go.Proofs.YtaapoadjgfoieaaDoor
namespace Go.Proofs.YtaapoadjgfoieaaDoor
theorem pre_of {x s : List UInt8} {n : Nat} (hl : x.length ≤ s.length - n) (h : ∀ k, k < x.length → s.getD (n + k) 0 = x.getD k 0) : pre x (s.drop n) = true := by
  simp only [pre, beq_iff_eq]
  apply List.ext_getElem
  · simp; omega
  · intro k h1 h2
    have := h k h2
    simp only [List.getElem_take, List.getElem_drop]
    simpa [List.getD, List.getElem?_eq_getElem (show n + k < s.length by omega), List.getElem?_eq_getElem h2] using this
theorem pre_no {x s : List UInt8} {n k : Nat} (hk : k < x.length) (h : s.getD (n + k) 0 ≠ x.getD k 0) : pre x (s.drop n) = false := by
  cases hp : pre x (s.drop n) with
  | false => rfl
  | true =>
    have hl := pre_len hp
    simp only [pre, beq_iff_eq] at hp
    refine absurd ?_ h
    have : ((s.drop n).take x.length)[k]? = x[k]? := by rw [hp]
    rw [List.getElem?_take_of_lt hk, List.getElem?_drop] at this
    simp only [List.getD, this]
theorem pre_short {x s : List UInt8} {n : Nat} (h : s.length - n < x.length) : pre x (s.drop n) = false := by
  cases hp : pre x (s.drop n) with
  | false => rfl
  | true => have := pre_len hp; simp at this; omega
theorem u8_ne {a b : UInt8} : ((((a.toNat : Nat) : Int) != ((b.toNat : Nat) : Int)) = true) ↔ a ≠ b := by
  simp only [bne_iff_ne, ne_eq, Int.natCast_inj, UInt8.toNat_inj]
end Go.Proofs.YtaapoadjgfoieaaDoor
namespace Go.Proofs.YtaapoadjgfoieaaDoor
theorem tokL_eq {syms : List (List UInt8)} {l t : List UInt8} {c : UInt8} (h : l = c :: t) : tokL syms l =
    if letterB c then (if runL wordB l ≤ 16 then some (1, runL wordB l) else none)
    else if digitB c then
      (if 9 < runL digitB l ∨ (c = 48 ∧ 1 < runL digitB l) then none
      else if runL digitB l < l.length ∧ wordB (l.getD (runL digitB l) 0) = true then none
      else some (2, runL digitB l))
    else if symL syms l = [] then none else some (3, (symL syms l).length) := by subst h; rfl
theorem symL_len {m : Nat} : ∀ {syms : List (List UInt8)} (_ : ∀ x ∈ syms, x.length ≤ m) (l : List UInt8), (symL syms l).length ≤ m
  | [], _, l => Nat.zero_le _
  | x :: r, h, l => by
    unfold symL
    split
    · exact h x (by simp)
    · exact symL_len (fun y hy => h y (by simp [hy])) l
theorem is48 {c : UInt8} : ((((c.toNat : Nat) : Int) == 48) = true) ↔ c = 48 := by
  have := byte_eq (c := c) (n := 48) (by decide)
  simpa using this
end Go.Proofs.YtaapoadjgfoieaaDoor
namespace Go.Proofs.YtaapoadjgfoieaaDoor
theorem symL_pre : ∀ (syms : List (List UInt8)) (l : List UInt8), symL syms l = [] ∨ pre (symL syms l) l = true
  | [], l => .inl rfl
  | x :: r, l => by
    unfold symL
    split
    · rename_i h; exact .inr h
    · exact symL_pre r l
theorem run_pos {q : UInt8 → Bool} {c : UInt8} {t : List UInt8} (h : q c = true) : 1 ≤ runL q (c :: t) := by
  rw [runL, if_pos h]; omega
theorem tok_len {syms : List (List UInt8)} {l : List UInt8} {k n : Nat} (h : tokL syms l = some (k, n)) : 1 ≤ n ∧ n ≤ l.length ∧ 1 ≤ k ∧ k ≤ 3 := by
  match l with
  | [] => simp [tokL] at h
  | c :: t =>
    rw [tokL_eq rfl] at h
    have h1 := runL_le wordB (c :: t)
    have h2 := runL_le digitB (c :: t)
    split at h
    · rename_i hl
      have : wordB c = true := by simp [wordB, hl]
      have := run_pos (t := t) this
      split at h
      · simp at h; omega
      · cases h
    · split at h
      · rename_i hd
        have := run_pos (t := t) hd
        split at h
        · cases h
        · split at h
          · cases h
          · simp at h; omega
      · split at h
        · cases h
        · rename_i hne
          simp only [Option.some.injEq, Prod.mk.injEq] at h
          rcases symL_pre syms (c :: t) with hs | hs
          · exact absurd hs hne
          · have := pre_len hs
            have : 1 ≤ (symL syms (c :: t)).length := by
              cases hx : symL syms (c :: t) with
              | nil => exact absurd hx hne
              | cons a b => simp
            omega
def cont (ts : List Tok) : Except (Nat × Nat) (List Tok) → Except (Nat × Nat) (List Tok)
  | .error e => .error e
  | .ok r => .ok (ts ++ r)
theorem lexL_step {syms : List (List UInt8)} {f pos k : Nat} {s : List UInt8} {ts : List Tok} {g : Nat} (hg : g = pos + sk false (s.drop pos)) (hp : pos ≤ s.length) :
    cont ts (lexL syms (f + 1) (s.drop pos) pos k) = if g = s.length then .ok ts else if k = 1500 then .error (2, g) else match tokL syms (s.drop g) with
      | none => .error (10, g)
      | some (kind, n) => cont (ts ++ [⟨kind, (s.drop g).take n, g⟩]) (lexL syms f (s.drop (g + n)) (g + n) (k + 1)) := by
  have hle := sk_le (s.drop pos) false
  simp only [List.length_drop] at hle
  subst hg
  rw [lexL]
  simp only [List.length_drop, List.drop_drop]
  by_cases h1 : sk false (s.drop pos) = s.length - pos
  · rw [if_pos h1, if_pos (by omega)]; simp [cont]
  · have h1' : ¬ (pos + sk false (s.drop pos) = s.length) := by omega
    rw [if_neg h1, if_neg h1']
    by_cases h2 : k = 1500
    · rw [if_pos h2, if_pos h2]; rfl
    · rw [if_neg h2, if_neg h2]
      cases htk : tokL syms (s.drop (pos + sk false (s.drop pos))) with
      | none => rfl
      | some q =>
        obtain ⟨kind, n⟩ := q
        simp only
        rw [show pos + (sk false (s.drop pos) + n) = pos + sk false (s.drop pos) + n by omega]
        cases lexL syms f (s.drop (pos + sk false (s.drop pos) + n)) (pos + sk false (s.drop pos) + n) (k + 1) with
        | error e => rfl
        | ok r => simp [cont]
end Go.Proofs.YtaapoadjgfoieaaDoor
namespace Go.Proofs.YtaapoadjgfoieaaDoor
theorem begins_eq {s x : List UInt8} {n : Nat} (hn : n ≤ s.length) : (decide (((n + x.length : Nat) : Int) ≤ (s.length : Int)) && List.drop n (List.take (n + x.length) s) == x) = pre x (s.drop n) := by
  rw [List.drop_take, Nat.add_sub_cancel_left]
  cases h : pre x (s.drop n) with
  | true =>
    have hl := pre_len h
    simp only [pre] at h
    rw [h]
    simp only [List.length_drop] at hl
    simp; omega
  | false => simp only [pre] at h; rw [h]; simp
theorem sk_same {l : List UInt8} (h : l = [] ∨ ∃ c t, l = c :: t ∧ lineB c = false) : sk true l = sk false l := by
  rcases h with rfl | ⟨c, t, rfl, hc⟩
  · rfl
  · have := line_white hc
    rw [sk, sk, hc, this.2, Bool.false_and, if_neg Bool.false_ne_true, if_pos this.1]
theorem sk_open {l : List UInt8} (h : pre [47, 47] l = true) : sk false l = sk true l := by rw [sk_note h, sk_true]
theorem sk_in {s : List UInt8} {j : Nat} (h : j < s.length) (hl : lineB (s.getD j 0) = true) : j + sk true (s.drop j) = j + 1 + sk true (s.drop (j + 1)) := by
  rw [drop_cons h, sk, hl]; omega
theorem sk_on {s : List UInt8} {j : Nat} (h : j < s.length) (hl : whiteB (s.getD j 0) = true) : j + sk false (s.drop j) = j + 1 + sk false (s.drop (j + 1)) := by
  rw [drop_cons h, sk, white_slash hl, Bool.false_and, if_neg Bool.false_ne_true, if_pos hl]; omega
theorem sk_off {s : List UInt8} {j : Nat} (h : j < s.length) (hp : pre [47, 47] (s.drop j) = false) (hl : whiteB (s.getD j 0) = false) : sk false (s.drop j) = 0 := by
  refine sk_stop ?_ hp
  rw [drop_cons h, runL, hl, if_neg Bool.false_ne_true]
end Go.Proofs.YtaapoadjgfoieaaDoor
namespace Go.Proofs.YtaapoadjgfoieaaDoor
theorem beq48 (c : UInt8) : (c == 48) = ((((c.toNat : Nat) : Int)) == 48) := by
  cases h : ((((c.toNat : Nat) : Int)) == 48) with
  | true => simp [is48.1 h]
  | false =>
    cases h2 : c == 48 with
    | false => rfl
    | true => rw [is48.2 (by simpa using h2)] at h; cases h
def numOk (l : List UInt8) : Bool := !(decide (9 < runL digitB l) || (l.getD 0 0 == 48 && decide (1 < runL digitB l))) && !(decide (runL digitB l < l.length) && wordB (l.getD (runL digitB l) 0))
theorem numOk_eq {s : List UInt8} {n j : Nat} (hnj : n < j) (hj : j ≤ s.length) (ej : runL digitB (s.drop n) = j - n) (hd : j < s.length → digitB (s.getD j 0) = false) :
    numOk (s.drop n) = ((decide (((j - n : Nat) : Int) ≤ 9) && (((((s.getD n 0).toNat : Nat) : Int)) != 48 || (((j : Nat) : Int)) == ((n + 1 : Nat) : Int))) && !(decide ((j : Int) < (s.length : Int)) && (letterB (s.getD j 0) || ((((s.getD j 0).toNat : Nat) : Int)) == 95))) := by
  have e1 : (s.drop n).getD 0 0 = s.getD n 0 := by simp [List.getD]
  have e2 : (s.drop n).getD (j - n) 0 = s.getD j 0 := by simp [List.getD]; congr 2; omega
  rw [numOk, ej, e1, e2, beq48, List.length_drop]
  congr 1
  · simp only [bne]
    cases ((((s.getD n 0).toNat : Nat) : Int)) == 48
    · by_cases h9 : 9 < j - n
      · simp [h9]; omega
      · simp [h9]; omega
    · by_cases h9 : 9 < j - n
      · simp [h9]; omega
      · by_cases h1 : 1 < j - n
        · simp [h9, h1]; omega
        · simp [h9, h1]; omega
  · congr 1
    by_cases hl : j < s.length
    · rw [show decide (j - n < s.length - n) = true by simp; omega, show decide ((j : Int) < (s.length : Int)) = true by simp; omega, wordB, hd hl, Bool.or_false]
    · rw [show decide (j - n < s.length - n) = false by simp; omega, show decide ((j : Int) < (s.length : Int)) = false by simp; omega]; rfl
end Go.Proofs.YtaapoadjgfoieaaDoor
namespace Go.Proofs.YtaapoadjgfoieaaDoor
/-- The reference's symbols. -/
def symsR : List (List UInt8) := [[61, 61, 62], [58, 61], [61, 61], [33, 61], [60, 61], [38, 38], [124, 124], [123], [125], [40], [41], [91], [93], [59], [58], [44], [46], [63], [61], [33], [60], [38], [124], [94], [43], [45], [42]]
theorem symsR_len : symsR.length = 27 := rfl
theorem symsR_ne : ∀ x ∈ symsR, x ≠ [] := by decide
theorem symsR_le : ∀ x ∈ symsR, x.length ≤ 3 := by decide
theorem numOk_tok {syms : List (List UInt8)} {l t : List UInt8} {c : UInt8} (h : l = c :: t) (hl : letterB c = false) (hd : digitB c = true) : tokL syms l = if numOk l then some (2, runL digitB l) else none := by
  rw [tokL_eq h, hl, if_neg Bool.false_ne_true, if_pos hd]
  have e1 : l.getD 0 0 = c := by subst h; rfl
  have hn : numOk l = true ↔ ¬ (9 < runL digitB l ∨ (c = 48 ∧ 1 < runL digitB l)) ∧ ¬ (runL digitB l < l.length ∧ wordB (l.getD (runL digitB l) 0) = true) := by
    rw [numOk, e1, Bool.and_eq_true, Bool.not_eq_true', Bool.not_eq_true', ← Bool.not_eq_true, ← Bool.not_eq_true, Bool.or_eq_true, Bool.and_eq_true, Bool.and_eq_true, decide_eq_true_eq, decide_eq_true_eq, decide_eq_true_eq, beq_iff_eq]
  by_cases h1 : 9 < runL digitB l ∨ (c = 48 ∧ 1 < runL digitB l)
  · rw [if_pos h1, if_neg fun hk => (hn.1 hk).1 h1]
  · rw [if_neg h1]
    by_cases h2 : runL digitB l < l.length ∧ wordB (l.getD (runL digitB l) 0) = true
    · rw [if_pos h2, if_neg fun hk => (hn.1 hk).2 h2]
    · rw [if_neg h2, if_pos (hn.2 ⟨h1, h2⟩)]
end Go.Proofs.YtaapoadjgfoieaaDoor
namespace Go.Proofs.YtaapoadjgfoieaaDoor
/-- The program's symbols. -/
def symsP : List (List UInt8) := [[61, 61, 62], [61, 61], [58, 61], [33, 61], [60, 61], [38, 38], [124, 124], [123], [125], [40], [41], [91], [93], [59], [58], [44], [46], [63], [61], [33], [60], [38], [124], [94], [43], [45], [42]]
theorem symsP_len : symsP.length = 27 := rfl
theorem symsP_le : ∀ x ∈ symsP, x.length ≤ 3 := by decide
theorem symL_swap {a b : List UInt8} {r : List (List UInt8)} {l : List UInt8} (h : pre a l = true → pre b l = false) : symL (a :: b :: r) l = symL (b :: a :: r) l := by
  simp only [symL]
  cases ha : pre a l with
  | false => simp
  | true => simp [h ha]
theorem symL_same (l : List UInt8) : symL symsP l = symL symsR l := by
  refine congrArg (fun z => if pre [61, 61, 62] l then [61, 61, 62] else z) (symL_swap fun h1 => ?_)
  match l with
  | [] => simp [pre] at h1
  | [c] => simp [pre] at h1
  | c :: d :: t =>
    simp [pre] at h1
    obtain ⟨rfl, rfl⟩ := h1
    rfl
theorem tokL_same (l : List UInt8) : tokL symsP l = tokL symsR l := by
  cases l with
  | nil => rfl
  | cons c t => simp only [tokL, symL_same]
theorem lexL_same : ∀ (f : Nat) (l : List UInt8) (pos k : Nat), lexL symsP f l pos k = lexL symsR f l pos k
  | 0, _, _, _ => rfl
  | f + 1, l, pos, k => by
    simp only [lexL, tokL_same, lexL_same f]
end Go.Proofs.YtaapoadjgfoieaaDoor
