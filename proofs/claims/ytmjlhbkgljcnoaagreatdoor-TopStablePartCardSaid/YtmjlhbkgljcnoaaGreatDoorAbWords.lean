/- The words of a dump's head, of which only the first ones are looked at. -/
import Derived.JoinedOf
import Derived.KernelRfl
namespace Go.Ab
open Go
theorem words_skip (r : List Char) : ∀ (l : List Char), (l.all fun c => c.toNat != 32) = true → wordsSigns (l ++ Char.ofNat 32 :: r) = l :: wordsSigns r
  | [], _ => rfl
  | c :: l, h => by
    simp only [List.all_cons, Bool.and_eq_true, bne_iff_ne, ne_eq] at h
    have ih := words_skip r l h.2
    rw [List.cons_append, wordsSigns, ih]
    intro hc
    subst hc
    exact h.1 rfl
theorem words_head {n1 n2 n3 n4 : List Nat} {r : List Char} (h : (([n1, n2, n3, n4].all fun l => (l.map Char.ofNat).all fun c => c.toNat != 32)) = true) :
    wordsSigns ((n1.map Char.ofNat) ++ Char.ofNat 32 :: ((n2.map Char.ofNat) ++ Char.ofNat 32 :: ((n3.map Char.ofNat) ++ Char.ofNat 32 :: ((n4.map Char.ofNat) ++ Char.ofNat 32 :: r)))) = n1.map Char.ofNat :: n2.map Char.ofNat :: n3.map Char.ofNat :: n4.map Char.ofNat :: wordsSigns r := by
  simp only [List.all_cons, List.all_nil, Bool.and_true, Bool.and_eq_true] at h
  rw [words_skip _ _ h.1, words_skip _ _ h.2.1, words_skip _ _ h.2.2.1, words_skip _ _ h.2.2.2]
theorem char_nat {n : Nat} (h : n < 55296) : (Char.ofNat n).toNat = n := by
  have hv : n.isValidChar := .inl h
  rw [Char.ofNat, dif_pos hv]
  show (BitVec.ofNatLT n _).toNat = n
  rfl
theorem char_le {a b : Nat} (ha : a < 55296) (hb : b < 55296) : (Char.ofNat a ≤ Char.ofNat b) ↔ a ≤ b := by
  rw [Char.le_def, UInt32.le_iff_toNat_le]
  have h1 := char_nat ha
  have h2 := char_nat hb
  unfold Char.toNat at h1 h2
  rw [h1, h2]
theorem sum_ok (ns : List Nat) (hl : (ns.length == 64) = true) (h : (ns.all fun n => (Nat.ble 48 n && Nat.ble n 57) || (Nat.ble 97 n && Nat.ble n 102)) = true) : isSumSigns (ns.map Char.ofNat) = true := by
  unfold isSumSigns
  rw [List.length_map, hl, Bool.true_and, List.all_map, List.all_eq_true]
  intro n hn
  have := List.all_eq_true.1 h n hn
  simp only [Bool.or_eq_true, Bool.and_eq_true, Nat.ble_eq] at this
  have hn' : n < 55296 := by omega
  simp only [Function.comp, Bool.or_eq_true, Bool.and_eq_true, decide_eq_true_eq]
  rcases this with ⟨h1, h2⟩ | ⟨h1, h2⟩
  · exact .inl ⟨(char_le (a := 48) (by decide) hn').2 h1, (char_le (b := 57) hn' (by decide)).2 h2⟩
  · exact .inr ⟨(char_le (a := 97) (by decide) hn').2 h1, (char_le (b := 102) hn' (by decide)).2 h2⟩
theorem behind {h s : List Char} {r : List (List Char)} (hh : (h == "harness".toList) = true) (hs : isSumSigns s = true) : behindMainWord (h :: s :: r) = r := by
  simp only [behindMainWord, hh, hs, Bool.true_or, Bool.and_self, if_true]
section
variable {P : Program} {d : List Char} {r : List (List Char)}
abbrev wCut : List Char := ([99, 117, 116] : List Nat).map Char.ofNat
theorem headLifts_of (h : behindMainWord (wordsSigns P.initOrder.toList) = wCut :: d :: r) : P.headLifts = [] := by
  have e : stripLifts liftWords (wCut :: d :: r) = ([], wCut :: d :: r) := by kernel_rfl
  have e2 : ((wCut :: d :: r).head? == some "cut".toList) = true := by kernel_rfl
  simp only [Program.headLifts, h, e, e2, if_true]
theorem liftsFinal_of (h : behindMainWord (wordsSigns P.initOrder.toList) = wCut :: d :: r) : P.liftsFinal = false := by
  simp only [Program.liftsFinal, h, headLifts_of h]
  kernel_rfl
theorem make_of (h : behindMainWord (wordsSigns P.initOrder.toList) = wCut :: d :: r) : P.make = some .cut := by
  simp only [Program.make, h]
  have e : (wCut == "gc".toList) = false := by kernel_rfl
  have e1 : (wCut == "spec".toList) = false := by kernel_rfl
  have e2 : (wCut == "cut".toList) = true := by kernel_rfl
  simp only [e, e1, e2, Bool.or_self, Bool.false_eq_true, if_false, Bool.true_or, if_true]
theorem mayEnter_of (h : behindMainWord (wordsSigns P.initOrder.toList) = wCut :: d :: r) (h1 : P.laysLater = false) (h2 : P.bearsReflect = false) (h3 : P.doorFits [] = true) : P.mayEnter = true := by
  have e : stripLifts liftWords (wCut :: d :: r) = ([], wCut :: d :: r) := by kernel_rfl
  have e2 : ((wCut :: d :: r).head? == some "cut".toList) = true := by kernel_rfl
  simp only [Program.mayEnter, h, e, e2, h1, h2, h3, Bool.not_false, Bool.or_true, Bool.and_self, Bool.true_and, Bool.and_true, List.contains_nil]
end
end Go.Ab
