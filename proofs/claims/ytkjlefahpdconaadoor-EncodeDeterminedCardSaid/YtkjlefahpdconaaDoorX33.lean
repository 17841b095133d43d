import Derived.Test.YtkjlefahpdconaaDoorX32

section PartP6
/- The encoder as a plain program: what the laws say. -/
set_option linter.unusedSimpArgs false
set_option linter.unusedVariables false
namespace Go.Proofs.YtkjlefahpdconaaDoor
open Go Go.Ab

section
variable {cs : List Cel} {h g : Ex} {old now : List Int} {gs : List Gt} {first : Nat} {vs : List Bool}
def decS (cs : List Cel) (lay : List Int) (vs : List Bool) : List Int := (List.range cs.length).map fun i => if lay.getD i 0 = 0 then (cs.getD i cel0).init else ((nat (vOf vs) (rowL (lay.getD i 0) (wOf cs i).toNat) : Nat) : Int)
theorem decS_len (lay : List Int) : (decS cs lay vs).length = cs.length := by simp [decS]
theorem decS_at (lay : List Int) {i : Nat} (hi : i < cs.length) : (decS cs lay vs).getD i 0 = if lay.getD i 0 = 0 then (cs.getD i cel0).init else ((nat (vOf vs) (rowL (lay.getD i 0) (wOf cs i).toNat) : Nat) : Int) := by
  rw [decS, List.getD_eq_getElem?_getD, List.getElem?_map, List.getElem?_range hi]; rfl
theorem row_nat {v : Nat → Bool} {p : Int} {w X : Nat} (hp : 1 ≤ p) (h : ∀ k, k < w → v (p.toNat + k) = X.testBit k) (hX : X < 2 ^ w) : nat v (rowL p w) = X := by
  have hlen : (rowL p w).length = w := by simp [rowL]
  refine nat_eq (fun i hi => ?_) (by rw [hlen]; exact hX)
  rw [hlen] at hi
  rw [rowL, getD_range hi, ← h i hi, val, if_neg (by omega)]
  congr 1; omega
theorem row_bit {v : Nat → Bool} {p : Int} {w k : Nat} (hp : 1 ≤ p) (hk : k < w) : (nat v (rowL p w)).testBit k = v (p.toNat + k) := by
  have hlen : (rowL p w).length = w := by simp [rowL]
  rw [nat_bit, rowL, getD_range hk, val, if_neg (by omega)]
  rw [show decide (k < (List.map (fun i : Nat => p + (i : Int)) (List.range w)).length) = true by simp [hk], Bool.true_and]
  congr 1; omega
theorem ibit_nat {n k : Nat} (hn : n < 256) (hk : k < 8) : ibit (n : Int) k = n.testBit k := by
  rw [← lowb_bit (n : Int) (w := 8) (Nat.le_refl _) hk]
  congr 1
  simp only [lowb]; omega
theorem pow_le8 {w : Nat} (h : w ≤ 8) : 2 ^ w ≤ 256 := Nat.pow_le_pow_right (n := 2) (j := 8) (by omega) h
/-- THE STATES OF THE EXTENSION. -/
theorem Enc.states (E : Enc cs h g) {i : Nat} (hi : i < cs.length) :
    (decS cs (lO cs h g) (extV cs h g old now gs)).getD i 0 = (if (lO cs h g).getD i 0 = 0 then (cs.getD i cel0).init else (lowb (old.getD i 0) (wOf cs i).toNat : Nat)) ∧
    (decS cs (lN cs h g) (extV cs h g old now gs)).getD i 0 = (if (lN cs h g).getD i 0 = 0 then (cs.getD i cel0).init else (lowb (now.getD i 0) (wOf cs i).toNat : Nat)) := by
  have hx := E.ext_ext (old := old) (now := now) gs
  refine ⟨?_, ?_⟩
  · rw [decS_at _ hi]
    split
    · rfl
    · rename_i hne
      have hb : (occB cs h g 3).getD i false = true := by
        cases hb : (occB cs h g 3).getD i false
        · exact (hne (E.placedO.zero i hb)).elim
        · rfl
      have hw := E.width (.inr rfl) hb
      have hp := E.placedO.pos i hb
      rw [row_nat (by omega) (fun k hk => ?_) (lowb_lt _ _)]
      rw [hx.1 i hb k (by omega), lowb_bit _ (by omega) hk]
  · rw [decS_at _ hi]
    split
    · rfl
    · rename_i hne
      have hb : (occB cs h g 2).getD i false = true := by
        cases hb : (occB cs h g 2).getD i false
        · exact (hne (E.placedN.zero i hb)).elim
        · rfl
      have hw := E.width (.inl rfl) hb
      have hp := E.placedN.pos i hb
      rw [row_nat (by omega) (fun k hk => ?_) (lowb_lt _ _)]
      rw [hx.2 i hb k (by omega), lowb_bit _ (by omega) hk]
theorem ext_bools {l m : List Bool} (hl : l.length = m.length) (h : ∀ i, 1 ≤ i → i ≤ l.length → vOf l i = vOf m i) : l = m := by
  apply List.ext_getElem hl
  intro i h1 h2
  have := h (i + 1) (by omega) (by omega)
  simpa [vOf, List.getD_eq_getElem?_getD, h1, h2] using this
/-- AN ASSIGNMENT THAT SATISFIES THE GATES is the extension of the states that it denotes. -/
theorem Enc.det (E : Enc cs h g) (hg : OkG (firstV cs h g) gs) (hl : vs.length = firstV cs h g + gs.length) (hs : Sat (firstV cs h g) (vOf vs) gs) : extV cs h g (decS cs (lO cs h g) vs) (decS cs (lN cs h g) vs) gs = vs := by
  have hx := E.ext_ext (old := decS cs (lO cs h g) vs) (now := decS cs (lN cs h g) vs) gs
  have hs2 := E.ext_sat (old := decS cs (lO cs h g) vs) (now := decS cs (lN cs h g) vs) hg
  refine ext_bools (by rw [ext_len, hl]) fun i h1 h2 => ?_
  rw [ext_len] at h2
  refine sat_det hg hs2 hs (fun i h1 h2 => ?_) i h1 h2
  rcases Nat.lt_or_ge 1 i with h3 | h3
  · rcases Nat.lt_or_ge (layO cs h g).2 i with h4 | h4
    · obtain ⟨j, k, hb, hk, hi⟩ := E.placedN.cover i h4 h2
      have hw := E.width (.inl rfl) hb
      have hp := E.placedN.pos j hb
      have hj := (occB_true hb).1
      have e : ((lN cs h g).getD j 0).toNat + k = i := by omega
      have e1 := hx.2 j hb k hk
      rw [e] at e1
      rw [e1, decS_at _ hj, if_neg (by omega), ibit_nat (Nat.lt_of_lt_of_le (nat_lt _ _) (by rw [show (rowL ((lN cs h g).getD j 0) (wOf cs j).toNat).length = (wOf cs j).toNat by simp [rowL]]; exact pow_le8 (by omega))) (by omega), row_bit (by omega) (by omega), e]
    · obtain ⟨j, k, hb, hk, hi⟩ := E.placedO.cover i h3 h4
      have hw := E.width (.inr rfl) hb
      have hp := E.placedO.pos j hb
      have hj := (occB_true hb).1
      have e : ((lO cs h g).getD j 0).toNat + k = i := by omega
      have e1 := hx.1 j hb k hk
      rw [e] at e1
      rw [e1, decS_at _ hj, if_neg (by omega), ibit_nat (Nat.lt_of_lt_of_le (nat_lt _ _) (by rw [show (rowL ((lO cs h g).getD j 0) (wOf cs j).toNat).length = (wOf cs j).toNat by simp [rowL]]; exact pow_le8 (by omega))) (by omega), row_bit (by omega) (by omega), e]
  · obtain rfl : i = 1 := by omega
    rw [hs2.1, hs.1]
/-- A VARIABLE THAT IS NOT OF A CELL, changed. -/
theorem Enc.changed (E : Enc cs h g) (hg : OkG (firstV cs h g) gs) (hl : vs.length = firstV cs h g + gs.length) (hs : Sat (firstV cs h g) (vOf vs) gs) {k : Nat} (hk : k < vs.length) (hk2 : k = 0 ∨ firstV cs h g ≤ k) : ¬ Sat (firstV cs h g) (vOf (vs.set k (!vs.getD k false))) gs := by
  intro hs2
  have hset : ∀ i, 1 ≤ i → i ≠ k + 1 → vOf (vs.set k (!vs.getD k false)) i = vOf vs i := fun i h1 h2 => by
    simp only [vOf]; rw [getD_set, if_neg (by omega)]
  have hat : vOf (vs.set k (!vs.getD k false)) (k + 1) = !vOf vs (k + 1) := by
    simp only [vOf]; rw [Nat.add_sub_cancel, getD_set, if_pos ⟨rfl, hk⟩]
  rcases hk2 with rfl | hk2
  · have := hs2.1
    rw [hat, hs.1] at this; cases this
  · have hi : gs[k - firstV cs h g]? = some (gs[k - firstV cs h g]'(by omega)) := List.getElem?_eq_getElem (by omega)
    have e1 := hs.2 _ _ hi
    have e2 := hs2.2 _ _ hi
    rw [show firstV cs h g + (k - firstV cs h g) + 1 = k + 1 by omega] at e1 e2
    rw [hat, e1, gval_congr (fun i h1 h2 => hset i h1 (by omega)) (hg _ _ hi).1 (hg _ _ hi).2.1] at e2
    cases h : gval (vOf vs) (gs[k - firstV cs h g]'(by omega)) <;> rw [h] at e2 <;> cases e2
def mostC (first : Nat) (gs : List Gt) : List (List Int) := [1] :: clsG first gs
theorem OkG.ne (hg : OkG first gs) : ∀ g ∈ gs, g.1 ≠ 0 ∧ g.2.1 ≠ 0 := fun g hm => by
  obtain ⟨i, hi⟩ := List.mem_iff_getElem?.1 hm
  have := hg i g hi
  exact ⟨this.1.1, this.2.1.1⟩
theorem most_true (hg : OkG first gs) : (mostC first gs).all (clsT vs) = true ↔ Sat first (vOf vs) gs := by
  have e : clsT vs [1] = vOf vs 1 := by
    simp only [clsT, List.any_cons, List.any_nil, Bool.or_false]
    rw [litT_val (by omega)]; rfl
  rw [mostC, List.all_cons, Bool.and_eq_true, e, clsG_true gs first hg.ne]; rfl
theorem gate_lits {n : Nat} {g : Gt} (h1 : Lit n g.1) (h2 : Lit n g.2.1) : ∀ c ∈ gateCls ((n + 1 : Nat) : Int) g, ∀ l ∈ c, Lit (n + 1) l := by
  have q1 := h1.mono (Nat.le_succ n)
  have q2 := h2.mono (Nat.le_succ n)
  have q3 : Lit (n + 1) ((n + 1 : Nat) : Int) := ⟨by omega, by omega, Int.le_refl _⟩
  intro c hc l hl
  unfold gateCls at hc
  split at hc <;> simp only [List.mem_cons, List.not_mem_nil, or_false] at hc
  · rcases hc with rfl | rfl | rfl | rfl <;> simp only [List.mem_cons, List.not_mem_nil, or_false] at hl <;> rcases hl with rfl | rfl | rfl <;> first | exact q1 | exact q2 | exact q3 | exact q1.neg | exact q2.neg | exact q3.neg
  · rcases hc with rfl | rfl | rfl <;> simp only [List.mem_cons, List.not_mem_nil, or_false] at hl <;> first
      | (rcases hl with rfl | rfl | rfl <;> first | exact q1 | exact q2 | exact q3 | exact q1.neg | exact q2.neg | exact q3.neg)
      | (rcases hl with rfl | rfl <;> first | exact q1 | exact q2 | exact q3 | exact q1.neg | exact q2.neg | exact q3.neg)
theorem cls_lits : ∀ (gs : List Gt) (first : Nat), OkG first gs → ∀ c ∈ clsG first gs, ∀ l ∈ c, Lit (first + gs.length) l
  | [], first, hg, c, hc => by simp [clsG] at hc
  | g :: gs, first, hg, c, hc => by
    intro l hl
    simp only [clsG, List.mem_append] at hc
    rcases hc with hc | hc
    · have := hg 0 g rfl
      exact (gate_lits this.1 this.2.1 c hc l hl).mono (by simp)
    · have := cls_lits gs (first + 1) (fun i g hi => by have := hg (i + 1) g (by simpa using hi); rwa [show first + (i + 1) = first + 1 + i by omega] at this) c hc l hl
      exact this.mono (by simp; omega)
theorem most_lits (hp : 1 ≤ first) (hg : OkG first gs) : ∀ c ∈ mostC first gs, ∀ l ∈ c, Lit (first + gs.length) l := fun c hc l hl => by
  rcases List.mem_cons.1 hc with rfl | hc
  · obtain rfl : l = 1 := by simpa using hl
    exact lit_one (by omega)
  · exact cls_lits gs first hg c hc l hl
/-- The value of a formula. -/
def validC (f : Cnf) : Bool := decide (0 ≤ f.vars) && decide (f.vars ≤ 8000) && decide (f.cls.length ≤ 40000) && f.cls.all fun c => c.all fun l => decide (l ≠ 0 ∧ -f.vars ≤ l ∧ l ≤ f.vars)
def evalC (f : Cnf) (vs : List Bool) : Bool := validC f && f.cls.all (clsT vs)
def negF (first : Nat) (p : Int × List Gt) : Cnf := ⟨((first + p.2.length : Nat) : Int), mostC first p.2 ++ [[p.1]]⟩
theorem valid_of {n : Nat} {c : List (List Int)} (hn : n ≤ 8000) (hc : c.length ≤ 40000) (h : ∀ x ∈ c, ∀ l ∈ x, Lit n l) : validC ⟨n, c⟩ = true := by
  simp only [validC, Bool.and_eq_true, decide_eq_true_eq, List.all_eq_true]
  exact ⟨⟨⟨by omega, by omega⟩, hc⟩, fun x hx l hl => h x hx l hl⟩
theorem most_len : (mostC first gs).length + 1 = costG gs := by
  have := clsG_len gs first
  simp only [mostC, List.length_cons]; omega
/-- What translating comes to, all in one. -/
structure TR (cs : List Cel) (h g : Ex) (root : Int) (gs : List Gt) : Prop where
  good : Good (firstV cs h g) gs
  lit : Lit (firstV cs h g + gs.length) root
  root : ∀ (v : Nat → Bool) (old now : List Int), Sat (firstV cs h g) v gs → Ext2 cs h g old now v → val v root = (evN old now h == 1 && evN old now g == 0)
theorem Enc.tr (E : Enc cs h g) {root : Int} (ht : transM cs h g [] = some (root, gs)) : TR cs h g root gs := by
  obtain ⟨h1, _, h3, h4⟩ := trans_ho E root gs ht
  exact ⟨h1, h3, fun v old now hs hx => h4 v hs old now hx⟩
theorem TR.valid {root : Int} (t : TR cs h g root gs) : validC (negF (firstV cs h g) (root, gs)) = true := by
  refine valid_of t.good.fit.1 ?_ fun x hx l hl => ?_
  · have := most_len (first := firstV cs h g) (gs := gs)
    have := t.good.fit.2
    simp; omega
  · rcases List.mem_append.1 hx with hx | hx
    · exact most_lits t.good.pos t.good.ok x hx l hl
    · obtain rfl : x = [root] := by simpa using hx
      obtain rfl : l = root := by simpa using hl
      exact t.lit
theorem TR.valid1 {root : Int} (t : TR cs h g root gs) : validC ⟨((firstV cs h g + gs.length : Nat) : Int), mostC (firstV cs h g) gs⟩ = true :=
  valid_of t.good.fit.1 (by have := most_len (first := firstV cs h g) (gs := gs); have := t.good.fit.2; omega) fun x hx l hl => most_lits t.good.pos t.good.ok x hx l hl
theorem TR.valid2 {root : Int} (t : TR cs h g root gs) : validC ⟨((firstV cs h g + gs.length : Nat) : Int), [[root]]⟩ = true :=
  valid_of t.good.fit.1 (by simp) fun x hx l hl => by
    obtain rfl : x = [root] := by simpa using hx
    obtain rfl : l = root := by simpa using hl
    exact t.lit
theorem TR.most {root : Int} (t : TR cs h g root gs) : evalC ⟨((firstV cs h g + gs.length : Nat) : Int), mostC (firstV cs h g) gs⟩ vs = true ↔ Sat (firstV cs h g) (vOf vs) gs := by
  rw [evalC, t.valid1, Bool.true_and]; exact most_true t.good.ok
theorem TR.last {root : Int} (t : TR cs h g root gs) : evalC ⟨((firstV cs h g + gs.length : Nat) : Int), [[root]]⟩ vs = val (vOf vs) root := by
  rw [evalC, t.valid2, Bool.true_and]
  simp only [clsT, List.all_cons, List.all_nil, List.any_cons, List.any_nil, Bool.or_false, Bool.and_true]
  exact litT_val t.lit.1
theorem TR.all {root : Int} (t : TR cs h g root gs) : evalC (negF (firstV cs h g) (root, gs)) vs = true ↔ Sat (firstV cs h g) (vOf vs) gs ∧ val (vOf vs) root = true := by
  rw [evalC, t.valid, Bool.true_and, negF]
  simp only [List.all_append, Bool.and_eq_true]
  rw [most_true t.good.ok]
  simp only [clsT, List.all_cons, List.all_nil, List.any_cons, List.any_nil, Bool.or_false, Bool.and_true]
  rw [litT_val t.lit.1]
/-- MEANING. -/
theorem Enc.meaning (E : Enc cs h g) {root : Int} (t : TR cs h g root gs) : Sat (firstV cs h g) (vOf (extV cs h g old now gs)) gs ∧ val (vOf (extV cs h g old now gs)) root = (evN old now h == 1 && evN old now g == 0) :=
  ⟨E.ext_sat t.good.ok, t.root _ _ _ (E.ext_sat t.good.ok) (E.ext_ext gs)⟩
theorem Enc.meaning_all (E : Enc cs h g) {root : Int} (t : TR cs h g root gs) : evalC (negF (firstV cs h g) (root, gs)) (extV cs h g old now gs) = (evN old now h == 1 && evN old now g == 0) := by
  have hm := E.meaning (old := old) (now := now) t
  rw [Bool.eq_iff_iff, t.all, hm.2]
  exact ⟨fun h => h.2, fun h => ⟨hm.1, h⟩⟩
/-- SATISFIABLE, one way: an assignment of the formula denotes states that falsify the condition. -/
theorem Enc.sat_bad (E : Enc cs h g) {root : Int} (t : TR cs h g root gs) (hl : vs.length = firstV cs h g + gs.length) (he : evalC (negF (firstV cs h g) (root, gs)) vs = true) :
    (evN (decS cs (lO cs h g) vs) (decS cs (lN cs h g) vs) h == 1 && evN (decS cs (lO cs h g) vs) (decS cs (lN cs h g) vs) g == 0) = true := by
  have hd := E.det t.good.ok hl (t.all.1 he).1
  rw [← E.meaning_all (gs := gs) t, hd]; exact he
theorem evN_lt (l : Nat) : ∀ (e : Ex), e.deep l = true → evN old now e < 2 ^ e.w.toNat := by
  induction l with
  | zero => intro e hd; simp [Ex.deep] at hd
  | succ l ih =>
    intro e hd
    have hkd : ∀ k ∈ e.kids, evN old now k < 2 ^ k.w.toNat := fun k hk => ih k (deep_kid hd hk)
    have hf : e.fits = true := by simp only [Ex.deep, Bool.and_eq_true] at hd; exact hd.1
    simp only [Ex.fits, Bool.and_eq_true, decide_eq_true_eq] at hf
    obtain ⟨⟨ha, w1, w8⟩, hf⟩ := hf
    have hL : e.kids.length = (Ex.arity e.op).toNat := by omega
    have hp : 0 < 2 ^ e.w.toNat := Nat.pow_pos (by omega)
    have h2 : 2 ≤ 2 ^ e.w.toNat := by have := Nat.pow_le_pow_right (n := 2) (i := 1) (j := e.w.toNat) (by omega) (by omega); omega
    have hb2 : ∀ b, b2n b < 2 ^ e.w.toNat := fun b => Nat.lt_of_lt_of_le (b2n_lt b) h2
    rw [evN_eq]
    by_cases o1 : e.op = 1
    · rw [if_pos o1, decide_eq_true_eq] at hf
      simp only [opN, if_pos o1]
      have h2 : ((2 : Int) ^ e.w.toNat) = ((2 ^ e.w.toNat : Nat) : Int) := by simp
      omega
    rw [if_neg o1] at hf
    by_cases o2 : e.op = 2
    · simp only [opN, if_neg o1, if_pos o2]; exact lowb_lt _ _
    by_cases o3 : e.op = 3
    · simp only [opN, if_neg o1, if_neg o2, if_pos o3]; exact lowb_lt _ _
    rw [if_neg (by omega)] at hf
    by_cases o4 : e.op = 4
    · simp only [opN, if_neg o1, if_neg o2, if_neg o3, if_pos o4]; omega
    rw [if_neg o4] at hf
    by_cases o14 : e.op = 14
    · rw [if_neg (by omega), if_pos o14, decide_eq_true_eq] at hf
      obtain ⟨a, b, c, hks⟩ := list3 (l := e.kids) (by rw [hL, o14]; rfl)
      simp only [Ex.kw, hks, List.getD_cons_zero, List.getD_cons_succ] at hf
      simp only [opN, o14, Int.reduceEq, if_false, hks, List.map_cons, List.getD_cons_zero, List.getD_cons_succ]
      split
      · have := hkd b (by rw [hks]; simp); rwa [hf.2.2.1] at this
      · have := hkd c (by rw [hks]; simp); rwa [hf.2.2.2] at this
    have hb : 5 ≤ e.op ∧ e.op ≤ 13 := by
      unfold Ex.arity at ha
      repeat' split at ha
      all_goals omega
    obtain ⟨a, b, hks⟩ := list2 (l := e.kids) (by
      rw [hL, Ex.arity, if_neg (by omega), if_neg (by omega), if_pos (by omega)]; rfl)
    have ka := hkd a (by rw [hks]; simp)
    have kb := hkd b (by rw [hks]; simp)
    by_cases o11 : e.op = 11 ∨ e.op = 12 ∨ e.op = 13
    · rcases o11 with o | o | o <;> simp only [opN, o, Int.reduceEq, if_false, if_true] <;> exact hb2 _
    rw [if_neg o11, if_neg o14, decide_eq_true_eq] at hf
    simp only [Ex.kw, hks, List.getD_cons_zero, List.getD_cons_succ] at hf
    rw [hf.2.1] at ka; rw [hf.2.2] at kb
    have ho : e.op = 5 ∨ e.op = 6 ∨ e.op = 7 ∨ e.op = 8 ∨ e.op = 9 ∨ e.op = 10 := by omega
    rcases ho with o | o | o | o | o | o <;> simp only [opN, o, Int.reduceEq, if_false, if_true, hks, List.map_cons, List.getD_cons_zero, List.getD_cons_succ]
    · exact Nat.and_lt_two_pow _ kb
    · exact Nat.or_lt_two_pow ka kb
    · exact Nat.xor_lt_two_pow ka kb
    · exact Nat.mod_lt _ hp
    · exact Nat.mod_lt _ hp
    · exact Nat.mod_lt _ hp
/-- SATISFIABLE, the other way. -/
theorem Enc.bad_sat (E : Enc cs h g) {root : Int} (t : TR cs h g root gs) (hb : (evN old now h == 1 && evN old now g == 0) = true) : evalC (negF (firstV cs h g) (root, gs)) (extV cs h g old now gs) = true := by
  rw [E.meaning_all t]; exact hb
/-- FOLDING: negations exchanged. -/
theorem evN_not (x : Ex) : evN old now (.mk 4 1 0 [x]) = 1 - evN old now x := by
  rw [evN_eq]
  simp only [Ex.op, Ex.w, Ex.n, Ex.kids, opN, Int.reduceEq, if_false, if_true, List.map_cons, List.getD_cons_zero]
  rfl
theorem Enc.folded (E : Enc cs h g) : (evN old now (.mk 4 1 0 [g]) == 1 && evN old now (.mk 4 1 0 [h]) == 0) = (evN old now h == 1 && evN old now g == 0) := by
  have h1 := evN_lt (old := old) (now := now) 40 h (formed_deep E.hf)
  have h2 := evN_lt (old := old) (now := now) 40 g (formed_deep E.gf)
  rw [E.hw] at h1; rw [E.gw] at h2
  rw [evN_not, evN_not]
  generalize evN old now h = a at *
  generalize evN old now g = b at *
  have h1 : a < 2 := h1
  have h2 : b < 2 := h2
  have ha : a = 0 ∨ a = 1 := by omega
  have hb : b = 0 ∨ b = 1 := by omega
  rcases ha with rfl | rfl <;> rcases hb with rfl | rfl <;> rfl
theorem root_one {first : Nat} {lo ln : List Int} {h : Ex} {root : Int} (e : rootM first lo ln h (.mk 1 1 1 []) [] = some (root, gs)) : root = -1 := by
  simp only [rootM, bnd, Option.bind_eq_some_iff] at e
  obtain ⟨⟨x, g1⟩, _, ⟨y, g2⟩, e2, e3⟩ := e
  have : y = [1] := by
    simp only [bitsM, bitsL, bnd, retM, Option.bind_some, opM, if_true, constL, Option.some.injEq, Prod.mk.injEq] at e2
    rw [← e2.1]; rfl
  subst this
  simp only [List.headD_cons] at e3
  unfold andM at e3
  rw [if_pos (Or.inr rfl)] at e3
  simp only [retM, Option.some.injEq, Prod.mk.injEq] at e3
  exact e3.1.symm
end
end Go.Proofs.YtkjlefahpdconaaDoor
end PartP6

section PartB1
/- Bits of machine's integers, as the program's operations give them. -/
set_option linter.unusedSimpArgs false
set_option linter.unusedVariables false
namespace Go.Proofs.YtkjlefahpdconaaDoor
open Go Go.Ab

theorem toNat_nat (n : Nat) (h : n < 18446744073709551616) : (BitVec.ofInt IntKind.i64.bits (n : Int)).toNat = n := by
  simp only [IntKind.bits, BitVec.toNat_ofInt]
  omega
theorem toNat_int (a : Int) : (BitVec.ofInt IntKind.i64.bits a).toNat = (a % 18446744073709551616).toNat := by
  simp only [IntKind.bits, BitVec.toNat_ofInt]
  rfl
theorem mod_mask (a : Int) {w : Nat} (hw : w ≤ 8) : (a % 18446744073709551616).toNat % 2 ^ w = lowb a w := by
  simp only [lowb]
  have hw' : w = 0 ∨ w = 1 ∨ w = 2 ∨ w = 3 ∨ w = 4 ∨ w = 5 ∨ w = 6 ∨ w = 7 ∨ w = 8 := by omega
  rcases hw' with rfl | rfl | rfl | rfl | rfl | rfl | rfl | rfl | rfl <;> simp only [Nat.reducePow, Int.cast_ofNat_Int] <;> omega
theorem wrap_nat (n : Nat) (h : n < 9223372036854775808) : IntKind.i64.wrap (n : Int) = n := wrap64_id _ (by omega) (by omega)
theorem and_mask (a : Int) {w : Nat} (hw : w ≤ 8) : IntKind.i64.wrap ((BitVec.ofInt IntKind.i64.bits a &&& BitVec.ofInt IntKind.i64.bits (((2 ^ w : Nat) : Int) - 1)).toNat : Int) = (lowb a w : Nat) := by
  have hp := pow_le8 hw
  have h1 : 1 ≤ 2 ^ w := Nat.pow_pos (by omega)
  rw [BitVec.toNat_and, toNat_int, show ((2 ^ w : Nat) : Int) - 1 = ((2 ^ w - 1 : Nat) : Int) by omega, toNat_nat _ (by omega), Nat.and_two_pow_sub_one_eq_mod, mod_mask a hw]
  exact wrap_nat _ (by have := lowb_lt a w; omega)
theorem and_one (a : Int) : IntKind.i64.wrap ((BitVec.ofInt IntKind.i64.bits a &&& BitVec.ofInt IntKind.i64.bits 1).toNat : Int) = (lowb a 1 : Nat) := and_mask a (w := 1) (by omega)
theorem and_nat {a b : Nat} (ha : a < 256) (hb : b < 256) : IntKind.i64.wrap ((BitVec.ofInt IntKind.i64.bits (a : Int) &&& BitVec.ofInt IntKind.i64.bits (b : Int)).toNat : Int) = (a &&& b : Nat) := by
  rw [BitVec.toNat_and, toNat_nat _ (by omega), toNat_nat _ (by omega)]
  exact wrap_nat _ (by have := Nat.and_lt_two_pow (n := 8) a (y := b) hb; omega)
theorem or_nat {a b : Nat} (ha : a < 256) (hb : b < 256) : IntKind.i64.wrap ((BitVec.ofInt IntKind.i64.bits (a : Int) ||| BitVec.ofInt IntKind.i64.bits (b : Int)).toNat : Int) = (a ||| b : Nat) := by
  rw [BitVec.toNat_or, toNat_nat _ (by omega), toNat_nat _ (by omega)]
  exact wrap_nat _ (by have := Nat.or_lt_two_pow (n := 8) ha hb; omega)
theorem xor_nat {a b : Nat} (ha : a < 256) (hb : b < 256) : IntKind.i64.wrap ((BitVec.ofInt IntKind.i64.bits (a : Int) ^^^ BitVec.ofInt IntKind.i64.bits (b : Int)).toNat : Int) = (a ^^^ b : Nat) := by
  rw [BitVec.toNat_xor, toNat_nat _ (by omega), toNat_nat _ (by omega)]
  exact wrap_nat _ (by have := Nat.xor_lt_two_pow (n := 8) ha hb; omega)
theorem compl_nat {a : Nat} (ha : a < 256) : IntKind.i64.wrap ((BitVec.ofInt IntKind.i64.bits (if IntKind.i64.signed then -1 else IntKind.i64.max) ^^^ BitVec.ofInt IntKind.i64.bits (a : Int)).toNat : Int) = -1 - (a : Int) := by
  show IntKind.i64.wrap ((BitVec.ofInt 64 (-1) ^^^ BitVec.ofInt 64 (a : Int)).toNat : Int) = _
  have h : (BitVec.ofInt 64 (a : Int)).toNat = a := toNat_nat a (by omega)
  rw [show BitVec.ofInt 64 (-1) = BitVec.allOnes 64 by decide, BitVec.allOnes_xor, BitVec.toNat_not, h, IntKind.wrap_i64]
  omega
theorem lowb_nat {a w : Nat} (h : a < 2 ^ w) : lowb (a : Int) w = a := by
  simp only [lowb]
  rw [Int.emod_eq_of_lt (by omega) (by omega)]
  omega
theorem shr_fdiv (x : Int) {k : Nat} (h : k ≤ 64) : x.fdiv (2 ^ (min (Int.toNat (k : Int)) IntKind.i64.bits)) = x.fdiv (2 ^ k) := by
  simp only [Int.toNat_natCast, IntKind.bits]
  rw [Nat.min_eq_left h]
theorem ibit_eq (x : Int) (k : Nat) : (((lowb (x.fdiv (2 ^ k)) 1 : Nat) : Int) == 1) = ibit x k := by
  rw [ibit, Bool.eq_iff_iff, beq_iff_eq, beq_iff_eq]; omega
theorem pow_lt8 {k : Nat} (h : k < 8) : 2 ^ k < 256 := by
  have := Nat.pow_le_pow_right (n := 2) (i := k) (j := 7) (by omega) (by omega)
  omega
theorem shl_one {k : Nat} (h : k < 8) : IntKind.i64.wrap (1 * 2 ^ (min (Int.toNat (k : Int)) IntKind.i64.bits)) = ((2 ^ k : Nat) : Int) := by
  simp only [Int.toNat_natCast, IntKind.bits]
  rw [Nat.min_eq_left (by omega), Int.one_mul]
  have := pow_lt8 h
  have e : (2 : Int) ^ k = ((2 ^ k : Nat) : Int) := by simp
  rw [e]; exact wrap_nat _ (by omega)
def bAnd (a b : Int) : Int := IntKind.i64.wrap ((BitVec.ofInt IntKind.i64.bits a &&& BitVec.ofInt IntKind.i64.bits b).toNat : Int)
def bOr (a b : Int) : Int := IntKind.i64.wrap ((BitVec.ofInt IntKind.i64.bits a ||| BitVec.ofInt IntKind.i64.bits b).toNat : Int)
def bXor (a b : Int) : Int := IntKind.i64.wrap ((BitVec.ofInt IntKind.i64.bits a ^^^ BitVec.ofInt IntKind.i64.bits b).toNat : Int)
def bNot (a : Int) : Int := IntKind.i64.wrap ((BitVec.ofInt IntKind.i64.bits (if IntKind.i64.signed then -1 else IntKind.i64.max) ^^^ BitVec.ofInt IntKind.i64.bits a).toNat : Int)
def bShl (a b : Int) : Int := IntKind.i64.wrap (a * 2 ^ (min b.toNat IntKind.i64.bits))
def bShr (a b : Int) : Int := a.fdiv (2 ^ (min b.toNat IntKind.i64.bits))
section
variable {P : Program} {t : TypeId} {k : Prop → A → Prop} {a b : Int}
@[go_sem high, go_sem ↓ high] theorem rdBin_and64 : rdBin P .and t k (.d (.int .i64 a)) (.d (.int .i64 b)) = k True (.d (.int .i64 (bAnd a b))) := by simp only [rdBin, rdArith, if_true]; rfl
@[go_sem high, go_sem ↓ high] theorem rdBin_or64 : rdBin P .or t k (.d (.int .i64 a)) (.d (.int .i64 b)) = k True (.d (.int .i64 (bOr a b))) := by simp only [rdBin, rdArith, if_true]; rfl
@[go_sem high, go_sem ↓ high] theorem rdBin_xor64 : rdBin P .xor t k (.d (.int .i64 a)) (.d (.int .i64 b)) = k True (.d (.int .i64 (bXor a b))) := by simp only [rdBin, rdArith, if_true]; rfl
@[go_sem high, go_sem ↓ high] theorem rdBin_shl64 : rdBin P .shl t k (.d (.int .i64 a)) (.d (.int .i64 b)) = k (0 ≤ b) (.d (.int .i64 (bShl a b))) := (rfl)
@[go_sem high, go_sem ↓ high] theorem rdBin_shr64 : rdBin P .shr t k (.d (.int .i64 a)) (.d (.int .i64 b)) = k (0 ≤ b) (.d (.int .i64 (bShr a b))) := (rfl)
@[go_sem high, go_sem ↓ high] theorem rdUn_compl64 : rdUn .xor k (.d (.int .i64 a)) = k True (.d (.int .i64 (bNot a))) := (rfl)
end
theorem bAnd_mask (a : Int) {w : Nat} (hw : w ≤ 8) : bAnd a (((2 ^ w : Nat) : Int) - 1) = (lowb a w : Nat) := and_mask a hw
theorem bAnd_one (a : Int) : bAnd a 1 = (lowb a 1 : Nat) := and_one a
theorem bAnd_nat {a b : Nat} (ha : a < 256) (hb : b < 256) : bAnd a b = (a &&& b : Nat) := and_nat ha hb
theorem bOr_nat {a b : Nat} (ha : a < 256) (hb : b < 256) : bOr a b = (a ||| b : Nat) := or_nat ha hb
theorem bXor_nat {a b : Nat} (ha : a < 256) (hb : b < 256) : bXor a b = (a ^^^ b : Nat) := xor_nat ha hb
theorem bNot_nat {a : Nat} (ha : a < 256) : bNot a = -1 - (a : Int) := compl_nat ha
theorem bShl_one {k : Nat} (h : k < 8) : bShl 1 (k : Int) = ((2 ^ k : Nat) : Int) := shl_one h
theorem bit_test (x : Int) {k : Nat} (h : k ≤ 64) : (bAnd (bShr x (k : Int)) 1 == 1) = ibit x k := by
  rw [bAnd_one, bShr, shr_fdiv x h, ibit_eq]
end Go.Proofs.YtkjlefahpdconaaDoor
end PartB1

section PartB2
/- The objects that make gates: counter, writer, valuer. -/
set_option linter.unusedSimpArgs false
set_option linter.unusedVariables false
set_option maxRecDepth 100000
namespace Go.Proofs.YtkjlefahpdconaaDoor
open Go Go.Ab

theorem objK_old {τ l : St} {i : Nat} {cs : List A} {k : List A → Prop} (h : τ[i]? = some (some (.cells cs))) : objK (τ ++ l) i k = k cs := objK_of (by rw [List.getElem?_append_left (lt_of_some h)]; exact h)
theorem live_old {τ l : St} {i : Nat} {o : Ob} (h : τ[i]? = some (some o)) : liveId (τ ++ l) i = true := live_of (o := o) (by rw [List.getElem?_append_left (lt_of_some h)]; exact h)
theorem set_old {τ l : St} {i : Nat} {x : Option Ob} (h : i < τ.length) : List.set (τ ++ l) i x = List.set τ i x ++ l := List.set_append_left _ _ h
theorem Weak.freezeAt {G : Glob} {n0 : Nat} {fr : Fr} {τ : St} (j i sz off : Nat) (xs : List D) {cs ds : List A} (hj : τ[j]? = some (some (.cells cs))) (hl : Lies cs sz off xs) (hi : τ[i]? = some (some (.cells ds))) (hij : j ≠ i) :
    Weak G n0 fr τ (frzL j sz off xs fr) ((τ.set j none).set i (some (.cells (frzL j sz off xs ds)))) := by
  have := Weak.freezeIn (G := G) (n0 := n0) (fr := fr) (σ := []) (l := τ) j i sz off xs hj hl hi hij
  simpa using this
abbrev excA : A := .ifc 90 (.d (.agg []))
theorem check_ac {i v c : Nat} {rest : List A} (σ : St) (hi : σ[i]? = some (some (.cells (dn v :: dn c :: rest)))) (G : Glob) (R : A → St → Prop) (hp : ¬ (v ≤ 8000 ∧ c ≤ 40000) → G.pan excA σ) (h : v ≤ 8000 ∧ c ≤ 40000 → ∀ r, R r σ) : AC Tryd.prog G 106 [.ref i 0] σ R := by
  refine ac_enter' mixed Tryd.func106 rfl Tryd.ntmps106 (by simp only [go_sem]) fun hbd => ?_
  simp only [List.length_cons, List.length_nil, Nat.reduceAdd, Nat.reduceSub, List.replicate_succ, List.replicate_zero, List.cons_append, List.nil_append]
  simp only [go_sem, live_of hi, objK_of hi, Tryd.results106]
  refine ⟨by omega, fun _ => ⟨by assumption, by omega⟩, fun q => ⟨⟨_, _, rfl⟩, hp fun hh => ?_⟩, fun q => ⟨_, _, Weak.refl _ _ _ _, h ?_ _⟩⟩
  · simp at q; omega
  · simp at q; omega
theorem begin_ac {i n : Nat} {x y : A} {rest : List A} (hn : n ≤ 8000) (σ : St) (hi : σ[i]? = some (some (.cells (x :: y :: rest)))) (G : Glob) (R : A → St → Prop) (h : ∀ r, R r (σ.set i (some (.cells (dn n :: di 2 :: rest))))) : AC Tryd.prog G 105 [.ref i 0, dn n] σ R := by
  refine ac_enter' mixed Tryd.func105 rfl Tryd.ntmps105 (by simp only [go_sem]) fun hbd => ?_
  simp only [List.length_cons, List.length_nil, Nat.reduceAdd, Nat.reduceSub, List.replicate_succ, List.replicate_zero, List.cons_append, List.nil_append]
  have h1 : (σ.set i (some (.cells (dn n :: y :: rest))))[i]? = some (some (.cells (dn n :: y :: rest))) := set_same hi
  have h2 : (σ.set i (some (.cells (dn n :: di 2 :: rest))))[i]? = some (some (.cells (dn n :: dn 2 :: rest))) := set_same hi
  simp only [go_sem, live_of hi, objK_of hi, live_of h1, objK_of h1, live_of h2, objK_of h2, List.set_set, Tryd.results105]
  refine ac' (check_ac _ h2 _ _ (fun hh => (hh ⟨hn, by omega⟩).elim) fun _ r => ?_)
  simp only [go_sem, Tryd.results105]
  exact ⟨_, _, Weak.refl _ _ _ _, h _⟩
theorem take_ac {i v c k : Nat} {rest : List A} (hv : v ≤ 100000) (hc : c + k ≤ 100000) (σ : St) (hi : σ[i]? = some (some (.cells (dn v :: dn c :: rest)))) (G : Glob) (R : A → St → Prop) (hp : ¬ (v + 1 ≤ 8000 ∧ c + k ≤ 40000) → G.pan excA (σ.set i (some (.cells (dn (v + 1) :: dn (c + k) :: rest)))))
    (h : v + 1 ≤ 8000 ∧ c + k ≤ 40000 → R (dn (v + 1)) (σ.set i (some (.cells (dn (v + 1) :: dn (c + k) :: rest))))) : AC Tryd.prog G 109 [.ref i 0, dn k] σ R := by
  refine ac_enter' mixed Tryd.func109 rfl Tryd.ntmps109 (by simp only [go_sem]) fun hbd => ?_
  simp only [List.length_cons, List.length_nil, Nat.reduceAdd, Nat.reduceSub, List.replicate_succ, List.replicate_zero, List.cons_append, List.nil_append]
  have w1 := wrapS v (by omega)
  have w2 : IntKind.i64.wrap ((c : Int) + k) = ((c + k : Nat) : Int) := by rw [wrap64_id _ (by omega) (by omega)]; rfl
  have h1 : (σ.set i (some (.cells (dn (v + 1) :: dn c :: rest))))[i]? = some (some (.cells (dn (v + 1) :: dn c :: rest))) := set_same hi
  have h2 : (σ.set i (some (.cells (dn (v + 1) :: dn (c + k) :: rest))))[i]? = some (some (.cells (dn (v + 1) :: dn (c + k) :: rest))) := set_same hi
  simp only [go_sem, live_of hi, objK_of hi, live_of h1, objK_of h1, live_of h2, objK_of h2, w1, w2, List.set_set, Tryd.results109]
  refine ⟨by omega, by omega, ac' (check_ac _ h2 _ _ hp fun hh r => ?_)⟩
  simp only [go_sem, live_of h2, objK_of h2, Tryd.results109]
  exact ⟨by omega, _, _, Weak.refl _ _ _ _, h hh⟩
/-- All but some objects are as they were. -/
def Keeps (X : List Nat) (σ σ' : St) : Prop := σ.length ≤ σ'.length ∧ ∀ id, id < σ.length → id ∉ X → σ'[id]? = σ[id]?
theorem Keeps.refl (X : List Nat) (σ : St) : Keeps X σ σ := ⟨Nat.le_refl _, fun _ _ _ => rfl⟩
/-- A step of the gates' object: its list lies where it lay, or behind what was there. -/
structure Stp (iw ic : Nat) (σ : St) (ic' : Nat) (σ' : St) : Prop where
  at' : ic' = ic ∨ σ.length ≤ ic'
  keep : Keeps [iw, ic] σ σ'
theorem Stp.refl (iw ic : Nat) (σ : St) : Stp iw ic σ ic σ := ⟨.inl rfl, Keeps.refl _ _⟩
theorem Keeps.step {iw ic ic' : Nat} {σ σ' s : St} (h : Stp iw ic σ ic' σ') (k : Keeps [iw, ic'] σ' s) : Keeps [iw, ic] σ s := by
  refine ⟨Nat.le_trans h.keep.1 k.1, fun id hid hn => ?_⟩
  simp only [List.mem_cons, List.not_mem_nil, or_false, not_or] at hn
  rw [k.2 id (Nat.lt_of_lt_of_le hid h.keep.1) (by
    simp only [List.mem_cons, List.not_mem_nil, or_false, not_or]
    refine ⟨hn.1, ?_⟩
    rcases h.at' with e | e
    · rw [e]; exact hn.2
    · omega), h.keep.2 id hid (by simp only [List.mem_cons, List.not_mem_nil, or_false, not_or]; exact hn)]
theorem Stp.trans {iw ic ic' ic'' : Nat} {σ σ' σ'' : St} (h : Stp iw ic σ ic' σ') (k : Stp iw ic' σ' ic'' σ'') : Stp iw ic σ ic'' σ'' := by
  refine ⟨?_, Keeps.step h k.keep⟩
  rcases k.at' with e | e
  · rw [e]; exact h.at'
  · exact .inr (Nat.le_trans h.keep.1 e)
/-- The objects that make gates: the writer of clauses; the valuer, from some values on. -/
inductive Gd where
  | wr
  | va (vs : List Bool)
namespace Gd
def tid : Gd → TypeId | wr => 62 | va _ => 71
def ow (first : Nat) : Gd → Nat → List Gt → List A
  | wr, ic, gs => [dn (first + gs.length), dn (costG gs), .rs ic 1 0 (clsG first gs).length (some 28)]
  | va vs, ic, gs => [dn (first + gs.length), dn (costG gs), .rs ic 1 0 (gateVals vs gs).length (some 4)]
def oc (first : Nat) : Gd → List Gt → List A
  | wr, gs => (clsG first gs).map fun c => .d (isD c)
  | va vs, gs => (gateVals vs gs).map fun b => .d (.bool b)
def new : Gd → Bool → FuncId
  | wr, false => 107
  | wr, true => 108
  | va _, false => 110
  | va _, true => 111
def ok (first : Nat) : Gd → Prop
  | wr => True
  | va vs => vs.length = first
end Gd
structure Bo (K : Gd) (first : Nat) (iw ic : Nat) (gs : List Gt) (σ : St) : Prop where
  w : σ[iw]? = some (some (.cells (K.ow first ic gs)))
  c : σ[ic]? = some (some (.cells (K.oc first gs)))
  ne : iw ≠ ic
/-- Cells of integers, by two. -/
theorem lies_one {n : Nat} {l : List Int} (h : l.length = n) : Lies (l.map fun x => A.d (iD x)) 1 0 (l.map iD) := lies_ints l
theorem frz_d (id sz off : Nat) (xs : List D) {α : Type} (f : α → D) (l : List α) : frzL id sz off xs (l.map fun c => A.d (f c)) = l.map fun c => A.d (f c) := by
  rw [frzL_eq, List.map_map]; rfl
theorem frz_app (id sz off : Nat) (xs : List D) (l m : List A) : frzL id sz off xs (l ++ m) = frzL id sz off xs l ++ frzL id sz off xs m := by
  rw [frzL_eq, frzL_eq, frzL_eq, List.map_append]
theorem ret_w {G : Glob} {n0 : Nat} {a a' : A} {τ τ' : St} {R : A → St → Prop} (hw : Weak G n0 [a] τ [a'] τ') (h : ∃ r σ', Weak G n0 [a'] τ' [r] σ' ∧ R r σ') : ∃ r σ', Weak G n0 [a] τ [r] σ' ∧ R r σ' := by
  obtain ⟨r, s, h1, h2⟩ := h
  exact ⟨r, s, hw.trans h1, h2⟩
theorem lies2 (x y : Int) : Lies [.d (iD x), .d (iD y)] 1 0 [iD x, iD y] := lies_ints [x, y]
theorem lies3 (x y z : Int) : Lies [.d (iD x), .d (iD y), .d (iD z)] 1 0 [iD x, iD y, iD z] := lies_ints [x, y, z]
set_option maxHeartbeats 4000000 in
theorem wand_ac {first iw ic : Nat} {gs : List Gt} {a b : Int} (hg : Good first gs) (ha : Lit (first + gs.length) a) (hb : Lit (first + gs.length) b) (σ : St) (hB : Bo .wr first iw ic gs σ) (G : Glob) (R : A → St → Prop)
    (hp : ¬ FitG first (gs ++ [(a, b, false)]) → ∀ s, Keeps [iw, ic] σ s → G.pan excA s) (h : ∀ σ' ic', FitG first (gs ++ [(a, b, false)]) → Bo .wr first iw ic' (gs ++ [(a, b, false)]) σ' → Stp iw ic σ ic' σ' → R (dn (first + gs.length + 1)) σ') : AC Tryd.prog G 107 [.ref iw 0, di a, di b] σ R := by
  obtain ⟨hw, hc, hne⟩ := hB
  simp only [Gd.ow, Gd.oc] at hw hc
  obtain ⟨hf1, hf2⟩ := hg.fit
  have hcl := clsG_len gs first
  have hcost := costG_snoc (a, b, false) gs
  have hcls := clsG_snoc (a, b, false) gs first
  simp only [Bool.false_eq_true, if_false] at hcost
  generalize hn : first + gs.length = n at *
  generalize hcc : costG gs = c at *
  obtain ⟨cl, hcl'⟩ : ∃ cl, clsG first gs = cl := ⟨_, rfl⟩
  rw [hcl'] at hw hc hcl hcls
  refine ac_enter' mixed Tryd.func107 rfl Tryd.ntmps107 (by simp only [go_sem]) fun hbd => ?_
  simp only [List.length_cons, List.length_nil, Nat.reduceAdd, Nat.reduceSub, List.replicate_succ, List.replicate_zero, List.cons_append, List.nil_append]
  simp only [go_sem, live_of hw, objK_of hw, Tryd.results107]
  refine ac' (take_ac (k := 3) (by omega) (by omega) σ hw _ _ (fun hnn => hp (fun hfit => hnn ⟨by have := hfit.1; simp at this; omega, by have := hfit.2; omega⟩) _ ⟨by simp, fun id hid hx => by
    simp only [List.mem_cons, List.not_mem_nil, or_false, not_or] at hx
    rw [set_other (Ne.symm hx.1)]⟩) fun hh => ?_)
  obtain ⟨τ, hτ⟩ : ∃ τ, τ = σ.set iw (some (Ob.cells (dn (n + 1) :: dn (c + 3) :: [A.rs ic 1 0 cl.length (some 28)]))) := ⟨_, rfl⟩
  have h1 : τ[iw]? = some (some (Ob.cells (dn (n + 1) :: dn (c + 3) :: [A.rs ic 1 0 cl.length (some 28)]))) := by rw [hτ]; exact set_same hw
  have h2 : τ[ic]? = some (some (.cells (cl.map fun c => .d (isD c)))) := by rw [hτ, set_other hne]; exact hc
  rw [← hτ]
  have hl : τ.length = σ.length := by rw [hτ, List.length_set]
  have w1 : IntKind.i64.wrap (0 - ((n + 1 : Nat) : Int)) = -((n + 1 : Nat) : Int) := by rw [wrap64_id _ (by omega) (by omega)]; omega
  have w2 : IntKind.i64.wrap (0 - a) = -a := by have := ha.2; rw [wrap64_id _ (by omega) (by omega)]; omega
  have w3 : IntKind.i64.wrap (0 - b) = -b := by have := hb.2; rw [wrap64_id _ (by omega) (by omega)]; omega
  have hlw := lt_of_some h1
  have hlc := lt_of_some h2
  have h3 : (τ.set ic none)[iw]? = some (some (Ob.cells (dn (n + 1) :: dn (c + 3) :: [A.rs ic 1 0 cl.length (some 28)]))) := by rw [set_other (Ne.symm hne)]; exact h1
  have hlw2 : iw < (τ.set ic none).length := by rw [List.length_set]; exact hlw
  have b1 : decide (ic < τ.length) = true := by simp [hlc]
  simp only [go_sem, live_of h1, objK_of h1, live_of h2, objK_of h2, live_old h1, objK_old h1, live_old h2, objK_old h2, live_old h3, objK_old h3, set_old hlw, set_old hlc, set_old hlw2, List.length_set, List.length_map, b1, Nat.mul_one, w1, w2, w3, Tryd.results107]
  refine ⟨⟨by simp only [maxLen]; omega, by omega⟩, live_of (o := .cells (cl.map (fun c => A.d (isD c)) ++ [A.rs τ.length 1 0 2 (some 3), A.rs (τ.length + 1) 1 0 2 (some 3), A.rs (τ.length + 2) 1 0 3 (some 3)])) (by rw [List.getElem?_append_right (by simp)]; simp), ?_⟩
  obtain ⟨τ2, hτ2⟩ : ∃ τ2, τ2 = (τ.set ic none).set iw (some (Ob.cells [dn (n + 1), dn (c + 3), A.rs (τ.length + 4) 1 0 (cl.length + 3) (some 28)])) := ⟨_, rfl⟩
  have e4 : τ.length = τ2.length := by rw [hτ2]; simp
  rw [← hτ2]
  have hwt : τ2[iw]? = some (some (Ob.cells [dn (n + 1), dn (c + 3), A.rs (τ.length + 4) 1 0 (cl.length + 3) (some 28)])) := by rw [hτ2]; exact set_same h3
  have hot : ∀ id, id ≠ iw → id ≠ ic → τ2[id]? = σ[id]? := fun id h4 h5 => by rw [hτ2, set_other (Ne.symm h4), set_other (Ne.symm h5), hτ, set_other (Ne.symm h4)]
  rw [e4] at hlw hlc hl hwt ⊢
  clear hτ2
  refine ret_w (a' := dn (n + 1)) (Weak.freezeIn (σ := τ2) 0 4 1 0 [iD (-((n + 1 : Nat) : Int)), iD a] rfl (lies2 _ _) rfl (by decide)) ?_
  refine ret_w (a' := dn (n + 1)) (Weak.freezeIn (σ := τ2) 1 4 1 0 [iD (-((n + 1 : Nat) : Int)), iD b] rfl (lies2 _ _) rfl (by decide)) ?_
  refine ret_w (a' := dn (n + 1)) (Weak.freezeIn (σ := τ2) 2 4 1 0 [iD ((n + 1 : Nat) : Int), iD (-a), iD (-b)] rfl (lies3 _ _ _) rfl (by decide)) ?_
  refine ⟨_, _, Weak.refl _ _ _ _, ?_⟩
  have hcl2 : frzL (τ2.length + 2) 1 0 [iD ((n + 1 : Nat) : Int), iD (-a), iD (-b)] (frzL (τ2.length + 1) 1 0 [iD (-((n + 1 : Nat) : Int)), iD b] (frzL (τ2.length + 0) 1 0 [iD (-((n + 1 : Nat) : Int)), iD a] (cl.map (fun c => A.d (isD c)) ++ [A.rs τ2.length 1 0 2 (some 3), A.rs (τ2.length + 1) 1 0 2 (some 3), A.rs (τ2.length + 2) 1 0 3 (some 3)])))
      = (clsG first (gs ++ [(a, b, false)])).map fun c => A.d (isD c) := by
    rw [hcls, List.map_append, frz_app, frz_app, frz_app, frz_d, frz_d, frz_d]
    simp [gateCls, frzL, A.frz, isD]
  simp only [List.set_cons_zero, List.set_cons_succ]
  rw [hcl2]
  have hlen : cl.length + 3 = (clsG first (gs ++ [(a, b, false)])).length := by rw [hcls]; simp [gateCls]
  refine h _ (τ2.length + 4) ⟨by simp; omega, by rw [hcost]; omega⟩ ⟨?_, ?_, ?_⟩ ⟨.inr (by omega), by simp; omega, fun id hid hx => ?_⟩
  · rw [List.getElem?_append_left hlw, hwt]
    simp only [Gd.ow, List.length_append, List.length_cons, List.length_nil, hcost, ← hlen]
    rw [show first + (gs.length + (0 + 1)) = n + 1 by omega]
  · rw [List.getElem?_append_right (by omega), Nat.add_sub_cancel_left]; rfl
  · omega
  · simp only [List.mem_cons, List.not_mem_nil, or_false, not_or] at hx
    rw [List.getElem?_append_left (by omega), hot id hx.1 hx.2]
set_option maxHeartbeats 4000000 in
theorem wxor_ac {first iw ic : Nat} {gs : List Gt} {a b : Int} (hg : Good first gs) (ha : Lit (first + gs.length) a) (hb : Lit (first + gs.length) b) (σ : St) (hB : Bo .wr first iw ic gs σ) (G : Glob) (R : A → St → Prop)
    (hp : ¬ FitG first (gs ++ [(a, b, true)]) → ∀ s, Keeps [iw, ic] σ s → G.pan excA s) (h : ∀ σ' ic', FitG first (gs ++ [(a, b, true)]) → Bo .wr first iw ic' (gs ++ [(a, b, true)]) σ' → Stp iw ic σ ic' σ' → R (dn (first + gs.length + 1)) σ') : AC Tryd.prog G 108 [.ref iw 0, di a, di b] σ R := by
  obtain ⟨hw, hc, hne⟩ := hB
  simp only [Gd.ow, Gd.oc] at hw hc
  obtain ⟨hf1, hf2⟩ := hg.fit
  have hcl := clsG_len gs first
  have hcost := costG_snoc (a, b, true) gs
  have hcls := clsG_snoc (a, b, true) gs first
  simp only [if_true] at hcost
  generalize hn : first + gs.length = n at *
  generalize hcc : costG gs = c at *
  obtain ⟨cl, hcl'⟩ : ∃ cl, clsG first gs = cl := ⟨_, rfl⟩
  rw [hcl'] at hw hc hcl hcls
  refine ac_enter' mixed Tryd.func108 rfl Tryd.ntmps108 (by simp only [go_sem]) fun hbd => ?_
  simp only [List.length_cons, List.length_nil, Nat.reduceAdd, Nat.reduceSub, List.replicate_succ, List.replicate_zero, List.cons_append, List.nil_append]
  simp only [go_sem, live_of hw, objK_of hw, Tryd.results108]
  refine ac' (take_ac (k := 4) (by omega) (by omega) σ hw _ _ (fun hnn => hp (fun hfit => hnn ⟨by have := hfit.1; simp at this; omega, by have := hfit.2; omega⟩) _ ⟨by simp, fun id hid hx => by
    simp only [List.mem_cons, List.not_mem_nil, or_false, not_or] at hx
    rw [set_other (Ne.symm hx.1)]⟩) fun hh => ?_)
  obtain ⟨τ, hτ⟩ : ∃ τ, τ = σ.set iw (some (Ob.cells (dn (n + 1) :: dn (c + 4) :: [A.rs ic 1 0 cl.length (some 28)]))) := ⟨_, rfl⟩
  have h1 : τ[iw]? = some (some (Ob.cells (dn (n + 1) :: dn (c + 4) :: [A.rs ic 1 0 cl.length (some 28)]))) := by rw [hτ]; exact set_same hw
  have h2 : τ[ic]? = some (some (.cells (cl.map fun c => .d (isD c)))) := by rw [hτ, set_other hne]; exact hc
  rw [← hτ]
  have hl : τ.length = σ.length := by rw [hτ, List.length_set]
  have w1 : IntKind.i64.wrap (0 - ((n + 1 : Nat) : Int)) = -((n + 1 : Nat) : Int) := by rw [wrap64_id _ (by omega) (by omega)]; omega
  have w2 : IntKind.i64.wrap (0 - a) = -a := by have := ha.2; rw [wrap64_id _ (by omega) (by omega)]; omega
  have w3 : IntKind.i64.wrap (0 - b) = -b := by have := hb.2; rw [wrap64_id _ (by omega) (by omega)]; omega
  have hlw := lt_of_some h1
  have hlc := lt_of_some h2
  have h3 : (τ.set ic none)[iw]? = some (some (Ob.cells (dn (n + 1) :: dn (c + 4) :: [A.rs ic 1 0 cl.length (some 28)]))) := by rw [set_other (Ne.symm hne)]; exact h1
  have hlw2 : iw < (τ.set ic none).length := by rw [List.length_set]; exact hlw
  have b1 : decide (ic < τ.length) = true := by simp [hlc]
  simp only [go_sem, live_of h1, objK_of h1, live_of h2, objK_of h2, live_old h1, objK_old h1, live_old h2, objK_old h2, live_old h3, objK_old h3, set_old hlw, set_old hlc, set_old hlw2, List.length_set, List.length_map, b1, Nat.mul_one, w1, w2, w3, Tryd.results108]
  refine ⟨⟨by simp only [maxLen]; omega, by omega⟩, live_of (o := .cells (cl.map (fun c => A.d (isD c)) ++ [A.rs τ.length 1 0 3 (some 3), A.rs (τ.length + 1) 1 0 3 (some 3), A.rs (τ.length + 2) 1 0 3 (some 3), A.rs (τ.length + 3) 1 0 3 (some 3)])) (by rw [List.getElem?_append_right (by simp)]; simp), ?_⟩
  obtain ⟨τ2, hτ2⟩ : ∃ τ2, τ2 = (τ.set ic none).set iw (some (Ob.cells [dn (n + 1), dn (c + 4), A.rs (τ.length + 5) 1 0 (cl.length + 4) (some 28)])) := ⟨_, rfl⟩
  have e4 : τ.length = τ2.length := by rw [hτ2]; simp
  rw [← hτ2]
  have hwt : τ2[iw]? = some (some (Ob.cells [dn (n + 1), dn (c + 4), A.rs (τ.length + 5) 1 0 (cl.length + 4) (some 28)])) := by rw [hτ2]; exact set_same h3
  have hot : ∀ id, id ≠ iw → id ≠ ic → τ2[id]? = σ[id]? := fun id h4 h5 => by rw [hτ2, set_other (Ne.symm h4), set_other (Ne.symm h5), hτ, set_other (Ne.symm h4)]
  rw [e4] at hlw hlc hl hwt ⊢
  clear hτ2
  refine ret_w (a' := dn (n + 1)) (Weak.freezeIn (σ := τ2) 0 5 1 0 [iD (-((n + 1 : Nat) : Int)), iD (a), iD (b)] rfl (lies3 _ _ _) rfl (by decide)) ?_
  refine ret_w (a' := dn (n + 1)) (Weak.freezeIn (σ := τ2) 1 5 1 0 [iD (-((n + 1 : Nat) : Int)), iD (-a), iD (-b)] rfl (lies3 _ _ _) rfl (by decide)) ?_
  refine ret_w (a' := dn (n + 1)) (Weak.freezeIn (σ := τ2) 2 5 1 0 [iD (((n + 1 : Nat) : Int)), iD (-a), iD (b)] rfl (lies3 _ _ _) rfl (by decide)) ?_
  refine ret_w (a' := dn (n + 1)) (Weak.freezeIn (σ := τ2) 3 5 1 0 [iD (((n + 1 : Nat) : Int)), iD (a), iD (-b)] rfl (lies3 _ _ _) rfl (by decide)) ?_
  refine ⟨_, _, Weak.refl _ _ _ _, ?_⟩
  have hcl2 : frzL (τ2.length + 3) 1 0 [iD (((n + 1 : Nat) : Int)), iD (a), iD (-b)] (frzL (τ2.length + 2) 1 0 [iD (((n + 1 : Nat) : Int)), iD (-a), iD (b)] (frzL (τ2.length + 1) 1 0 [iD (-((n + 1 : Nat) : Int)), iD (-a), iD (-b)] (frzL (τ2.length + 0) 1 0 [iD (-((n + 1 : Nat) : Int)), iD (a), iD (b)] (cl.map (fun c => A.d (isD c)) ++ [A.rs τ2.length 1 0 3 (some 3), A.rs (τ2.length + 1) 1 0 3 (some 3), A.rs (τ2.length + 2) 1 0 3 (some 3), A.rs (τ2.length + 3) 1 0 3 (some 3)]))))
      = (clsG first (gs ++ [(a, b, true)])).map fun c => A.d (isD c) := by
    rw [hcls, List.map_append, frz_app, frz_app, frz_app, frz_app, frz_d, frz_d, frz_d, frz_d]
    simp [gateCls, frzL, A.frz, isD]
  simp only [List.set_cons_zero, List.set_cons_succ]
  rw [hcl2]
  have hlen : cl.length + 4 = (clsG first (gs ++ [(a, b, true)])).length := by rw [hcls]; simp [gateCls]
  refine h _ (τ2.length + 5) ⟨by simp; omega, by rw [hcost]; omega⟩ ⟨?_, ?_, ?_⟩ ⟨.inr (by omega), by simp; omega, fun id hid hx => ?_⟩
  · rw [List.getElem?_append_left hlw, hwt]
    simp only [Gd.ow, List.length_append, List.length_cons, List.length_nil, hcost, ← hlen]
    rw [show first + (gs.length + (0 + 1)) = n + 1 by omega]
  · rw [List.getElem?_append_right (by omega), Nat.add_sub_cancel_left]; rfl
  · omega
  · simp only [List.mem_cons, List.not_mem_nil, or_false, not_or] at hx
    rw [List.getElem?_append_left (by omega), hot id hx.1 hx.2]
end Go.Proofs.YtkjlefahpdconaaDoor
end PartB2

section PartB3
/- The valuer: gates as values. -/
set_option linter.unusedSimpArgs false
set_option linter.unusedVariables false
set_option maxRecDepth 100000
namespace Go.Proofs.YtkjlefahpdconaaDoor
open Go Go.Ab

theorem getD_boolsA {l : List Bool} {k : Nat} (h : k < l.length) : (l.map fun x => A.d (.bool x)).getD k .any = A.d (.bool (l.getD k false)) := by
  simp only [List.getD_eq_getElem?_getD, List.getElem?_map, List.getElem?_eq_getElem h]; rfl
theorem value_ac {n c iw ic : Nat} {vs : List Bool} {l : Int} (hl : Lit vs.length l) (hv : vs.length ≤ 100000) (σ : St) (hw : σ[iw]? = some (some (.cells [dn n, dn c, .rs ic 1 0 vs.length (some 4)]))) (hc : σ[ic]? = some (some (.cells (vs.map fun b => .d (.bool b))))) (G : Glob) (R : A → St → Prop)
    (h : R (db (val (vOf vs) l)) σ) : AC Tryd.prog G 112 [.ref iw 0, di l] σ R := by
  obtain ⟨h0, h1, h2⟩ := hl
  refine ac_enter' mixed Tryd.func112 rfl Tryd.ntmps112 (by simp only [go_sem]) fun hbd => ?_
  simp only [List.length_cons, List.length_nil, Nat.reduceAdd, Nat.reduceSub, List.replicate_succ, List.replicate_zero, List.cons_append, List.nil_append]
  simp only [go_sem, Tryd.results112]
  refine ⟨fun q => ?_, fun q => ?_⟩
  · have q' : l < 0 := by simpa using q
    have w1 : IntKind.i64.wrap (0 - l) = -l := by rw [wrap64_id _ (by omega) (by omega)]; omega
    have w2 : IntKind.i64.wrap (-l - 1) = ((l.natAbs - 1 : Nat) : Int) := by rw [wrap64_id _ (by omega) (by omega)]; omega
    have e1 := getD_boolsA (l := vs) (k := l.natAbs - 1) (by omega)
    simp only [go_sem, live_of hw, objK_of hw, live_of hc, objK_of hc, w1, w2, Nat.mul_one, Nat.zero_add, List.length_map, e1, Tryd.results112]
    rw [val, if_pos q', vOf] at h
    exact ⟨⟨by omega, by omega⟩, by omega, _, _, Weak.refl _ _ _ _, h⟩
  · have q' : ¬ l < 0 := by simpa using q
    have w2 : IntKind.i64.wrap (l - 1) = ((l.natAbs - 1 : Nat) : Int) := by rw [wrap64_id _ (by omega) (by omega)]; omega
    have e1 := getD_boolsA (l := vs) (k := l.natAbs - 1) (by omega)
    simp only [go_sem, live_of hw, objK_of hw, live_of hc, objK_of hc, w2, Nat.mul_one, Nat.zero_add, List.length_map, e1, Tryd.results112]
    rw [val, if_neg q', vOf] at h
    exact ⟨⟨by omega, by omega⟩, by omega, _, _, Weak.refl _ _ _ _, h⟩
set_option maxHeartbeats 4000000 in
theorem vand_ac {first iw ic : Nat} {vs : List Bool} (hvs : vs.length = first) {gs : List Gt} {a b : Int} (hg : Good first gs) (ha : Lit (first + gs.length) a) (hb : Lit (first + gs.length) b) (σ : St) (hB : Bo (.va vs) first iw ic gs σ) (G : Glob) (R : A → St → Prop)
    (hp : ¬ FitG first (gs ++ [(a, b, false)]) → ∀ s, Keeps [iw, ic] σ s → G.pan excA s) (h : ∀ σ' ic', FitG first (gs ++ [(a, b, false)]) → Bo (.va vs) first iw ic' (gs ++ [(a, b, false)]) σ' → Stp iw ic σ ic' σ' → R (dn (first + gs.length + 1)) σ') : AC Tryd.prog G 110 [.ref iw 0, di a, di b] σ R := by
  obtain ⟨hw, hc, hne⟩ := hB
  simp only [Gd.ow, Gd.oc] at hw hc
  obtain ⟨hf1, hf2⟩ := hg.fit
  have hcost := costG_snoc (a, b, false) gs
  have hgv := gateVals_snoc (a, b, false) gs vs
  have hlen := gateVals_len gs vs
  rw [hvs] at hlen
  simp only [Bool.false_eq_true, if_false] at hcost
  generalize hn : first + gs.length = n at *
  generalize hcc : costG gs = c at *
  obtain ⟨cl, hcl'⟩ : ∃ cl, gateVals vs gs = cl := ⟨_, rfl⟩
  rw [hcl'] at hw hc hgv hlen
  refine ac_enter' mixed Tryd.func110 rfl Tryd.ntmps110 (by simp only [go_sem]) fun hbd => ?_
  simp only [List.length_cons, List.length_nil, Nat.reduceAdd, Nat.reduceSub, List.replicate_succ, List.replicate_zero, List.cons_append, List.nil_append]
  simp only [go_sem, live_of hw, objK_of hw, Tryd.results110]
  refine ac' (take_ac (k := 3) (by omega) (by omega) σ hw _ _ (fun hnn => hp (fun hfit => hnn ⟨by have := hfit.1; simp at this; omega, by have := hfit.2; omega⟩) _ ⟨by simp, fun id hid hx => by
    simp only [List.mem_cons, List.not_mem_nil, or_false, not_or] at hx
    rw [set_other (Ne.symm hx.1)]⟩) fun hh => ?_)
  obtain ⟨τ, hτ⟩ : ∃ τ, τ = σ.set iw (some (Ob.cells (dn (n + 1) :: dn (c + 3) :: [A.rs ic 1 0 cl.length (some 4)]))) := ⟨_, rfl⟩
  have h1 : τ[iw]? = some (some (Ob.cells (dn (n + 1) :: dn (c + 3) :: [A.rs ic 1 0 cl.length (some 4)]))) := by rw [hτ]; exact set_same hw
  have h2 : τ[ic]? = some (some (.cells (cl.map fun b => .d (.bool b)))) := by rw [hτ, set_other hne]; exact hc
  rw [← hτ]
  have hl : τ.length = σ.length := by rw [hτ, List.length_set]
  have hlw := lt_of_some h1
  have hlc := lt_of_some h2
  have h3 : (τ.set ic none)[iw]? = some (some (Ob.cells (dn (n + 1) :: dn (c + 3) :: [A.rs ic 1 0 cl.length (some 4)]))) := by rw [set_other (Ne.symm hne)]; exact h1
  have hlw2 : iw < (τ.set ic none).length := by rw [List.length_set]; exact hlw
  have b1 : decide (ic < τ.length) = true := by simp [hlc]
  simp only [go_sem, Tryd.results110]
  refine aw_plan (.tk 2 0 <| .tk 2 5 <| .alt 2 (.alt 3 (.alt 4 (.tk 11 7 <| .done) <| .alt 7 (.tk 3 8 <| .alt 4 (.tk 7 11 <| .done) <| .alt 11 (.take 4 <| .tk 6 12 <| .done) <| .stop) <| .stop) <| .alt 7 (.tk 3 8 <| .alt 3 (.alt 4 (.tk 7 11 <| .done) <| .alt 11 (.take 4 <| .tk 6 12 <| .done) <| .stop) <| .alt 11 (.tk 2 3 <| .tk 6 12 <| .done) <| .stop) <| .stop) <| .alt 7 (.tk 3 8 <| .alt 2 (.alt 3 (.alt 4 (.tk 7 11 <| .done) <| .alt 11 (.take 4 <| .tk 6 12 <| .done) <| .stop) <| .alt 11 (.tk 2 3 <| .tk 6 12 <| .done) <| .stop) <| .alt 11 (.tk 3 2 <| .tk 6 12 <| .done) <| .stop) <| .stop) (by kernel_rfl) ?_
  simp only [go_sem, live_of h1, objK_of h1, Tryd.results110]
  have stepA : ∀ K : A → St → Prop, K (db (val (vOf cl) a)) τ → AC Tryd.prog G 112 [.ref iw 0, di a] τ K := fun K hK => value_ac (by rw [hlen]; exact ha) (by omega) τ h1 h2 G K hK
  have stepB : ∀ K : A → St → Prop, K (db (val (vOf cl) b)) τ → AC Tryd.prog G 112 [.ref iw 0, di b] τ K := fun K hK => value_ac (by rw [hlen]; exact hb) (by omega) τ h1 h2 G K hK
  obtain ⟨τ2, hτ2⟩ : ∃ τ2, τ2 = (τ.set ic none).set iw (some (Ob.cells [dn (n + 1), dn (c + 3), A.rs (τ.length + 1) 1 0 (cl.length + 1) (some 4)])) := ⟨_, rfl⟩
  have e4 : τ.length = τ2.length := by rw [hτ2]; simp
  have hwt : τ2[iw]? = some (some (Ob.cells [dn (n + 1), dn (c + 3), A.rs (τ.length + 1) 1 0 (cl.length + 1) (some 4)])) := by rw [hτ2]; exact set_same h3
  have hot : ∀ id, id ≠ iw → id ≠ ic → τ2[id]? = σ[id]? := fun id h4 h5 => by rw [hτ2, set_other (Ne.symm h4), set_other (Ne.symm h5), hτ, set_other (Ne.symm h4)]
  obtain ⟨vb, hvb⟩ : ∃ vb, vb = (val (vOf cl) a && val (vOf cl) b) := ⟨_, rfl⟩
  have hgvb : gateVals vs (gs ++ [(a, b, false)]) = cl ++ [vb] := by rw [hgv, hvb]; rfl
  have fin : R (dn (n + 1)) (τ2 ++ [some (Ob.cells [A.d (D.bool vb)]), some (Ob.cells (List.map (fun b => A.d (D.bool b)) cl ++ [A.d (D.bool vb)]))]) := by
    refine h _ (τ2.length + 1) ⟨by simp; omega, by rw [hcost]; omega⟩ ⟨?_, ?_, ?_⟩ ⟨.inr (by omega), by simp; omega, fun id hid hx => ?_⟩
    · rw [List.getElem?_append_left (by omega), hwt]
      simp only [Gd.ow, List.length_append, List.length_cons, List.length_nil, hcost, hgvb, e4]
      rw [show first + (gs.length + (0 + 1)) = n + 1 by omega]
    · rw [List.getElem?_append_right (by omega), Nat.add_sub_cancel_left]
      simp only [Gd.oc, hgvb, List.map_append, List.map_cons, List.map_nil]; rfl
    · omega
    · simp only [List.mem_cons, List.not_mem_nil, or_false, not_or] at hx
      rw [List.getElem?_append_left (by omega), hot id hx.1 hx.2]
  refine ⟨⟨⟨ac' (stepA _ ?_), ac' (stepA _ ?_)⟩, ac' (stepA _ ?_)⟩, ac' (stepA _ ?_)⟩
  all_goals simp only [go_sem, live_of h1, objK_of h1, Tryd.results110]
  all_goals repeat' with_reducible apply And.intro
  all_goals refine ex' (.bool (val (vOf cl) b)) ?_
  all_goals simp only [go_sem, live_of h1, objK_of h1, live_of h2, objK_of h2, live_old h1, objK_old h1, live_old h2, objK_old h2, live_old h3, objK_old h3, set_old hlw, set_old hlc, set_old hlw2, List.length_set, List.length_map, b1, Nat.mul_one, Tryd.results110]
  all_goals refine ⟨fun q => ⟨q, ac' (stepB _ ⟨rfl, rfl⟩)⟩, ⟨by simp only [maxLen]; omega, by omega⟩, live_of (o := .cells (cl.map (fun b => A.d (D.bool b)) ++ [A.d (D.bool (val (vOf cl) a && val (vOf cl) b))])) (by rw [List.getElem?_append_right (by simp)]; simp), ?_⟩
  all_goals rw [← hτ2, ← hvb]
  all_goals exact ⟨_, _, Weak.refl _ _ _ _, fin⟩
set_option maxHeartbeats 4000000 in
theorem vxor_ac {first iw ic : Nat} {vs : List Bool} (hvs : vs.length = first) {gs : List Gt} {a b : Int} (hg : Good first gs) (ha : Lit (first + gs.length) a) (hb : Lit (first + gs.length) b) (σ : St) (hB : Bo (.va vs) first iw ic gs σ) (G : Glob) (R : A → St → Prop)
    (hp : ¬ FitG first (gs ++ [(a, b, true)]) → ∀ s, Keeps [iw, ic] σ s → G.pan excA s) (h : ∀ σ' ic', FitG first (gs ++ [(a, b, true)]) → Bo (.va vs) first iw ic' (gs ++ [(a, b, true)]) σ' → Stp iw ic σ ic' σ' → R (dn (first + gs.length + 1)) σ') : AC Tryd.prog G 111 [.ref iw 0, di a, di b] σ R := by
  obtain ⟨hw, hc, hne⟩ := hB
  simp only [Gd.ow, Gd.oc] at hw hc
  obtain ⟨hf1, hf2⟩ := hg.fit
  have hcost := costG_snoc (a, b, true) gs
  have hgv := gateVals_snoc (a, b, true) gs vs
  have hlen := gateVals_len gs vs
  rw [hvs] at hlen
  simp only [if_true] at hcost
  generalize hn : first + gs.length = n at *
  generalize hcc : costG gs = c at *
  obtain ⟨cl, hcl'⟩ : ∃ cl, gateVals vs gs = cl := ⟨_, rfl⟩
  rw [hcl'] at hw hc hgv hlen
  refine ac_enter' mixed Tryd.func111 rfl Tryd.ntmps111 (by simp only [go_sem]) fun hbd => ?_
  simp only [List.length_cons, List.length_nil, Nat.reduceAdd, Nat.reduceSub, List.replicate_succ, List.replicate_zero, List.cons_append, List.nil_append]
  simp only [go_sem, live_of hw, objK_of hw, Tryd.results111]
  refine ac' (take_ac (k := 4) (by omega) (by omega) σ hw _ _ (fun hnn => hp (fun hfit => hnn ⟨by have := hfit.1; simp at this; omega, by have := hfit.2; omega⟩) _ ⟨by simp, fun id hid hx => by
    simp only [List.mem_cons, List.not_mem_nil, or_false, not_or] at hx
    rw [set_other (Ne.symm hx.1)]⟩) fun hh => ?_)
  obtain ⟨τ, hτ⟩ : ∃ τ, τ = σ.set iw (some (Ob.cells (dn (n + 1) :: dn (c + 4) :: [A.rs ic 1 0 cl.length (some 4)]))) := ⟨_, rfl⟩
  have h1 : τ[iw]? = some (some (Ob.cells (dn (n + 1) :: dn (c + 4) :: [A.rs ic 1 0 cl.length (some 4)]))) := by rw [hτ]; exact set_same hw
  have h2 : τ[ic]? = some (some (.cells (cl.map fun b => .d (.bool b)))) := by rw [hτ, set_other hne]; exact hc
  rw [← hτ]
  have hl : τ.length = σ.length := by rw [hτ, List.length_set]
  have hlw := lt_of_some h1
  have hlc := lt_of_some h2
  have h3 : (τ.set ic none)[iw]? = some (some (Ob.cells (dn (n + 1) :: dn (c + 4) :: [A.rs ic 1 0 cl.length (some 4)]))) := by rw [set_other (Ne.symm hne)]; exact h1
  have hlw2 : iw < (τ.set ic none).length := by rw [List.length_set]; exact hlw
  have b1 : decide (ic < τ.length) = true := by simp [hlc]
  simp only [go_sem, Tryd.results111]
  refine aw_plan (.tk 2 0 <| .tk 2 5 <| .tk 2 8 <| .alt 2 (.alt 3 (.alt 4 (.take 7 <| .tk 7 10 <| .done) <| .alt 7 (.alt 4 (.tk 7 10 <| .done) <| .alt 10 (.take 4 <| .tk 6 11 <| .done) <| .stop) <| .stop) <| .alt 7 (.alt 3 (.alt 4 (.tk 7 10 <| .done) <| .alt 10 (.take 4 <| .tk 6 11 <| .done) <| .stop) <| .alt 10 (.tk 2 3 <| .tk 6 11 <| .done) <| .stop) <| .stop) <| .alt 7 (.alt 2 (.alt 3 (.alt 4 (.tk 7 10 <| .done) <| .alt 10 (.take 4 <| .tk 6 11 <| .done) <| .stop) <| .alt 10 (.tk 2 3 <| .tk 6 11 <| .done) <| .stop) <| .alt 10 (.tk 3 2 <| .tk 6 11 <| .done) <| .stop) <| .stop) (by kernel_rfl) ?_
  simp only [go_sem, live_of h1, objK_of h1, Tryd.results111]
  have stepA : ∀ K : A → St → Prop, K (db (val (vOf cl) a)) τ → AC Tryd.prog G 112 [.ref iw 0, di a] τ K := fun K hK => value_ac (by rw [hlen]; exact ha) (by omega) τ h1 h2 G K hK
  have stepB : ∀ K : A → St → Prop, K (db (val (vOf cl) b)) τ → AC Tryd.prog G 112 [.ref iw 0, di b] τ K := fun K hK => value_ac (by rw [hlen]; exact hb) (by omega) τ h1 h2 G K hK
  obtain ⟨τ2, hτ2⟩ : ∃ τ2, τ2 = (τ.set ic none).set iw (some (Ob.cells [dn (n + 1), dn (c + 4), A.rs (τ.length + 1) 1 0 (cl.length + 1) (some 4)])) := ⟨_, rfl⟩
  have e4 : τ.length = τ2.length := by rw [hτ2]; simp
  have hwt : τ2[iw]? = some (some (Ob.cells [dn (n + 1), dn (c + 4), A.rs (τ.length + 1) 1 0 (cl.length + 1) (some 4)])) := by rw [hτ2]; exact set_same h3
  have hot : ∀ id, id ≠ iw → id ≠ ic → τ2[id]? = σ[id]? := fun id h4 h5 => by rw [hτ2, set_other (Ne.symm h4), set_other (Ne.symm h5), hτ, set_other (Ne.symm h4)]
  obtain ⟨vb, hvb⟩ : ∃ vb, vb = (!(val (vOf cl) a == val (vOf cl) b)) := ⟨_, rfl⟩
  have hgvb : gateVals vs (gs ++ [(a, b, true)]) = cl ++ [vb] := by rw [hgv, hvb]; rfl
  have fin : R (dn (n + 1)) (τ2 ++ [some (Ob.cells [A.d (D.bool vb)]), some (Ob.cells (List.map (fun b => A.d (D.bool b)) cl ++ [A.d (D.bool vb)]))]) := by
    refine h _ (τ2.length + 1) ⟨by simp; omega, by rw [hcost]; omega⟩ ⟨?_, ?_, ?_⟩ ⟨.inr (by omega), by simp; omega, fun id hid hx => ?_⟩
    · rw [List.getElem?_append_left (by omega), hwt]
      simp only [Gd.ow, List.length_append, List.length_cons, List.length_nil, hcost, hgvb, e4]
      rw [show first + (gs.length + (0 + 1)) = n + 1 by omega]
    · rw [List.getElem?_append_right (by omega), Nat.add_sub_cancel_left]
      simp only [Gd.oc, hgvb, List.map_append, List.map_cons, List.map_nil]; rfl
    · omega
    · simp only [List.mem_cons, List.not_mem_nil, or_false, not_or] at hx
      rw [List.getElem?_append_left (by omega), hot id hx.1 hx.2]
  refine ⟨⟨⟨ac' (stepA _ ?_), ac' (stepA _ ?_)⟩, ac' (stepA _ ?_)⟩, ac' (stepA _ ?_)⟩
  all_goals simp only [go_sem, live_of h1, objK_of h1, Tryd.results111]
  all_goals repeat' with_reducible apply And.intro
  all_goals refine ac' (stepB _ ?_)
  all_goals simp only [go_sem, live_of h1, objK_of h1, live_of h2, objK_of h2, live_old h1, objK_old h1, live_old h2, objK_old h2, live_old h3, objK_old h3, set_old hlw, set_old hlc, set_old hlw2, List.length_set, List.length_map, b1, Nat.mul_one, Tryd.results111]
  all_goals refine ⟨⟨by simp only [maxLen]; omega, by omega⟩, live_of (o := .cells (cl.map (fun b => A.d (D.bool b)) ++ [A.d (D.bool (!(val (vOf cl) a == val (vOf cl) b)))])) (by rw [List.getElem?_append_right (by simp)]; simp), ?_⟩
  all_goals rw [← hτ2, ← hvb]
  all_goals exact ⟨_, _, Weak.refl _ _ _ _, fin⟩
end Go.Proofs.YtkjlefahpdconaaDoor
end PartB3

section PartB4
/- The builder: conjunctions and disjunctions of literals. -/
set_option linter.unusedSimpArgs false
set_option linter.unusedVariables false
set_option maxRecDepth 100000
namespace Go.Proofs.YtkjlefahpdconaaDoor
open Go Go.Ab

theorem gate_ac (K : Gd) {first iw ic : Nat} (hK : K.ok first) (x : Bool) {gs : List Gt} {a b : Int} (hg : Good first gs) (ha : Lit (first + gs.length) a) (hb : Lit (first + gs.length) b) (σ : St) (hB : Bo K first iw ic gs σ) (G : Glob) (R : A → St → Prop)
    (hp : ¬ FitG first (gs ++ [(a, b, x)]) → ∀ s, Keeps [iw, ic] σ s → G.pan excA s) (h : ∀ σ' ic', FitG first (gs ++ [(a, b, x)]) → Bo K first iw ic' (gs ++ [(a, b, x)]) σ' → Stp iw ic σ ic' σ' → R (dn (first + gs.length + 1)) σ') : AC Tryd.prog G (K.new x) [.ref iw 0, di a, di b] σ R := by
  cases K with
  | wr =>
    cases x
    · exact wand_ac hg ha hb σ hB G R hp h
    · exact wxor_ac hg ha hb σ hB G R hp h
  | va vs =>
    cases x
    · exact vand_ac hK hg ha hb σ hB G R hp h
    · exact vxor_ac hK hg ha hb σ hB G R hp h
theorem meth_and (K : Gd) : methT Tryd.prog K.tid "relyguard/encode.newAnd" = some (K.new false, .self) := by
  cases K <;> simp only [Gd.tid, Gd.new, go_sem]
theorem meth_xor (K : Gd) : methT Tryd.prog K.tid "relyguard/encode.newXor" = some (K.new true, .self) := by
  cases K <;> simp only [Gd.tid, Gd.new, go_sem]
def tabA : List A := [.d .nili, .ifc 108 (.fn (.func 64) [] []), .ifc 108 (.fn (.func 65) [] []), .ifc 108 (.fn (.func 67) [] []), .ifc 108 (.fn (.func 68) [] []), .ifc 111 (.fn (.func 52) [] []), .ifc 111 (.fn (.func 70) [] []), .ifc 111 (.fn (.func 71) [] []),
  .ifc 113 (.fn (.func 72) [] []), .ifc 113 (.fn (.func 74) [] []), .ifc 113 (.fn (.func 75) [] []), .ifc 116 (.fn (.func 76) [] []), .ifc 116 (.fn (.func 77) [] []), .ifc 116 (.fn (.func 78) [] []), .ifc 108 (.fn (.func 79) [] [])]
/-- What does not turn while expressions are translated: the gates' object, the builder; the store at the beginning; when there may be a panic. -/
structure Bx where
  K : Gd
  first : Nat
  lo : List Int
  ln : List Int
  ib : Nat
  iw : Nat
  ic0 : Nat
  σ0 : St
  Q : Prop
def Bx.cells (X : Bx) : List A := .ifc X.K.tid (.ref X.iw 0) :: (tabA ++ [.d (isD X.lo), .d (isD X.ln)])
/-- The builder in a store. -/
structure Bs (X : Bx) (G : Glob) (ic : Nat) (gs : List Gt) (σ : St) : Prop where
  bo : Bo X.K X.first X.iw ic gs σ
  b : σ[X.ib]? = some (some (.cells X.cells))
  nbw : X.ib ≠ X.iw
  nbc : X.ib ≠ ic
  good : Good X.first gs
  ok : X.K.ok X.first
  since : Stp X.iw X.ic0 X.σ0 ic σ
  pan : X.Q → ∀ s, Keeps [X.iw, X.ic0] X.σ0 s → G.pan excA s
section
variable {X : Bx} {G : Glob} {ic ic' : Nat} {gs gs' : List Gt} {σ σ' : St}
theorem Bs.hp (h : Bs X G ic gs σ) (q : X.Q) : ∀ s, Keeps [X.iw, ic] σ s → G.pan excA s := fun s k => h.pan q s (Keeps.step h.since k)
theorem Bs.step (h : Bs X G ic gs σ) (hB : Bo X.K X.first X.iw ic' gs' σ') (hs : Stp X.iw ic σ ic' σ') (hg : Good X.first gs') : Bs X G ic' gs' σ' := by
  have hlt := lt_of_some h.b
  refine ⟨hB, ?_, h.nbw, ?_, hg, h.ok, h.since.trans hs, h.pan⟩
  · rw [hs.keep.2 _ hlt (by simp only [List.mem_cons, List.not_mem_nil, or_false, not_or]; exact ⟨h.nbw, h.nbc⟩)]; exact h.b
  · rcases hs.at' with e | e
    · rw [e]; exact h.nbc
    · omega
/-- New objects behind what is there. -/
theorem Bs.app (h : Bs X G ic gs σ) (l : St) : Bs X G ic gs (σ ++ l) := by
  have get : ∀ {i : Nat} {o : Option Ob}, σ[i]? = some o → (σ ++ l)[i]? = some o := fun hi => by rw [List.getElem?_append_left (lt_of_some hi)]; exact hi
  refine ⟨⟨get h.bo.w, get h.bo.c, h.bo.ne⟩, get h.b, h.nbw, h.nbc, h.good, h.ok, h.since.trans ⟨.inl rfl, by simp, fun id hid _ => by rw [List.getElem?_append_left hid]⟩, h.pan⟩
theorem Stp.app {iw ic : Nat} (σ l : St) : Stp iw ic σ ic (σ ++ l) := ⟨.inl rfl, by simp, fun id hid _ => by rw [List.getElem?_append_left hid]⟩
/-- An object of one's own turns. -/
theorem Bs.set (h : Bs X G ic gs σ) {i : Nat} (h0 : X.σ0.length ≤ i) (h1 : i ≠ ic) (h2 : i ≠ X.ib) (h3 : i ≠ X.iw) (x : Option Ob) : Bs X G ic gs (σ.set i x) := by
  refine ⟨⟨by rw [set_other h3]; exact h.bo.w, by rw [set_other h1]; exact h.bo.c, h.bo.ne⟩, by rw [set_other h2]; exact h.b, h.nbw, h.nbc, h.good, h.ok, ⟨h.since.at', by simpa using h.since.keep.1, fun id hid hx => ?_⟩, h.pan⟩
  rw [set_other (by omega)]; exact h.since.keep.2 id hid hx
theorem Stp.set {iw ic ic' : Nat} {σ σ' : St} (h : Stp iw ic σ ic' σ') {i : Nat} (hi : σ.length ≤ i) (x : Option Ob) : Stp iw ic σ ic' (σ'.set i x) := by
  refine ⟨h.at', by simpa using h.keep.1, fun id hid hx => ?_⟩
  rw [set_other (by omega)]; exact h.keep.2 id hid hx
theorem Stp.at_ {iw ic ic' : Nat} {σ σ' : St} (h : Stp iw ic σ ic' σ') {i : Nat} (hi : i < σ.length) (h1 : i ≠ iw) (h2 : i ≠ ic) : σ'[i]? = σ[i]? ∧ i ≠ ic' := by
  refine ⟨h.keep.2 i hi (by simp only [List.mem_cons, List.not_mem_nil, or_false, not_or]; exact ⟨h1, h2⟩), ?_⟩
  rcases h.at' with e | e
  · rw [e]; exact h2
  · omega
/-- What a call of the builder comes to. -/
structure Cb (X : Bx) (G : Glob) {α : Type} (m : Gm α) (L : α → Nat → Prop) (f : α → A) (ic : Nat) (gs : List Gt) (σ : St) (R : A → St → Prop) : Prop where
  no : m gs = none → X.Q
  yes : ∀ r gs' ic' σ', m gs = some (r, gs') → L r (X.first + gs'.length) → X.first + gs.length ≤ X.first + gs'.length → Bs X G ic' gs' σ' → Stp X.iw ic σ ic' σ' → R (f r) σ'
/-- What is still to be done, and what it comes to in all. -/
structure After {α β : Type} (whole : Option (β × List Gt)) (g : α → β) (rest : Option (α × List Gt)) : Prop where
  no : rest = none → whole = none
  yes : ∀ r gs2, rest = some (r, gs2) → whole = some (g r, gs2)
abbrev LitR (r : Int) (n : Nat) : Prop := Lit n r
theorem bool_cases {b : Bool} {p : Prop} [Decidable p] (h : b = decide p) : (b = true → p) ∧ (b = false → ¬ p) := by
  subst h; exact ⟨of_decide_eq_true, of_decide_eq_false⟩
theorem and_ac (hs : Bs X G ic gs σ) {a b : Int} (ha : Lit (X.first + gs.length) a) (hb : Lit (X.first + gs.length) b) (R : A → St → Prop) (h : Cb X G (andM X.first a b) LitR di ic gs σ R) : AC Tryd.prog G 52 [.ref X.ib 0, di a, di b] σ R := by
  have hho := and_ho hs.good ha hb
  have hb0 := hs.b
  have w1 : IntKind.i64.wrap (0 - b) = -b := by have := hb.2; have := hs.good.fit.1; rw [wrap64_id _ (by omega) (by omega)]; omega
  have fin : ∀ r, andM X.first a b gs = some (r, gs) → R (di r) σ := fun r e => by
    obtain ⟨-, -, h3, -⟩ := hho r gs e
    exact h.yes r gs ic σ e h3 (Nat.le_refl _) hs (Stp.refl _ _ _)
  refine ac_enter' mixed Tryd.func52 rfl Tryd.ntmps52 (by simp only [go_sem]) fun hbd => ?_
  simp only [List.length_cons, List.length_nil, Nat.reduceAdd, Nat.reduceSub, List.replicate_succ, List.replicate_zero, List.cons_append, List.nil_append]
  simp only [go_sem, w1, live_of hb0, objK_of hb0, Bx.cells, meth_and, Tryd.results52]
  refine ⟨fun q => ⟨_, _, Weak.refl _ _ _ _, fin (-1) ?_⟩, fun q1 => ⟨fun q => ⟨_, _, Weak.refl _ _ _ _, fin b ?_⟩, fun q2 => ⟨fun q => ⟨_, _, Weak.refl _ _ _ _, fin a ?_⟩, fun q3 => ⟨fun q => ⟨_, _, Weak.refl _ _ _ _, fin a ?_⟩, fun q4 => ⟨fun q => ⟨_, _, Weak.refl _ _ _ _, fin (-1) ?_⟩, fun q5 => ⟨by simp [tabA], ac' ?_⟩⟩⟩⟩⟩⟩
  · have q : a = -1 ∨ b = -1 := by simpa using q
    unfold andM; rw [if_pos q]; rfl
  · have q1 : ¬ (a = -1 ∨ b = -1) := by simpa using q1
    have q : a = 1 := by simpa using q
    unfold andM; rw [if_neg q1, if_pos q]; rfl
  · have q1 : ¬ (a = -1 ∨ b = -1) := by simpa using q1
    have q2 : ¬ a = 1 := by simpa using q2
    have q : b = 1 := by simpa using q
    unfold andM; rw [if_neg q1, if_neg q2, if_pos q]; rfl
  · have q1 : ¬ (a = -1 ∨ b = -1) := by simpa using q1
    have q2 : ¬ a = 1 := by simpa using q2
    have q3 : ¬ b = 1 := by simpa using q3
    have q : a = b := by simpa using q
    unfold andM; rw [if_neg q1, if_neg q2, if_neg q3, if_pos q]; rfl
  · have q1 : ¬ (a = -1 ∨ b = -1) := by simpa using q1
    have q2 : ¬ a = 1 := by simpa using q2
    have q3 : ¬ b = 1 := by simpa using q3
    have q4 : ¬ a = b := by simpa using q4
    have q : a = -b := by simpa using q
    unfold andM; rw [if_neg q1, if_neg q2, if_neg q3, if_neg q4, if_pos q]; rfl
  · have q1 : ¬ (a = -1 ∨ b = -1) := by simpa using q1
    have q2 : ¬ a = 1 := by simpa using q2
    have q3 : ¬ b = 1 := by simpa using q3
    have q4 : ¬ a = b := by simpa using q4
    have q5 : ¬ a = -b := by simpa using q5
    have e : ∀ p, gateM X.first (a, b, false) gs = p → andM X.first a b gs = p := fun p hp => by
      unfold andM; rw [if_neg q1, if_neg q2, if_neg q3, if_neg q4, if_neg q5]; exact hp
    refine gate_ac X.K hs.ok false hs.good ha hb σ hs.bo G _ (fun hnf => hs.hp (h.no (e _ (by rw [gateM, if_neg hnf])))) fun σ' ic' hf hB hst => ?_
    have e2 := e _ (by rw [gateM, if_pos hf])
    obtain ⟨h1, -, h3, -⟩ := hho _ _ e2
    exact ⟨_, _, Weak.refl _ _ _ _, h.yes _ _ ic' σ' e2 h3 (by simp) (hs.step hB hst h1) hst⟩
theorem xor_ac (hs : Bs X G ic gs σ) {a b : Int} (ha : Lit (X.first + gs.length) a) (hb : Lit (X.first + gs.length) b) (R : A → St → Prop) (h : Cb X G (xorM X.first a b) LitR di ic gs σ R) : AC Tryd.prog G 71 [.ref X.ib 0, di a, di b] σ R := by
  have hho := xor_ho hs.good ha hb
  have hb0 := hs.b
  have w1 : IntKind.i64.wrap (0 - b) = -b := by have := hb.2; have := hs.good.fit.1; rw [wrap64_id _ (by omega) (by omega)]; omega
  have w2 : IntKind.i64.wrap (0 - a) = -a := by have := ha.2; have := hs.good.fit.1; rw [wrap64_id _ (by omega) (by omega)]; omega
  have fin : ∀ r, xorM X.first a b gs = some (r, gs) → R (di r) σ := fun r e => by
    obtain ⟨-, -, h3, -⟩ := hho r gs e
    exact h.yes r gs ic σ e h3 (Nat.le_refl _) hs (Stp.refl _ _ _)
  refine ac_enter' mixed Tryd.func71 rfl Tryd.ntmps71 (by simp only [go_sem]) fun hbd => ?_
  simp only [List.length_cons, List.length_nil, Nat.reduceAdd, Nat.reduceSub, List.replicate_succ, List.replicate_zero, List.cons_append, List.nil_append]
  simp only [go_sem, w1, w2, live_of hb0, objK_of hb0, Bx.cells, meth_xor, Tryd.results71]
  refine ⟨fun q => ⟨_, _, Weak.refl _ _ _ _, fin (-b) ?_⟩, fun q1 => ⟨fun q => ⟨_, _, Weak.refl _ _ _ _, fin b ?_⟩, fun q2 => ⟨fun q => ⟨_, _, Weak.refl _ _ _ _, fin (-a) ?_⟩, fun q3 => ⟨fun q => ⟨_, _, Weak.refl _ _ _ _, fin a ?_⟩, fun q4 => ⟨fun q => ⟨_, _, Weak.refl _ _ _ _, fin (-1) ?_⟩, fun q5 => ⟨fun q => ⟨_, _, Weak.refl _ _ _ _, fin 1 ?_⟩, fun q6 => ⟨by simp [tabA], ac' ?_⟩⟩⟩⟩⟩⟩⟩
  all_goals (try simp only [beq_iff_eq] at q) <;> (try simp only [beq_eq_false_iff_ne, ne_eq] at q1) <;> (try simp only [beq_eq_false_iff_ne, ne_eq] at q2) <;> (try simp only [beq_eq_false_iff_ne, ne_eq] at q3) <;> (try simp only [beq_eq_false_iff_ne, ne_eq] at q4) <;> (try simp only [beq_eq_false_iff_ne, ne_eq] at q5) <;> (try simp only [beq_eq_false_iff_ne, ne_eq] at q6)
  · unfold xorM; rw [if_pos q]; rfl
  · unfold xorM; rw [if_neg q1, if_pos q]; rfl
  · unfold xorM; rw [if_neg q1, if_neg q2, if_pos q]; rfl
  · unfold xorM; rw [if_neg q1, if_neg q2, if_neg q3, if_pos q]; rfl
  · unfold xorM; rw [if_neg q1, if_neg q2, if_neg q3, if_neg q4, if_pos q]; rfl
  · unfold xorM; rw [if_neg q1, if_neg q2, if_neg q3, if_neg q4, if_neg q5, if_pos q]; rfl
  · have e : ∀ p, gateM X.first (a, b, true) gs = p → xorM X.first a b gs = p := fun p hp => by
      unfold xorM; rw [if_neg q1, if_neg q2, if_neg q3, if_neg q4, if_neg q5, if_neg q6]; exact hp
    refine gate_ac X.K hs.ok true hs.good ha hb σ hs.bo G _ (fun hnf => hs.hp (h.no (e _ (by rw [gateM, if_neg hnf])))) fun σ' ic' hf hB hst => ?_
    have e2 := e _ (by rw [gateM, if_pos hf])
    obtain ⟨h1, -, h3, -⟩ := hho _ _ e2
    exact ⟨_, _, Weak.refl _ _ _ _, h.yes _ _ ic' σ' e2 h3 (by simp) (hs.step hB hst h1) hst⟩
theorem or_ac (hs : Bs X G ic gs σ) {a b : Int} (ha : Lit (X.first + gs.length) a) (hb : Lit (X.first + gs.length) b) (R : A → St → Prop) (h : Cb X G (orM X.first a b) LitR di ic gs σ R) : AC Tryd.prog G 70 [.ref X.ib 0, di a, di b] σ R := by
  have w1 : IntKind.i64.wrap (0 - b) = -b := by have := hb.2; have := hs.good.fit.1; rw [wrap64_id _ (by omega) (by omega)]; omega
  have w2 : IntKind.i64.wrap (0 - a) = -a := by have := ha.2; have := hs.good.fit.1; rw [wrap64_id _ (by omega) (by omega)]; omega
  refine ac_enter' mixed Tryd.func70 rfl Tryd.ntmps70 (by simp only [go_sem]) fun hbd => ?_
  simp only [List.length_cons, List.length_nil, Nat.reduceAdd, Nat.reduceSub, List.replicate_succ, List.replicate_zero, List.cons_append, List.nil_append]
  simp only [go_sem, w1, w2, Tryd.results70]
  refine ac' (and_ac hs ha.neg hb.neg _ ⟨fun e => h.no (by simp only [orM, bnd, e, Option.bind_none]), fun r gs' ic' σ' e hl hn hs' hst => ?_⟩)
  have w3 : IntKind.i64.wrap (0 - r) = -r := by have := hl.2; have := hs'.good.fit.1; rw [wrap64_id _ (by omega) (by omega)]; omega
  simp only [go_sem, w3, Tryd.results70]
  exact ⟨_, _, Weak.refl _ _ _ _, h.yes _ _ ic' σ' (by simp only [orM, bnd, e, Option.bind_some, retM]) hl.neg hn hs' hst⟩
end
end Go.Proofs.YtkjlefahpdconaaDoor
end PartB4

section PartB5
/- The builder: sums of lists. -/
set_option linter.unusedSimpArgs false
set_option linter.unusedVariables false
set_option maxRecDepth 100000
namespace Go.Proofs.YtkjlefahpdconaaDoor
open Go Go.Ab

/-- A list of integers of one's own, which is none of the gates' objects. -/
structure Lo (L : Nat) (l : List Int) (ic : Nat) (σ : St) : Prop where
  at_ : σ[L]? = some (some (.cells (l.map fun x => A.d (iD x))))
  ne : L ≠ ic
theorem Lo.step {L iw ic ic' : Nat} {l : List Int} {σ σ' : St} (h : Lo L l ic σ) (hw : L ≠ iw) (hs : Stp iw ic σ ic' σ') : Lo L l ic' σ' := by
  obtain ⟨h1, h2⟩ := hs.at_ (lt_of_some h.at_) hw h.ne
  exact ⟨h1.trans h.at_, h2⟩
theorem getD_intsA {l : List Int} {k : Nat} (h : k < l.length) : (l.map fun x => A.d (iD x)).getD k .any = A.d (iD (l.getD k 0)) := by
  simp only [List.getD_eq_getElem?_getD, List.getElem?_map, List.getElem?_eq_getElem h]; rfl
theorem splice_intsA {l : List Int} {j : Nat} (x : Int) (h : j < l.length) : (l.map fun x => A.d (iD x)).take j ++ A.d (iD x) :: (l.map fun x => A.d (iD x)).drop (j + 1) = (l.set j x).map fun x => A.d (iD x) := by
  rw [List.map_set, List.set_eq_take_append_cons_drop, if_pos (by simpa using h)]
theorem getD_isD {l : List Int} {j : Nat} (h : j < l.length) : List.getD (List.map iD l) j default = iD (l.getD j 0) := getD_mapD h
/-- A list that is being filled. -/
def part (acc : List Int) (n : Nat) : List Int := acc ++ List.replicate (n - acc.length) 0
theorem part_set {acc : List Int} {n : Nat} (h : acc.length < n) (x : Int) : (part acc n).set acc.length x = part (acc ++ [x]) n := by
  simp only [part, List.length_append, List.length_cons, List.length_nil]
  rw [List.set_append_right _ _ (Nat.le_refl _), Nat.sub_self]
  obtain ⟨k, hk⟩ : ∃ k, n - acc.length = k + 1 := ⟨n - acc.length - 1, by omega⟩
  rw [hk, List.replicate_succ, List.set_cons_zero, show n - (acc.length + (0 + 1)) = k by omega]
  simp
theorem part_len {acc : List Int} {n : Nat} (h : acc.length ≤ n) : (part acc n).length = n := by simp [part]; omega
theorem part_full {acc : List Int} {n : Nat} (h : n ≤ acc.length) : part acc n = acc := by simp [part, show n - acc.length = 0 by omega]
theorem zeros_cells (n : Nat) : (List.replicate n [A.d (.int .i64 0)]).flatten = (part [] n).map fun x => A.d (iD x) := by
  simp only [part, List.nil_append, List.length_nil, Nat.sub_zero]
  induction n with
  | zero => rfl
  | succ n ih => rw [List.replicate_succ, List.flatten_cons, ih, List.replicate_succ, List.map_cons]; rfl
section
variable {X : Bx} {G : Glob} {ic ic' : Nat} {gs gs' : List Gt} {σ σ' : St}
abbrev LLR (k : Nat) (r : List Int) (n : Nat) : Prop := LL k r n
abbrev dL (r : List Int) : A := .d (isD r)
theorem Bs.small (hs : Bs X G ic gs σ) : X.first + gs.length ≤ 8000 := hs.good.fit.1
set_option maxHeartbeats 4000000 in
theorem sum_ac (hs : Bs X G ic gs σ) {x y : List Int} {c : Int} (hx : LitL (X.first + gs.length) x) (hy : LitL (X.first + gs.length) y) (hl : x.length = y.length) (hx8 : x.length ≤ 64) (hc : Lit (X.first + gs.length) c) (R : A → St → Prop)
    (h : Cb X G (sumM X.first x y c) (LLR x.length) dL ic gs σ R) : AC Tryd.prog G 73 [.ref X.ib 0, dL x, dL y, di c] σ R := by
  have hho := sum_ho x y c hs.good hx hy hl hc
  have hiw : X.iw < σ.length := lt_of_some hs.bo.w
  have hic : ic < σ.length := lt_of_some hs.bo.c
  have hib : X.ib < σ.length := lt_of_some hs.b
  refine ac_enter' mixed Tryd.func73 rfl Tryd.ntmps73 (by simp only [go_sem]) fun hbd => ?_
  simp only [List.length_cons, List.length_nil, Nat.reduceAdd, Nat.reduceSub, List.replicate_succ, List.replicate_zero, List.cons_append, List.nil_append]
  simp only [dL, isD, go_sem, List.length_map, Int.toNat_natCast, zeros_cells]
  refine ⟨⟨by omega, by omega, by omega, by omega⟩, ?_⟩
  obtain ⟨L, hL⟩ : ∃ L, L = σ.length := ⟨_, rfl⟩
  refine aw_loop (fun m fr st => ∃ (j : Nat) (c' : Int) (acc : List Int) (gs1 : List Gt) (ic1 : Nat), j ≤ x.length ∧ m = x.length - j ∧ acc.length = j ∧
    After (sumM X.first x y c gs) (acc ++ ·) (sumM X.first (x.drop j) (y.drop j) c' gs1) ∧ Lit (X.first + gs1.length) c' ∧ gs.length ≤ gs1.length ∧
    Bs X G ic1 gs1 st ∧ Stp X.iw ic σ ic1 st ∧ Lo L (part acc x.length) ic1 st ∧
    fr = [.ref X.ib 0, .d (.sl 1 (x.map iD)), .d (.sl 1 (y.map iD)), di c', .any, .any, .any, .any, .any, .rs L 1 0 x.length (some 3), .any, .any, .any, .any, .any, .any, .any, .any, dn x.length, dn j, .any, .any, .any, .any, .any, .any, .any, .any, .any, .any, .any, .any, .any, .any, .any, .any, .any, .any, .any, .any, .any, .any, .any, .any, .any, .any, .any, .any, .any, .any, .any, .any, .any, .any, .any, .any, .any, .any, .any, .any, .any, .any, .any, .any]) x.length _ ?_ ?_
  · rw [hL]
    exact Wk.mask [0, 1, 2, 3, 9, 18, 19] ⟨0, c, [], gs, ic, by omega, rfl, rfl, ⟨fun e => e, fun rs gs2 e => e⟩, hc, Nat.le_refl _, hs.app _, Stp.app _ _, ⟨by simp, by omega⟩, rfl⟩
  rintro m fr st ⟨j, c', acc, gs1, ic1, hj, hm, hacc, heq, hc', hgl, hs1, hst1, hlo, rfl⟩
  have h8 := hs1.small
  rcases Nat.lt_or_ge j x.length with hlt | hge
  · have hd : decide ((j : Int) < (x.length : Int)) = true := by simp; omega
    have e1 := getD_isD hlt
    have e2 := getD_isD (l := y) (j := j) (by omega)
    have w1 := wrapS j (by omega)
    have hxa : Lit (X.first + gs1.length) (x.getD j 0) := (hx _ (getD_mem 0 hlt)).mono (by omega)
    have hyb : Lit (X.first + gs1.length) (y.getD j 0) := (hy _ (getD_mem 0 (by omega))).mono (by omega)
    rw [drop_getD 0 hlt, drop_getD (l := y) 0 (by omega)] at heq
    generalize x.getD j 0 = a at *
    generalize y.getD j 0 = b at *
    simp only [go_sem, hd, Tryd.results73]
    refine aw_plan (.tk 11 0 <| .done) (by kernel_rfl) ?_
    simp only [go_sem, List.length_map, e1, e2, Int.toNat_natCast, Tryd.results73]
    refine ⟨⟨by omega, by omega⟩, ⟨by omega, by omega⟩, ac' (xor_ac hs1 hxa hyb _ ⟨fun e => h.no (heq.no (by simp only [sumM, List.headD_cons]; simp only [bnd, e, Option.bind_none])), fun half gs2 ic2 σ2 q2 l2 n2 hs2 hst2 => ?_⟩)⟩
    simp only [go_sem, Tryd.results73]
    refine ac' (xor_ac hs2 l2 (hc'.mono n2) _ ⟨fun e => h.no (heq.no (by simp only [sumM, List.headD_cons]; simp only [bnd, q2, e, Option.bind_some, Option.bind_none])), fun r gs3 ic3 σ3 q3 l3 n3 hs3 hst3 => ?_⟩)
    have hlo3 := (hlo.step (by omega) hst2).step (by omega) hst3
    have hset : ((part acc x.length).map fun x => A.d (iD x)).take j ++ A.d (iD r) :: ((part acc x.length).map fun x => A.d (iD x)).drop (j + 1) = (part (acc ++ [r]) x.length).map fun x => A.d (iD x) := by
      rw [splice_intsA r (by rw [part_len (by omega)]; exact hlt), ← hacc, part_set (by omega)]
    have hpl : (part acc x.length).length = x.length := part_len (by omega)
    have hlo4 : Lo L (part (acc ++ [r]) x.length) ic3 (σ3.set L (some (.cells ((part (acc ++ [r]) x.length).map fun x => A.d (iD x))))) := ⟨set_same hlo3.at_, hlo3.ne⟩
    have hs4 := hs3.set (i := L) (by have := hs.since.keep.1; omega) hlo3.ne (by omega) (by omega) (some (.cells ((part (acc ++ [r]) x.length).map fun x => A.d (iD x))))
    have hst4 := ((hst1.trans hst2).trans hst3).set (i := L) (by omega) (some (.cells ((part (acc ++ [r]) x.length).map fun x => A.d (iD x))))
    have w2 : IntKind.i64.wrap ((x.length : Int) - 1) = (x.length : Int) - 1 := by rw [wrap64_id _ (by omega) (by omega)]
    simp only [go_sem, live_of hlo3.at_, objK_of hlo3.at_, Nat.mul_one, Nat.zero_add, List.length_map, Int.toNat_natCast, hset, hpl, w1, w2, Tryd.results73]
    refine ⟨⟨by omega, by omega⟩, hlt, ?_⟩
    generalize hσ4 : σ3.set L (some (.cells ((part (acc ++ [r]) x.length).map fun x => A.d (iD x)))) = σ4 at *
    refine ⟨fun q => ?_, fun q => ?_⟩
    · have q' : (j : Int) < (x.length : Int) - 1 := by simpa using q
      have hne : x.drop (j + 1) ≠ [] := fun e => by
        have := congrArg List.length e
        simp at this; omega
      refine aw_plan (.tk 11 0 <| .done) (by kernel_rfl) ?_
      simp only [go_sem, List.length_map, e1, e2, Int.toNat_natCast, Tryd.results73]
      refine ⟨⟨by omega, by omega⟩, ⟨by omega, by omega⟩, ac' (and_ac hs4 (hxa.mono (by omega)) (hyb.mono (by omega)) _ ⟨fun e => h.no (heq.no (by simp only [sumM, List.headD_cons, if_neg hne]; simp only [bnd, q2, q3, e, Option.bind_some, Option.bind_none])), fun u gs5 ic5 σ5 q5 l5 n5 hs5 hst5 => ?_⟩)⟩
      simp only [go_sem, Tryd.results73]
      refine ac' (and_ac hs5 (l2.mono (by omega)) (hc'.mono (by omega)) _ ⟨fun e => h.no (heq.no (by simp only [sumM, List.headD_cons, if_neg hne]; simp only [bnd, q2, q3, q5, e, Option.bind_some, Option.bind_none])), fun v gs6 ic6 σ6 q6 l6 n6 hs6 hst6 => ?_⟩)
      simp only [go_sem, Tryd.results73]
      refine ac' (or_ac hs6 (l5.mono (by omega)) l6 _ ⟨fun e => h.no (heq.no (by simp only [sumM, List.headD_cons, if_neg hne]; simp only [bnd, q2, q3, q5, q6, e, Option.bind_some, Option.bind_none])), fun c2 gs7 ic7 σ7 q7 l7 n7 hs7 hst7 => ?_⟩)
      have hlo7 := ((hlo4.step (by omega) hst5).step (by omega) hst6).step (by omega) hst7
      simp only [go_sem, w1, Tryd.results73]
      refine Wk.mask [0, 1, 2, 3, 9, 18, 19] ⟨x.length - (j + 1), by omega, j + 1, c2, acc ++ [r], gs7, ic7, hlt, rfl, by simp [hacc], ⟨fun e => heq.no (by simp only [sumM, List.headD_cons, List.tail_cons, if_neg hne]; simp only [bnd, q2, q3, q5, q6, q7, e, Option.bind_some, Option.bind_none]), fun rs gs8 e => ?_⟩, l7, by omega, hs7, ((hst4.trans hst5).trans hst6).trans hst7, hlo7, rfl⟩
      rw [heq.yes (r :: rs) gs8]
      · simp
      · simp only [sumM, List.headD_cons, List.tail_cons, if_neg hne]
        simp only [bnd, q2, q3, q5, q6, q7, e, Option.bind_some, retM]
    · have q' : ¬ (j : Int) < (x.length : Int) - 1 := by simpa using q
      have hnil : x.drop (j + 1) = [] := List.drop_eq_nil_of_le (by omega)
      refine Wk.mask [0, 1, 2, 3, 9, 18, 19] ⟨x.length - (j + 1), by omega, j + 1, c', acc ++ [r], gs3, ic3, hlt, rfl, by simp [hacc], ⟨fun e => (by rw [hnil] at e; simp [sumM, retM] at e), fun rs gs8 e => ?_⟩, hc'.mono (by omega), by omega, hs4, hst4, hlo4, rfl⟩
      rw [hnil] at e heq
      simp only [sumM, retM, Option.some.injEq, Prod.mk.injEq] at e
      obtain ⟨rfl, rfl⟩ := e
      rw [heq.yes [r] gs3]
      · simp
      · simp only [sumM, List.headD_cons, if_true]
        simp only [bnd, q2, q3, Option.bind_some, retM]
  · have hd : decide ((j : Int) < (x.length : Int)) = false := by simp; omega
    simp only [go_sem, hd, Tryd.results73]
    have hfull := part_full (acc := acc) (n := x.length) (by omega)
    have e := heq.yes [] gs1 (by rw [List.drop_eq_nil_of_le hge]; rfl)
    rw [List.append_nil] at e
    obtain ⟨-, -, hll, -⟩ := hho _ _ e
    rw [hfull] at hlo
    refine ret_w (a' := dL acc) (τ' := st.set L none) ?_ ⟨_, _, Weak.refl _ _ _ _, h.yes acc gs1 ic1 _ e hll (by omega) (hs1.set (i := L) (by have := hs.since.keep.1; omega) hlo.ne (by omega) (by omega) none) (hst1.set (by omega) none)⟩
    have := Weak.freeze (G := G) (n0 := σ.length) (fr := [.rs L 1 0 x.length (some 3)]) L 1 0 (acc.map iD) hlo.at_ (lies_ints acc)
    simp only [frzL, A.frz, List.length_map, hacc, show j = x.length by omega, and_self, if_true] at this
    exact this
end
end Go.Proofs.YtkjlefahpdconaaDoor
end PartB5
