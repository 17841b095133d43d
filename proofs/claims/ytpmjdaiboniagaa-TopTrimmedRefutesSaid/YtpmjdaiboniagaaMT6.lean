import Derived.Test.YtpmjdaiboniagaaMT5

section PartC15
/- The checker's law package: small functions. -/
set_option linter.unusedSimpArgs false
set_option linter.unusedVariables false
set_option maxRecDepth 100000
namespace Go.Proofs.Ytpmjdaiboniagaa
open Go Go.Ab

theorem flat_isD (l : List Int) : flat (l.map iD) = l.map fun x => A.d (iD x) := by
  induction l with
  | nil => rfl
  | cons x l ih => rw [List.map_cons, flat_cons, ih]; rfl
theorem flat_bools (l : List Bool) : flat (l.map D.bool) = l.map fun x => A.d (.bool x) := by
  induction l with
  | nil => rfl
  | cons x l ih => rw [List.map_cons, flat_cons, ih]; rfl
theorem flat_cls (l : List (List Int)) : flat (l.map isD) = l.map fun x => A.d (isD x) := by
  induction l with
  | nil => rfl
  | cons x l ih => rw [List.map_cons, flat_cons, ih]; rfl
theorem lies_map {α : Type} (f : α → D) (hf : ∀ x, (f x).cells = [f x] ∧ (f x).one = true) (l : List α) : Lies (l.map fun x => A.d (f x)) 1 0 (l.map f) := by
  have e : flat (l.map f) = l.map fun x => A.d (f x) := by
    induction l with
    | nil => rfl
    | cons x l ih => rw [List.map_cons, flat_cons, ih, (hf x).1]; rfl
  rw [← e]
  refine lies_of fun x hx => ?_
  obtain ⟨y, _, rfl⟩ := List.mem_map.1 hx
  rw [(hf y).1]
  exact ⟨rfl, fun z hz => by simp at hz; rw [hz]; exact (hf y).2⟩
theorem lies_ints (l : List Int) : Lies (l.map fun x => A.d (iD x)) 1 0 (l.map iD) := lies_map iD (fun _ => ⟨rfl, rfl⟩) l
theorem lies_bools (l : List Bool) : Lies (l.map fun x => A.d (D.bool x)) 1 0 (l.map D.bool) := lies_map D.bool (fun _ => ⟨rfl, rfl⟩) l
theorem lies_cls (l : List (List Int)) : Lies (l.map fun x => A.d (isD x)) 1 0 (l.map isD) := lies_map isD (fun _ => ⟨rfl, rfl⟩) l
theorem take_snoc {α : Type} (d : α) {l : List α} {j : Nat} (h : j < l.length) : l.take (j + 1) = l.take j ++ [l.getD j d] := by
  rw [List.take_add_one, List.getD_eq_getElem?_getD, List.getElem?_eq_getElem h]; rfl

theorem small_ac (f : Cnf) (l : List Stp) (h1 : f.cls.length ≤ reachBytes) (h2 : l.length ≤ reachBytes) (σ : St) (G : Glob) (R : A → St → Prop) (h : R (db (smallC f l)) σ) : AC Try.prog G 36 [.d (cnfD f), .d (stpsD l)] σ R := by
  obtain ⟨vars, cls⟩ := f
  simp only [reachBytes] at h1 h2
  refine ac_enter mixed Try.func36 rfl Try.ntmps36 (by simp only [go_sem]) fun hbd => ?_
  simp only [List.length_cons, List.length_nil, Nat.reduceAdd, Nat.reduceSub, List.replicate_succ, List.replicate_zero, List.cons_append, List.nil_append]
  simp only [cnfD, clsD, stpsD, go_sem, List.length_map, Try.results36]
  rw [smallC] at h
  simp only at h
  refine ⟨fun hb => ret_d hbd ?_, fun hb => ?_⟩
  · rw [hb] at h; exact h
  rw [hb, Bool.not_false, Bool.true_and] at h
  generalize hrest : (l.all fun s => !(decide ((12 : Int) < s.lits.length) || decide ((40 : Int) < s.hints.length))) = rest at h
  refine aw_loop (fun m fr st => ∃ j : Nat, j ≤ cls.length ∧ m = cls.length - j ∧ R (db ((cls.drop j).all (fun c => !decide ((12 : Int) < c.length)) && rest)) σ ∧ fr = [.any, .d (.sl 2 (l.map stpD)), .ref σ.length 0, .any, .any, dn j, .any, .any, .any, .any, .any, .any, .any, .any, .any, .any, .any, .any, .any, .any, .any, .any, .any, .any, .any, .any, .any, .any, .any, .any, .any, .any, .any, .any, .any, .any, .any, .any, .any, .any, .any, .any, .any, .any, .any, .any, .any, .any, .any, .any, .any, .any] ∧
    st = σ ++ [some (.cells [.d (iD vars), .d (.sl 1 (cls.map isD))])]) cls.length _ (Wk.mask [1, 2, 5] ⟨0, by omega, rfl, h, rfl, rfl⟩) ?_
  clear h
  rintro m fr st ⟨j, hj, hm, hR, rfl, rfl⟩
  rcases Nat.lt_or_ge j cls.length with hlt | hge
  · have hd : decide ((j : Int) < (cls.length : Int)) = true := decide_eq_true (by omega)
    have e1 := isD_getD hlt
    have w2 := wrapS j (by omega)
    rw [drop_getD [] hlt, List.all_cons] at hR
    simp only [go_sem, List.length_map, hd, e1, w2, Try.results36]
    refine ⟨⟨by omega, by omega⟩, fun hb => ret_d hbd ?_, fun hb => Wk.mask [1, 2, 5] ⟨cls.length - (j + 1), by omega, j + 1, hlt, rfl, ?_, rfl, rfl⟩⟩
    · rw [hb] at hR; simpa using hR
    · rw [hb] at hR; simpa using hR
  · have hd : decide ((j : Int) < (cls.length : Int)) = false := decide_eq_false (by omega)
    rw [List.drop_eq_nil_of_le hge, List.all_nil, Bool.true_and, ← hrest] at hR
    simp only [go_sem, List.length_map, hd]
    refine aw_loop (fun m fr st => ∃ j : Nat, j ≤ l.length ∧ m = l.length - j ∧ R (db ((l.drop j).all fun s => !(decide ((12 : Int) < s.lits.length) || decide ((40 : Int) < s.hints.length)))) σ ∧ fr = [.any, .d (.sl 2 (l.map stpD)), .any, .any, .any, .any, dn j, .any, .any, .any, .any, .any, .any, .any, .any, .any, .any, .any, .any, .any, .any, .any, .any, .any, .any, .any, .any, .any, .any, .any, .any, .any, .any, .any, .any, .any, .any, .any, .any, .any, .any, .any, .any, .any, .any, .any, .any, .any, .any, .any, .any, .any] ∧
      st = σ ++ [some (.cells [.d (iD vars), .d (.sl 1 (cls.map isD))])]) l.length _ (Wk.mask [1, 6] ⟨0, by omega, rfl, hR, rfl, rfl⟩) ?_
    clear hR hd
    rintro m' fr st ⟨k, hk, hm', hR, rfl, rfl⟩
    rcases Nat.lt_or_ge k l.length with klt | kge
    · have kd : decide ((k : Int) < (l.length : Int)) = true := decide_eq_true (by omega)
      have e2 := stpD_getD klt
      have w3 := wrapS k (by omega)
      rw [drop_getD ⟨[], []⟩ klt, List.all_cons] at hR
      simp only [go_sem, isD, List.length_map, kd, e2, w3, Try.results36]
      refine ⟨⟨by omega, by omega⟩, fun _ => ⟨by omega, by omega⟩, fun hb => ret_d hbd ?_, fun hb => Wk.mask [1, 6] ⟨l.length - (k + 1), by omega, k + 1, klt, rfl, ?_, rfl, rfl⟩⟩
      · rw [hb] at hR; simpa using hR
      · rw [hb] at hR; simpa using hR
    · have kd : decide ((k : Int) < (l.length : Int)) = false := decide_eq_false (by omega)
      simp only [go_sem, List.length_map, kd, Try.results36]
      rw [List.drop_eq_nil_of_le kge] at hR
      exact ret_d hbd hR
theorem turnedO_ac (c : List Int) (hc : c.length ≤ 1000000) (σ : St) (G : Glob) (R : A → St → Prop) (h : R (.rs σ.length 1 0 c.length (some 3)) (σ ++ [ints c.reverse])) : AC Try.prog G 48 [.d (isD c)] σ R := by
  refine ac_enter mixed Try.func48 rfl Try.ntmps48 (by simp only [go_sem]) fun hbd => ?_
  simp only [List.length_cons, List.length_nil, Nat.reduceAdd, Nat.reduceSub, List.replicate_succ, List.replicate_zero, List.cons_append, List.nil_append]
  have w1 : IntKind.i64.wrap ((c.length : Int) - 1) = (c.length : Int) - 1 := wrap64_id _ (by omega) (by omega)
  simp only [isD, go_sem, List.length_map, w1]
  refine aw_loop (fun m fr st => ∃ j : Nat, j ≤ c.length ∧ m = c.length - j ∧ fr = [.d (.sl 1 (c.map iD)), .any, .any, .rs σ.length 1 0 j (some 3), di ((c.length : Int) - 1 - j), .any, .any, .any, .any, .any, .any, .any, .any, .any, .any, .any, .any, .any, .any, .any] ∧ st = σ ++ [ints (c.reverse.take j)]) c.length _
    ⟨_, _, (Weak.mask [0, 3, 4]).trans (Weak.empty 3 1 (some 3) rfl), 0, by omega, rfl, by simp [maskN], by simp [ints]⟩ ?_
  rintro m fr st ⟨j, hj, hm, rfl, rfl⟩
  rcases Nat.lt_or_ge j c.length with hlt | hge
  · have hd : decide ((0 : Int) ≤ (c.length : Int) - 1 - j) = true := decide_eq_true (by omega)
    have hn : ((c.length : Int) - 1 - j) = ((c.length - 1 - j : Nat) : Int) := by omega
    have e1 : List.getD (List.map iD c) (c.length - 1 - j) default = iD (c.getD (c.length - 1 - j) 0) := getD_mapD (by omega)
    have w2 : IntKind.i64.wrap (((c.length - 1 - j : Nat) : Int) - 1) = (c.length : Int) - 1 - ((j + 1 : Nat) : Int) := by rw [wrap64_id _ (by omega) (by omega)]; omega
    have hrev : c.reverse.getD j 0 = c.getD (c.length - 1 - j) 0 := by
      rw [List.getD_eq_getElem?_getD, List.getElem?_reverse hlt, List.getD_eq_getElem?_getD]
    rw [hn] at hd ⊢
    simp only [go_sem, List.length_map, hd, e1, w2]
    refine ⟨⟨by omega, by omega⟩, ⟨by rw [List.length_take, List.length_reverse]; omega, by simp only [maxLen]; omega, by omega⟩, ?_⟩
    refine Wk.keep [0, 3, 4] [2] (by decide) (Nat.le_refl _) hbd ⟨c.length - (j + 1), by omega, j + 1, hlt, rfl, ?_, ?_⟩
    · simp only [go_sem]
    · rw [take_snoc 0 (by rw [List.length_reverse]; exact hlt), hrev]
      simp only [go_sem, List.map_append, List.map_cons, List.map_nil, ints]
  · have hd : decide ((0 : Int) ≤ (c.length : Int) - 1 - j) = false := decide_eq_false (by omega)
    have htk : c.reverse.take j = c.reverse := List.take_of_length_le (by rw [List.length_reverse]; exact hge)
    simp only [go_sem, hd, htk, Try.results48]
    rw [show j = c.length by omega]
    refine ret_keep [0] (by decide) hbd ?_
    simp only [go_sem]
    exact h
theorem turned_ac (c : List Int) (hc : c.length ≤ 1000000) (σ : St) (G : Glob) (R : A → St → Prop) (h : R (.d (isD c.reverse)) σ) : AC Try.prog G 48 [.d (isD c)] σ R := by
  refine ac_bd (by simp only [go_sem]) fun hbd => ?_
  refine ac_post (turnedO_ac c hc σ G _ ?_)
  refine ret_frz 0 1 0 (c.reverse.map iD) rfl (lies_ints _) ?_
  simp only [go_sem, List.length_map, List.length_reverse]
  exact ret_d hbd h
def bitsL (n : Int) : Nat → List Bool
  | 0 => []
  | k + 1 => (Int.tmod n 2 == 1) :: bitsL (Int.tdiv n 2) k
theorem bitsL_len (n : Int) : ∀ k, (bitsL n k).length = k
  | 0 => rfl
  | k + 1 => by simp [bitsL, bitsL_len _ k]
theorem bits_ac (n : Nat) (vars : Nat) (hn : n ≤ 1000000) (hv : vars ≤ 1000000) (σ : St) (G : Glob) (R : A → St → Prop) (h : R (.d (bsD (bitsL n vars))) σ) : AC Try.prog G 44 [dn n, dn vars] σ R := by
  refine ac_enter mixed Try.func44 rfl Try.ntmps44 (by simp only [go_sem]) fun hbd => ?_
  simp only [List.length_cons, List.length_nil, Nat.reduceAdd, Nat.reduceSub, List.replicate_succ, List.replicate_zero, List.cons_append, List.nil_append]
  simp only [go_sem]
  refine aw_loop (fun m fr st => ∃ (j k : Nat) (L : List Bool), j ≤ vars ∧ m = vars - j ∧ k ≤ 1000000 ∧ L.length = j ∧ L ++ bitsL k (vars - j) = bitsL n vars ∧ fr = [dn k, dn vars, .any, .any, .any, .rs σ.length 1 0 j (some 4), dn j, .any, .any, .any, .any, .any, .any, .any, .any, .any, .any, .any, .any, .any, .any] ∧ st = σ ++ [some (.cells (L.map fun x => A.d (.bool x)))]) vars _
    ⟨_, _, (Weak.mask [0, 1, 5, 6]).trans (Weak.empty 5 1 (some 4) rfl), 0, n, [], by omega, rfl, hn, rfl, rfl, by simp [maskN], rfl⟩ ?_
  rintro m fr st ⟨j, k, L, hj, hm, hk, hL, hb, rfl, rfl⟩
  rcases Nat.lt_or_ge j vars with hlt | hge
  · have hd : decide ((j : Int) < (vars : Int)) = true := decide_eq_true (by omega)
    have w2 := wrapS j (by omega)
    have e3 : (k : Int).tdiv 2 = ((k / 2 : Nat) : Int) := rfl
    have w3 : IntKind.i64.wrap ((k : Int).tdiv 2) = ((k / 2 : Nat) : Int) := by
      rw [e3, wrap64_id _ (by omega) (by omega)]
    simp only [go_sem, hd, w2, w3, List.length_map]
    refine ⟨by omega, ⟨by omega, by simp only [maxLen]; omega, by omega⟩, by omega, ?_⟩
    refine Wk.keep [0, 1, 5, 6] [2] (by decide) (Nat.le_refl _) hbd ⟨vars - (j + 1), by omega, j + 1, k / 2, L ++ [Int.tmod k 2 == 1], hlt, rfl, by omega, by simp [hL], ?_, ?_, ?_⟩
    · rw [← hb, show vars - j = (vars - (j + 1)) + 1 by omega, bitsL, List.append_assoc, e3]
      rfl
    · simp only [go_sem]
    · simp only [go_sem, List.map_append, List.map_cons, List.map_nil]
  · have hd : decide ((j : Int) < (vars : Int)) = false := decide_eq_false (by omega)
    simp only [go_sem, hd, Try.results44]
    rw [show vars - j = 0 by omega, bitsL, List.append_nil] at hb
    subst hb
    refine ret_frz 0 1 0 ((bitsL n vars).map .bool) rfl (lies_bools _) ?_
    simp only [go_sem, List.length_map, hL]
    exact ret_d hbd h
end Go.Proofs.Ytpmjdaiboniagaa
end PartC15

section PartC16
/- The checker's law package: renaming; the reference's Step; the head. -/
set_option linter.unusedSimpArgs false
set_option linter.unusedVariables false
set_option maxRecDepth 100000
namespace Go.Proofs.Ytpmjdaiboniagaa
open Go Go.Ab

def renI (vars b : Nat) (inv : List Bool) (l : Int) : Int := if decide (l < 0) != inv.getD (l.natAbs - 1) false then -(((l.natAbs - 1 + b) % vars + 1 : Nat) : Int) else (((l.natAbs - 1 + b) % vars + 1 : Nat) : Int)
theorem rename_ac (c : List Int) (vars b : Nat) (inv : List Bool) (hc : c.length ≤ 1000000) (hv : 1 ≤ vars ∧ vars ≤ 100) (hb : b ≤ 255) (hl : ∀ l ∈ c, l ≠ 0 ∧ -8000 ≤ l ∧ l ≤ 8000) (σ : St) (G : Glob) (R : A → St → Prop) (h : R (.d (isD (c.map (renI vars b inv)))) σ) :
    AC Try.prog G 47 [.d (isD c), dn vars, .d (.int .u8 b), .d (bsD inv)] σ R := by
  refine ac_enter mixed Try.func47 rfl Try.ntmps47 (by simp only [go_sem]) fun hbd => ?_
  simp only [List.length_cons, List.length_nil, Nat.reduceAdd, Nat.reduceSub, List.replicate_succ, List.replicate_zero, List.cons_append, List.nil_append]
  simp only [isD, bsD, go_sem, List.length_map]
  refine aw_loop (fun m fr st => ∃ j : Nat, j ≤ c.length ∧ m = c.length - j ∧ fr = [.d (.sl 1 (c.map iD)), dn vars, .d (.int .u8 b), .d (.sl 1 (inv.map .bool)), .any, .any, .any, .any, .any, .rs σ.length 1 0 j (some 3), dn j, .any, .any, .any, .any, .any, .any, .any, .any, .any, .any, .any, .any, .any, .any, .any, .any, .any, .any, .any, .any, .any, .any, .any, .any, .any, .any, .any, .any, .any, .any, .any, .any, .any, .any, .any, .any, .any, .any, .any, .any, .any, .any, .any, .any] ∧ st = σ ++ [ints ((c.take j).map (renI vars b inv))]) c.length _
    ⟨_, _, (Weak.mask [0, 1, 2, 3, 9, 10]).trans (Weak.empty 9 1 (some 3) rfl), 0, by omega, rfl, by simp [maskN], by simp [ints]⟩ ?_
  rintro m fr st ⟨j, hj, hm, rfl, rfl⟩
  rcases Nat.lt_or_ge j c.length with hlt | hge
  · have hd : decide ((j : Int) < (c.length : Int)) = true := decide_eq_true (by omega)
    have e1 : List.getD (List.map iD c) j default = iD (c.getD j 0) := getD_mapD hlt
    have w2 := wrapS j (by omega)
    have hx := hl _ (getD_mem 0 hlt)
    have htk := take_snoc 0 hlt
    generalize c.getD j 0 = x at e1 hx htk
    simp only [go_sem, List.length_map, hd, e1, w2]
    refine ⟨⟨by omega, by omega⟩, ac' (abs_ac _ _ _ _ ?_)⟩
    rw [absI_of (by omega)]
    have w3 : IntKind.i64.wrap ((x.natAbs : Int) - 1) = ((x.natAbs - 1 : Nat) : Int) := by rw [wrap64_id _ (by omega) (by omega)]; omega
    have w4 : IntKind.i64.wrap (b : Int) = (b : Int) := wrap64_id _ (by omega) (by omega)
    have w5 : IntKind.i64.wrap (((x.natAbs - 1 : Nat) : Int) + (b : Int)) = ((x.natAbs - 1 + b : Nat) : Int) := by rw [wrap64_id _ (by omega) (by omega)]; omega
    have w6 : (((x.natAbs - 1 + b : Nat) : Int)).tmod (vars : Int) = (((x.natAbs - 1 + b) % vars : Nat) : Int) := rfl
    have hmod : (x.natAbs - 1 + b) % vars < vars := Nat.mod_lt _ (by omega)
    have w7 : IntKind.i64.wrap ((((x.natAbs - 1 + b) % vars : Nat) : Int) + 1) = (((x.natAbs - 1 + b) % vars + 1 : Nat) : Int) := by rw [wrap64_id _ (by omega) (by omega)]; omega
    have w8 : IntKind.i64.wrap (0 - (((x.natAbs - 1 + b) % vars + 1 : Nat) : Int)) = -(((x.natAbs - 1 + b) % vars + 1 : Nat) : Int) := by rw [wrap64_id _ (by omega) (by omega)]; omega
    have hren : ∀ (q : Bool), inv.getD (x.natAbs - 1) false = q → renI vars b inv x = if decide (x < 0) != q then -(((x.natAbs - 1 + b) % vars + 1 : Nat) : Int) else (((x.natAbs - 1 + b) % vars + 1 : Nat) : Int) := fun q hq => by rw [← hq]; rfl
    rcases Nat.lt_or_ge (x.natAbs - 1) inv.length with hi | hi
    · have d1 : decide (((x.natAbs - 1 : Nat) : Int) < (inv.length : Int)) = true := decide_eq_true (by omega)
      have e2 : List.getD (List.map D.bool inv) (x.natAbs - 1) default = .bool (inv.getD (x.natAbs - 1) false) := getD_mapD hi
      obtain ⟨q, hq⟩ : ∃ q, inv.getD (x.natAbs - 1) false = q := ⟨_, rfl⟩
      have hren' := hren q hq
      rw [hq] at e2
      cases q <;> cases hneg : decide (x < 0)
      all_goals
        rw [hneg] at hren'
        simp only [go_sem, List.length_map, w2, w3, w4, w5, w6, w7, w8, d1, e1, e2, hneg, Bool.bne_true, Bool.bne_false, Bool.true_bne, Bool.false_bne, Bool.not_true, Bool.not_false] at hren' ⊢
        repeat' apply And.intro
        all_goals first
          | omega
          | (intro _; omega)
          | (simp only [maxLen]; omega)
          | (rw [List.length_take]; omega)
          | exact Wk.keep [0, 1, 2, 3, 9, 10] [2] (by decide) (Nat.le_refl _) hbd ⟨c.length - (j + 1), by omega, j + 1, hlt, rfl, by simp only [go_sem], by simp only [go_sem, List.map_append, List.map_cons, List.map_nil, ints, htk, hren', if_true, if_false]⟩
    · have d1 : decide (((x.natAbs - 1 : Nat) : Int) < (inv.length : Int)) = false := decide_eq_false (by omega)
      have hq : inv.getD (x.natAbs - 1) false = false := by rw [List.getD_eq_getElem?_getD, List.getElem?_eq_none hi]; rfl
      have hren' := hren false hq
      have e2 := hq
      cases hneg : decide (x < 0)
      all_goals
        rw [hneg] at hren'
        simp only [go_sem, List.length_map, w2, w3, w4, w5, w6, w7, w8, d1, e1, e2, hneg, Bool.bne_true, Bool.bne_false, Bool.true_bne, Bool.false_bne, Bool.not_true, Bool.not_false] at hren' ⊢
        repeat' apply And.intro
        all_goals first
          | omega
          | (intro _; omega)
          | (simp only [maxLen]; omega)
          | (rw [List.length_take]; omega)
          | exact Wk.keep [0, 1, 2, 3, 9, 10] [2] (by decide) (Nat.le_refl _) hbd ⟨c.length - (j + 1), by omega, j + 1, hlt, rfl, by simp only [go_sem], by simp only [go_sem, List.map_append, List.map_cons, List.map_nil, ints, htk, hren', if_true, if_false]⟩
  · have hd : decide ((j : Int) < (c.length : Int)) = false := decide_eq_false (by omega)
    have htk : c.take j = c := List.take_of_length_le hge
    simp only [go_sem, List.length_map, hd, htk, Try.results47]
    refine ret_frz 0 1 0 ((c.map (renI vars b inv)).map iD) rfl (lies_ints _) ?_
    simp only [go_sem, List.length_map, show j = c.length by omega]
    exact ret_d hbd h
def litsOK (vars : Int) (l : List Stp) : Bool := l.all fun s => validC ⟨vars, [s.lits]⟩
theorem literals_ac (l : List Stp) (vars : Int) (hv : I64 vars) (hl : l.length ≤ 1000000) (hs : ∀ s ∈ l, s.lits.length ≤ reachBytes) (σ : St) (G : Glob) (R : A → St → Prop) (h : R (db (litsOK vars l)) σ) : AC Try.prog G 46 [.d (stpsD l), di vars] σ R := by
  refine ac_enter mixed Try.func46 rfl Try.ntmps46 (by simp only [go_sem]) fun hbd => ?_
  simp only [List.length_cons, List.length_nil, Nat.reduceAdd, Nat.reduceSub, List.replicate_succ, List.replicate_zero, List.cons_append, List.nil_append]
  simp only [stpsD, go_sem, List.length_map]
  rw [litsOK] at h
  refine aw_loop (fun m fr st => ∃ j : Nat, j ≤ l.length ∧ m = l.length - j ∧ R (db ((l.drop j).all fun s => validC ⟨vars, [s.lits]⟩)) σ ∧ fr = [.d (.sl 2 (l.map stpD)), di vars, .any, .any, .any, dn j, .any, .any, .any, .any, .any, .any, .any, .any, .any, .any, .any, .any, .any, .any, .any, .any] ∧ st = σ) l.length _
    (Wk.mask [0, 1, 5] ⟨0, by omega, rfl, h, rfl, rfl⟩) ?_
  clear h
  rintro m fr st ⟨j, hj, hm, hR, rfl, rfl⟩
  rcases Nat.lt_or_ge j l.length with hlt | hge
  · have hd : decide ((j : Int) < (l.length : Int)) = true := decide_eq_true (by omega)
    have e1 := stpD_getD hlt
    have w2 := wrapS j (by omega)
    have hsj := hs _ (getD_mem ⟨[], []⟩ hlt)
    rw [drop_getD ⟨[], []⟩ hlt, List.all_cons] at hR
    generalize l.getD j ⟨[], []⟩ = s at e1 hR hsj
    simp only [go_sem, isD, List.length_map, hd, e1, w2]
    refine ⟨⟨by omega, by omega⟩, ac' (ac_weak (Weak.deep [0] 3) ?_)⟩
    simp only [go_sem, List.length_map]
    refine rvalid_ac ⟨vars, [s.lits]⟩ hv (by simp [reachBytes]) (fun c hc => ?_) _ _ _ ?_
    · simp only [List.mem_cons, List.not_mem_nil, or_false] at hc
      subst hc; exact hsj
    · simp only [go_sem, w2, Try.results46]
      refine ⟨fun hb => ret_d hbd ?_, fun hb => Wk.cut [0, 1, 5] (Nat.le_refl _) hbd (by simp only [go_sem]) ⟨l.length - (j + 1), by omega, j + 1, hlt, rfl, ?_, rfl, rfl⟩⟩
      · simp only [Bool.not_eq_true'] at hb
        rw [hb] at hR; exact hR
      · simp only [Bool.not_eq_false'] at hb
        rw [hb, Bool.true_and] at hR; exact hR
  · have hd : decide ((j : Int) < (l.length : Int)) = false := decide_eq_false (by omega)
    simp only [go_sem, List.length_map, hd, Try.results46]
    rw [List.drop_eq_nil_of_le hge] at hR
    exact ret_d0 hR
theorem rpvalid_ac (f : Cnf) (l : List Stp) (h1 : f.cls.length ≤ 100000) (h2 : l.length ≤ 100000) (hs : ∀ s ∈ l, s.lits.length ≤ reachBytes ∧ s.hints.length ≤ reachBytes) (σ : St) (G : Glob) (R : A → St → Prop)
    (h : R (db (!decide ((20000 : Int) < l.length) && stepsOk f.vars f.cls.length l)) σ) : AC Try.prog G 70 [.d (cnfD f), .d (stpsD l)] σ R := by
  obtain ⟨vars, cls⟩ := f
  simp only at h1 h
  refine ac_enter mixed Try.func70 rfl Try.ntmps70 (by simp only [go_sem]) fun hbd => ?_
  simp only [List.length_cons, List.length_nil, Nat.reduceAdd, Nat.reduceSub, List.replicate_succ, List.replicate_zero, List.cons_append, List.nil_append]
  simp only [cnfD, clsD, stpsD, go_sem, List.length_map, Try.results70]
  refine ⟨fun hb => ret_d hbd ?_, fun hb => ?_⟩
  · rw [hb] at h; exact h
  rw [hb, Bool.not_false, Bool.true_and] at h
  refine aw_loop (fun m fr st => ∃ j : Nat, j ≤ l.length ∧ m = l.length - j ∧ R (db (stepsOk vars (cls.length + j) (l.drop j))) σ ∧ fr = [.any, .d (.sl 2 (l.map stpD)), .ref σ.length 0, .any, .any, dn j, .any, .any, .any, .any, .any, .any, .any, .any, .any, .any, .any, .any, .any, .any, .any, .any, .any, .any, .any, .any, .any, .any] ∧
    st = σ ++ [some (.cells [.d (iD vars), .d (.sl 1 (cls.map isD))])]) l.length _ (Wk.mask [1, 2, 5] ⟨0, by omega, rfl, h, rfl, rfl⟩) ?_
  clear h
  rintro m fr st ⟨j, hj, hm, hR, rfl, rfl⟩
  rcases Nat.lt_or_ge j l.length with hlt | hge
  · have hd : decide ((j : Int) < (l.length : Int)) = true := decide_eq_true (by omega)
    have e1 := stpD_getD hlt
    have w2 := wrapS j (by omega)
    have w5 : IntKind.i64.wrap ((cls.length : Int) + (j : Int)) = ((cls.length + j : Nat) : Int) := by rw [wrap64_id _ (by omega) (by omega)]; omega
    have hsj := hs _ (getD_mem ⟨[], []⟩ hlt)
    rw [drop_getD ⟨[], []⟩ hlt, stepsOk] at hR
    generalize l.getD j ⟨[], []⟩ = s at e1 hR hsj
    simp only [go_sem, List.length_map, hd, e1, w2, w5]
    refine ⟨⟨by omega, by omega⟩, ac' (rstep_ac vars _ s hsj.1 hsj.2 _ _ _ ?_)⟩
    simp only [go_sem, List.length_map, w2, w5, Try.results70]
    refine ⟨fun hb => ret_d hbd ?_, fun hb => Wk.mask [1, 2, 5] ⟨l.length - (j + 1), by omega, j + 1, hlt, rfl, ?_, rfl, rfl⟩⟩
    · simp only [Bool.not_eq_true'] at hb
      rw [hb] at hR; exact hR
    · simp only [Bool.not_eq_false'] at hb
      rw [hb, Bool.true_and] at hR; exact hR
  · have hd : decide ((j : Int) < (l.length : Int)) = false := decide_eq_false (by omega)
    simp only [go_sem, List.length_map, hd, Try.results70]
    rw [List.drop_eq_nil_of_le hge, stepsOk] at hR
    exact ret_d hbd hR
theorem rstepF_ac (f : Cnf) (l : List Stp) (s : Stp) (hf : Fine f (l ++ [s])) (σ : St) (G : Glob) (R : A → St → Prop) (h : R (db (stepG f l s)) σ) : AC Try.prog G 42 [.d (cnfD f), .d (stpsD l), .d (stpD s)] σ R := by
  refine ac_enter mixed Try.func42 rfl Try.ntmps42 (by simp only [go_sem]) fun hbd => ?_
  simp only [List.length_cons, List.length_nil, Nat.reduceAdd, Nat.reduceSub, List.replicate_succ, List.replicate_zero, List.cons_append, List.nil_append]
  have hl := hf.steps
  have hc := hf.cls
  rw [List.length_append, List.length_singleton] at hl
  have d1 : decide ((20000 : Int) ≤ (l.length : Int)) = false := decide_eq_false (by omega)
  have d2 : decide ((20000 : Int) < (l.length : Int)) = false := decide_eq_false (by omega)
  have w5 : IntKind.i64.wrap ((f.cls.length : Int) + (l.length : Int)) = ((f.cls.length + l.length : Nat) : Int) := by rw [wrap64_id _ (by omega) (by omega)]; omega
  have hf1 : Fine f l := ⟨hf.vars, hf.cls, hf.len, by omega, fun t ht => hf.lits t (by simp [ht])⟩
  have hsl := hf.lits s (by simp)
  simp only [cnfD, stpsD, stpD, clsD, go_sem, List.length_map]
  refine ac' (rvalid_ac f hf.vars (by simp only [reachBytes]; omega) hf.len _ _ _ ?_)
  simp only [clsD, go_sem, List.length_map, d1, w5]
  rw [stepG] at h
  refine ⟨fun hh => by simpa using hh, ex' (.bool (stepsOk f.vars f.cls.length l)) ⟨fun hv => ?_, ?_⟩⟩
  · simp only [go_sem]
    refine ⟨by simpa using hv, ac' (rpvalid_ac f l (by omega) (by omega) (fun t ht => ?_) _ _ _ ?_)⟩
    · have := hf1.lits t ht
      simp only [reachBytes]; omega
    · rw [d2]; exact ⟨rfl, rfl⟩
  simp only [clsD, go_sem, List.length_map, d1, w5]
  refine ⟨fun hh => by simpa using hh, ex' (.bool (stepOk f.vars ((f.cls.length + l.length : Nat) : Int) s)) ⟨fun hv => ?_, ?_⟩⟩
  · simp only [go_sem, w5]
    refine ⟨by simpa using hv, ac' (rstep_ac f.vars _ s (by simp only [reachBytes]; omega) (by simp only [reachBytes]; omega) _ _ _ ⟨rfl, rfl⟩)⟩
  simp only [clsD, go_sem, List.length_map, d1, w5, Try.results42]
  refine ⟨fun hb => ret_d hbd ?_, fun hb => ?_⟩
  · have : (validC f && (stepsOk f.vars f.cls.length l && goodR f l s)) = false := by
      rw [goodR]
      revert hb
      cases validC f <;> cases stepsOk f.vars f.cls.length l <;> cases stepOk f.vars ((f.cls.length + l.length : Nat) : Int) s <;> simp
    rw [this] at h; exact h
  · simp only [Bool.or_eq_false_iff, Bool.not_eq_false'] at hb
    obtain ⟨⟨hv, hb1⟩, hb2⟩ := hb
    rw [hv, hb1, goodR, hb2, Bool.true_and, Bool.true_and, Bool.true_and] at h
    refine ac' (good_ac hf hv (fun t ht x hx => ?_) hb2 _ _ _ ?_)
    · have := stepsOk_range hb1 t ht (hf1.lits t ht).2.2 x hx
      have := (validC_iff.1 hv).1
      omega
    · simp only [go_sem, Try.results42]
      exact ret_d hbd h
end Go.Proofs.Ytpmjdaiboniagaa
end PartC16

section PartC17
/- The checker's law package: the head. -/
set_option linter.unusedSimpArgs false
set_option linter.unusedVariables false
set_option maxRecDepth 100000
namespace Go.Proofs.Ytpmjdaiboniagaa
open Go Go.Ab

theorem fine2_of {f : Cnf} {l : List Stp} (h : smallC f l = true) (hv : I64 f.vars) (hl : ∀ s ∈ l, ∀ x ∈ s.lits, I64 x) : Fine2 f l := by
  obtain ⟨⟨h1, h2⟩, h3, h4⟩ := smallC_iff.1 h
  exact ⟨⟨hv, by omega, fun c hc => by have := h3 c hc; simp only [reachBytes]; omega, by omega, fun s hs => ⟨by have := h4 s hs; omega, by have := h4 s hs; omega, hl s hs⟩⟩, fun s hs => (h4 s hs).1⟩
def allI (p : Int → Bool) (l : List Stp) : Bool := l.all fun s => s.lits.all p
theorem fine2_dec {f : Cnf} {l : List Stp} (h : (smallC f l && (decide (-9223372036854775808 ≤ f.vars) && decide (f.vars ≤ 9223372036854775807)) && allI (fun x => decide (-9223372036854775808 ≤ x) && decide (x ≤ 9223372036854775807)) l) = true) : Fine2 f l := by
  simp only [Bool.and_eq_true, allI, List.all_eq_true, decide_eq_true_eq] at h
  exact fine2_of h.1.1 h.1.2 h.2
def hdF : Cnf := ⟨2, [[1, 2], [1, -2], [-1, 2], [-1, -2]]⟩
def hdL : List Stp := [⟨[1], [0, 1]⟩, ⟨[2], [2, 4]⟩, ⟨[], [4, 5, 3]⟩]
theorem chead_ac (σ : St) (G : Glob) (R : A → St → Prop) (h : R (db true) σ) : AC Try.prog G 35 [] σ R := by
  refine ac_enterC' [3, 5] mixed Try.func35 rfl Try.ntmps35 (by simp only [go_sem]) fun hbd => ?_
  simp only [List.length_cons, List.length_nil, Nat.reduceAdd, Nat.reduceSub, List.replicate_succ, List.replicate_zero, List.cons_append, List.nil_append]
  simp only [go_sem]
  refine aw_cut (fun fr st => fr = [.any, .ref σ.length 0, .d (stpsD hdL), .any, .any, .any, .any, .any, .any, .any, .any, .any, .any, .any, .any, .any, .any, .any, .any, .any, .any, .any, .any, .any, .any, .any, .any, .any, .any, .any, .any, .any, .any, .any, .any, .any, .any, .any, .any, .any, .any, .any, .any, .any, .any, .any, .any, .any, .any, .any, .any, .any, .any, .any, .any, .any, .any, .any, .any, .any, .any, .any, .any, .any, .any, .any, .any, .any, .any, .any, .any, .any, .any, .any, .any, .any, .any, .any, .any, .any, .any, .any, .any, .any, .any, .any, .any, .any] ∧ st = σ ++ [some (.cells [.d (iD 2), .d (clsD hdF.cls)])]) ?_ ?_
  · simp only [go_sem]
    refine Wk.pre [1, 2] ?_
    simp only [go_sem]
    refine Wk.deep [0, 1, 2, 3, 4, 6, 7, 8, 9, 10, 11] 6 ?_
    simp only [go_sem]
    refine Wk.nils (fr' := [.any, .ref (σ.length + 5) 0, .d (stpsD hdL), .any, .any, .any, .any, .any, .any, .any, .any, .any, .any, .any, .any, .any, .any, .any, .any, .any, .any, .any, .any, .any, .any, .any, .any, .any, .any, .any, .any, .any, .any, .any, .any, .any, .any, .any, .any, .any, .any, .any, .any, .any, .any, .any, .any, .any, .any, .any, .any, .any, .any, .any, .any, .any, .any, .any, .any, .any, .any, .any, .any, .any, .any, .any, .any, .any, .any, .any, .any, .any, .any, .any, .any, .any, .any, .any, .any, .any, .any, .any, .any, .any, .any, .any, .any, .any]) ?_ ?_
    · repeat' first | exact NilAL.nil | apply NilAL.cons | exact NilA.refl _ | apply NilA.d | exact NilD.refl _ | exact NilD.nil _ | apply NilD.sl | apply NilD.agg | apply NilDL.cons | exact NilDL.nil
    · exact Wk.keep [1, 2] [5] (by decide) (Nat.le_refl _) hbd ⟨by simp only [go_sem], by simp only [go_sem]; rfl⟩
  · rintro fr st ⟨rfl, rfl⟩
    simp only [go_sem]
    refine ac' (check_ac hdF hdL (fine2_dec (by decide)) _ _ _ ?_)
    rw [show chk (goodR hdF) hdF hdL = (-1, 0) by kernel_rfl]
    simp only [go_sem]
    refine aw_cut (fun fr st => fr = [.any, .ref σ.length 0, .d (stpsD hdL), di (-1), di 0, di 0, di 260, .any, .any, .any, .any, .any, .any, .any, .any, .any, .any, .any, .any, .any, .any, .any, .any, .any, .any, .any, .any, .any, .any, .any, .any, .any, .any, .any, .any, .any, .any, .any, .any, .any, .any, .any, .any, .any, .any, .any, .any, .any, .any, .any, .any, .any, .any, .any, .any, .any, .any, .any, .any, .any, .any, .any, .any, .any, .any, .any, .any, .any, .any, .any, .any, .any, .any, .any, .any, .any, .any, .any, .any, .any, .any, .any, .any, .any, .any, .any, .any, .any] ∧ st = σ ++ [some (.cells [.d (iD 2), .d (clsD hdF.cls)])]) ?_ ?_
    · simp only [go_sem]
      refine ac' (ac_weak (Weak.deep [1, 2, 3] 4) ?_)
      simp only [go_sem]
      refine check_ac hdF [⟨[1], [0, 1, 2]⟩] (fine2_dec (by decide)) _ _ _ ?_
      rw [show chk (goodR hdF) hdF [⟨[1], [0, 1, 2]⟩] = (0, 260) by kernel_rfl]
      simp only [go_sem]
      exact Wk.keep [1, 2, 3, 4, 5, 6] [0] (by decide) (Nat.le_refl _) hbd ⟨by simp only [go_sem], by simp only [go_sem]⟩
    · rintro fr st ⟨rfl, rfl⟩
      simp only [go_sem]
      refine aw_plan (.tk 45 0 <| .alt 45 (.tk 6 46 .done) <| .alt 46 (.take 45 <| .tk 5 47 .done) <| .stop) (by kernel_rfl) ?_
      simp only [go_sem]
      refine ac' (refutes_ac hdF hdL (fine2_dec (by decide)) _ _ _ ?_)
      rw [show refutes (chk (goodR hdF) hdF hdL) hdL = true by kernel_rfl]
      simp only [stpsD, stpD, hdL, go_sem, beq_self_eq_true, Int.reduceToNat]
      refine ⟨by omega, by omega, ex' (.bool true) ⟨fun _ => ?_, ?_⟩⟩
      · simp only [go_sem]
        refine ac' (step_ac hdF [⟨[1], [0, 1]⟩] ⟨[2], [2, 4]⟩ (fine2_dec (by decide)) _ _ _ ?_)
        rw [show stepG hdF [⟨[1], [0, 1]⟩] ⟨[2], [2, 4]⟩ = true by kernel_rfl]
        exact ⟨rfl, rfl⟩
      simp only [go_sem, beq_self_eq_true, Int.reduceToNat]
      refine ⟨by omega, ex' (.bool false) ⟨fun _ => ?_, ?_⟩⟩
      · simp only [go_sem]
        refine ac' (ac_weak (Weak.nils (.cons (.refl _) (.cons (.d (.nil 2)) (.cons (.refl _) .nil)))) (step_ac hdF [] ⟨[2], [2, 4]⟩ (fine2_dec (by decide)) _ _ _ ?_))
        rw [show stepG hdF [] ⟨[2], [2, 4]⟩ = false by kernel_rfl]
        exact ⟨rfl, rfl⟩
      simp only [go_sem, beq_self_eq_true, Int.reduceToNat]
      refine ⟨by omega, ex' (.bool false) ⟨fun _ => ?_, ?_⟩⟩
      · simp only [go_sem]
        refine ac' (refutes_ac hdF [⟨[1], [0, 1]⟩, ⟨[2], [2, 4]⟩] (fine2_dec (by decide)) _ _ _ ?_)
        rw [show refutes (chk (goodR hdF) hdF [⟨[1], [0, 1]⟩, ⟨[2], [2, 4]⟩]) [⟨[1], [0, 1]⟩, ⟨[2], [2, 4]⟩] = false by kernel_rfl]
        exact ⟨rfl, rfl⟩
      simp only [go_sem, beq_self_eq_true, Int.reduceToNat]
      refine ⟨exs ?_, exs ?_⟩
      all_goals
        simp only [go_sem]
        refine ac' (ac_weak (Weak.deep [1, 2] 4) ?_)
        simp only [go_sem]
        refine ac_weak (Weak.nils (.cons (.refl _) (.cons (.d (.nil 2)) (.cons (.refl _) .nil)))) (step_ac hdF [] ⟨[1], [0]⟩ (fine2_dec (by decide)) _ _ _ ?_)
        rw [show stepG hdF [] ⟨[1], [0]⟩ = false by kernel_rfl]
        simp only [go_sem, beq_self_eq_true, Int.reduceToNat, Try.results35]
        exact ret_d hbd h
end Go.Proofs.Ytpmjdaiboniagaa
end PartC17

section PartC18
/- Plain laws on lists of steps. -/
set_option linter.unusedSimpArgs false
set_option linter.unusedVariables false
namespace Go.Proofs.Ytpmjdaiboniagaa
open Go Go.Ab

abbrev stp0 : Stp := ⟨[], []⟩
theorem chkFrom_good {good : List Stp → Stp → Bool} {l : List Stp} : ∀ {m k : Nat}, m = l.length - k → chkFrom good l k (l.drop k) = (-1, 0) → ∀ i, k ≤ i → i < l.length → good (l.take i) (l.getD i stp0) = true
  | 0, k, hm, _, i, h1, h2 => by omega
  | m + 1, k, hm, h, i, h1, h2 => by
    have hk : k < l.length := by omega
    rw [drop_getD stp0 hk, chkFrom] at h
    cases hg : good (l.take k) (l.getD k stp0) with
    | false => rw [hg] at h; simp at h
    | true =>
      rw [hg, if_pos rfl] at h
      by_cases hik : i = k
      · subst hik; exact hg
      · exact chkFrom_good (m := m) (by omega) h i (by omega) h2
theorem chkFrom_bad {good : List Stp → Stp → Bool} {l : List Stp} {n : Nat} : ∀ {m k : Nat}, m = l.length - k → chkFrom good l k (l.drop k) = ((n : Int), 260) → k ≤ n ∧ n < l.length ∧ good (l.take n) (l.getD n stp0) = false ∧ ∀ i, k ≤ i → i < n → good (l.take i) (l.getD i stp0) = true
  | 0, k, hm, h => by
    rw [List.drop_eq_nil_of_le (by omega), chkFrom] at h
    simp at h
  | m + 1, k, hm, h => by
    have hk : k < l.length := by omega
    rw [drop_getD stp0 hk, chkFrom] at h
    cases hg : good (l.take k) (l.getD k stp0) with
    | false =>
      rw [hg, if_neg (by simp)] at h
      simp only [Prod.mk.injEq] at h
      obtain rfl : k = n := by omega
      exact ⟨Nat.le_refl _, hk, hg, fun i h1 h2 => by omega⟩
    | true =>
      rw [hg, if_pos rfl] at h
      obtain ⟨h1, h2, h3, h4⟩ := chkFrom_bad (m := m) (by omega) h
      refine ⟨by omega, h2, h3, fun i h5 h6 => ?_⟩
      by_cases hik : i = k
      · subst hik; exact hg
      · exact h4 i (by omega) h6
/-- Of a well-formed formula: all steps are good, or the first that is not. -/
theorem chk_cases {f : Cnf} {l : List Stp} (hv : validC f = true) (hl : l.length ≤ 20000) :
    (chk (goodR f) f l = (-1, 0) ∧ ∀ i, i < l.length → goodR f (l.take i) (l.getD i stp0) = true) ∨
    ∃ n : Nat, chk (goodR f) f l = ((n : Int), 260) ∧ n < l.length ∧ goodR f (l.take n) (l.getD n stp0) = false ∧ ∀ i, i < n → goodR f (l.take i) (l.getD i stp0) = true := by
  have e : chk (goodR f) f l = chkFrom (goodR f) l 0 l := by rw [chk, if_neg (by simp [hv]), if_neg (by omega)]
  rw [e]
  rcases chkFrom_iff (good := goodR f) (l := l) (k := 0) (r := l) with h | ⟨n, h⟩
  · exact .inl ⟨h, fun i hi => chkFrom_good (k := 0) rfl (by rw [List.drop_zero]; exact h) i (by omega) hi⟩
  · obtain ⟨_, h2, h3, h4⟩ := chkFrom_bad (k := 0) (n := n) (l := l) rfl (by rw [List.drop_zero]; exact h)
    exact .inr ⟨n, h, h2, h3, fun i hi => h4 i (by omega) hi⟩
/-- The steps ahead are well-formed where all are good. -/
theorem stepsOk_of {f : Cnf} {l : List Stp} {n : Nat} (hn : n ≤ l.length) (h : ∀ i, i < n → goodR f (l.take i) (l.getD i stp0) = true) : stepsOk f.vars f.cls.length (l.take n) = true := by
  induction n with
  | zero => simp [stepsOk]
  | succ n ih =>
    rw [List.take_add_one, List.getElem?_eq_getElem (show n < l.length by omega), stepsOk_append, ih (by omega) fun i hi => h i (by omega)]
    have := h n (by omega)
    rw [goodR, Bool.and_eq_true, List.length_take, Nat.min_eq_left (by omega), List.getD_eq_getElem?_getD, List.getElem?_eq_getElem (show n < l.length by omega)] at this
    simpa [stepsOk, List.length_take, Nat.min_eq_left (show n ≤ l.length by omega)] using this.1
theorem chk_eq {good good' : List Stp → Stp → Bool} {l l' : List Stp} (hl : l.length = l'.length) : ∀ {m k : Nat}, m = l.length - k → (∀ i, k ≤ i → i < l.length → (∀ j, j < i → k ≤ j → good (l.take j) (l.getD j stp0) = true) → good (l.take i) (l.getD i stp0) = good' (l'.take i) (l'.getD i stp0)) →
    chkFrom good l k (l.drop k) = chkFrom good' l' k (l'.drop k)
  | 0, k, hm, _ => by rw [List.drop_eq_nil_of_le (by omega), List.drop_eq_nil_of_le (by omega), chkFrom, chkFrom]
  | m + 1, k, hm, h => by
    have hk : k < l.length := by omega
    rw [drop_getD stp0 hk, drop_getD stp0 (show k < l'.length by omega), chkFrom, chkFrom, ← h k (by omega) hk (fun j h1 h2 => by omega)]
    split
    · rename_i hg
      exact chk_eq hl (m := m) (by omega) fun i h1 h2 h3 => h i (by omega) h2 fun j h4 h5 => by
        by_cases hjk : j = k
        · subst hjk; exact hg
        · exact h3 j h4 (by omega)
    · rfl

-- soundness
theorem holds_neg {v : List Bool} {l : Int} (h : l ≠ 0) : holdsL v (-l) = !holdsL v l := by
  unfold holdsL
  have e1 : (-l).natAbs = l.natAbs := by omega
  rw [e1]
  rcases Int.lt_or_gt_of_ne h with hl | hl
  · have d1 : decide (0 < -l) = true := decide_eq_true (by omega)
    have d2 : decide (0 < l) = false := decide_eq_false (by omega)
    rw [d1, d2]; cases v.getD (l.natAbs - 1) false <;> rfl
  · have d1 : decide (0 < -l) = false := decide_eq_false (by omega)
    have d2 : decide (0 < l) = true := decide_eq_true (by omega)
    rw [d1, d2]; cases v.getD (l.natAbs - 1) false <;> rfl
/-- A unit clause's open literal is true where the clause and the literals T are. -/
theorem unit_true {v : List Bool} {T : List Int} (hT : ∀ x ∈ T, holdsL v x = true) : ∀ {c : List Int} {o : Int}, (∀ x ∈ c, x ≠ 0) → (c.any (holdsL v) = true ∨ o ≠ 0 ∧ holdsL v o = true) → unitS T c o ≠ 0 → holdsL v (unitS T c o) = true
  | [], o, _, h, hu => by rcases h with h | h; simp at h; exact h.2
  | l :: c, o, hc, h, hu => by
    have hc' : ∀ x ∈ c, x ≠ 0 := fun x hx => hc x (by simp [hx])
    have hl := hc l (by simp)
    simp only [unitS] at hu ⊢
    split at hu
    · exact absurd rfl hu
    · rename_i h1
      rw [if_neg h1]
      split at hu
      · rename_i h2
        rw [if_pos h2]
        refine unit_true hT hc' ?_ hu
        rw [List.any_cons, Bool.or_eq_true] at h
        rcases h with (h | h) | h
        · rcases h2 with h2 | h2
          · have := hT _ h2
            rw [holds_neg hl, h] at this; cases this
          · exact .inr ⟨h2 ▸ hl, h2 ▸ h⟩
        · exact .inl h
        · exact .inr h
      · rename_i h2
        rw [if_neg h2]
        split at hu
        · exact absurd rfl hu
        · rename_i h3
          rw [if_neg h3]
          refine unit_true hT hc' ?_ hu
          rw [List.any_cons, Bool.or_eq_true] at h
          rcases h with (h | h) | h
          · exact .inr ⟨hl, h⟩
          · exact .inl h
          · exact absurd h.1 h3
theorem just_sound {v : List Bool} {cl : Nat → List Int} : ∀ {hints T : List Int}, (∀ h ∈ hints, (∀ x ∈ cl h.toNat, x ≠ 0) ∧ (cl h.toNat).any (holdsL v) = true) → (∀ x ∈ T, holdsL v x = true) → justR cl T hints = true → False
  | [], _, _, _, h => by simp [justR] at h
  | [h], T, hc, hT, hj => by
    obtain ⟨h1, h2⟩ := hc h (by simp)
    rw [justR, falsS, List.all_eq_true] at hj
    obtain ⟨x, hx, hxt⟩ := List.any_eq_true.1 h2
    have := hT _ (by simpa using hj x hx)
    rw [holds_neg (h1 x hx), hxt] at this; cases this
  | h :: y :: r, T, hc, hT, hj => by
    obtain ⟨h1, h2⟩ := hc h (by simp)
    rw [justR_two] at hj
    split at hj
    · cases hj
    · rename_i hu
      refine just_sound (fun x hx => hc x (by simp [hx])) (fun x hx => ?_) hj
      rcases List.mem_append.1 hx with hx | hx
      · exact hT x hx
      · rw [List.mem_singleton.1 hx]; exact unit_true hT h1 (.inl h2) hu
theorem good_range {f : Cnf} {b : List Stp} {s : Stp} (hv : validC f = true) (hw : ∀ x ∈ s.lits, I64 x) (h : goodR f b s = true) : ∀ x ∈ s.lits, x ≠ 0 ∧ -f.vars ≤ x ∧ x ≤ f.vars := fun x hx => by
  simp only [goodR, stepOk, Bool.and_eq_true] at h
  have := litsFrom_range hw h.1.1 x hx
  exact ⟨this.2.2, this.1, this.2.1⟩
/-- What is justified follows. -/
theorem steps_sound {f : Cnf} {l : List Stp} {n : Nat} {v : List Bool} (hn : n ≤ l.length) (hv : validC f = true) (hw : ∀ s ∈ l, ∀ x ∈ s.lits, I64 x) (he : evalC f v = true) (hg : ∀ i, i < n → goodR f (l.take i) (l.getD i stp0) = true) :
    ∀ i, i < n → ((l.getD i stp0).lits.any (holdsL v)) = true := by
  intro i
  induction i using Nat.strongRecOn with
  | _ i ih =>
    intro hi
    obtain ⟨hv1, hv2⟩ := validC_iff.1 hv
    have hgi := hg i hi
    have hr := good_range hv (hw _ (getD_mem stp0 (show i < l.length by omega))) hgi
    rw [goodR, Bool.and_eq_true] at hgi
    cases hc : (l.getD i stp0).lits.any (holdsL v) with
    | true => rfl
    | false =>
      exfalso
      have hall : ∀ c, c < f.cls.length + i → (∀ x ∈ clauseAt f.cls (l.take i) c, x ≠ 0) ∧ (clauseAt f.cls (l.take i) c).any (holdsL v) = true := fun c hci => by
        unfold clauseAt
        split
        · rename_i hlt
          have hm := getD_mem ([] : List Int) hlt
          exact ⟨fun x hx => (hv2 _ hm x hx).1, List.all_eq_true.1 he _ hm⟩
        · rename_i hge
          have hj : c - f.cls.length < i := by omega
          have e : (l.take i).getD (c - f.cls.length) ⟨[], []⟩ = l.getD (c - f.cls.length) stp0 := by
            rw [List.getD_eq_getElem?_getD, List.getElem?_take_of_lt hj, List.getD_eq_getElem?_getD]
          rw [e]
          exact ⟨fun x hx => (good_range hv (hw _ (getD_mem stp0 (show c - f.cls.length < l.length by omega))) (hg _ (by omega)) x hx).1, ih _ hj (by omega)⟩
      simp only [stepOk, Bool.and_eq_true] at hgi
      refine just_sound (v := v) (fun h hh => ?_) (fun x hx => ?_) hgi.2
      · have := hintsOk_range hgi.1.2 h hh
        rw [List.length_take] at this
        exact hall _ (by omega)
      · simp only [negs, List.mem_map] at hx
        obtain ⟨y, hy, rfl⟩ := hx
        rw [holds_neg (hr y hy).1]
        have := List.any_eq_false.1 hc y hy
        simpa using this
/-- A refuted formula has no satisfying assignment. -/
theorem refuted_sound {f : Cnf} {l : List Stp} {v : List Bool} (hl : l.length ≤ 20000) (hv : validC f = true) (hw : ∀ s ∈ l, ∀ x ∈ s.lits, I64 x) (h : refutes (chk (goodR f) f l) l = true) : evalC f v = false := by
  cases he : evalC f v with
  | false => rfl
  | true =>
    exfalso
    simp only [refutes, Bool.and_eq_true, beq_iff_eq, decide_eq_true_eq] at h
    obtain ⟨⟨h1, h2⟩, h3⟩ := h
    rcases chk_cases hv hl with ⟨h4, h5⟩ | ⟨n, h4, _⟩
    · have := steps_sound (Nat.le_refl _) hv hw he h5 (l.length - 1) (by omega)
      have e : (l.getD (l.length - 1) stp0).lits = [] := List.eq_nil_of_length_eq_zero (by simpa using h3)
      rw [e] at this; cases this
    · rw [h4] at h1; cases h1
end Go.Proofs.Ytpmjdaiboniagaa
end PartC18

section PartC21
/- CheckerSound, evaluated. -/
set_option linter.unusedSimpArgs false
set_option linter.unusedVariables false
set_option maxRecDepth 100000
namespace Go.Proofs.Ytpmjdaiboniagaa
open Go Go.Ab

theorem eval_ac (f : Cnf) (v : List Bool) (hv : I64 f.vars) (hn : f.cls.length ≤ reachBytes) (hc : ∀ c ∈ f.cls, c.length ≤ reachBytes) (σ : St) (G : Glob) (R : A → St → Prop) (h : R (db (validC f && evalC f v)) σ) : AC Try.prog G 29 [.d (cnfD f), .d (bsD v)] σ R := by
  refine ac_enter mixed Try.func29 rfl Try.ntmps29 (by simp only [go_sem]) fun hbd => ?_
  simp only [List.length_cons, List.length_nil, Nat.reduceAdd, Nat.reduceSub, List.replicate_succ, List.replicate_zero, List.cons_append, List.nil_append]
  simp only [cnfD, clsD, bsD, go_sem]
  refine ac' (rvalid_ac f hv hn hc _ _ _ ?_)
  simp only [go_sem, Try.results29]
  refine ⟨fun hb => ret_d hbd ?_, fun hb => ?_⟩
  · simp only [Bool.not_eq_true'] at hb
    rw [hb] at h; exact h
  simp only [Bool.not_eq_false'] at hb
  rw [hb, Bool.true_and, evalC] at h
  obtain ⟨hv1, hv2⟩ := validC_iff.1 hb
  simp only [reachBytes] at hn hc
  refine aw_loop (fun m fr st => ∃ j : Nat, j ≤ f.cls.length ∧ m = f.cls.length - j ∧ R (db ((f.cls.drop j).all fun c => c.any (holdsL v))) σ ∧ fr = [.any, .d (.sl 1 (v.map .bool)), .ref σ.length 0, .any, .any, dn j, .any, .any, .any, .any, .any, .any, .any, .any, .any, .any, .any, .any, .any, .any, .any, .any, .any, .any] ∧ st = σ ++ [some (.cells [.d (iD f.vars), .d (.sl 1 (f.cls.map isD))])]) f.cls.length _
    (Wk.mask [1, 2, 5] ⟨0, by omega, rfl, h, rfl, rfl⟩) ?_
  clear h
  rintro m fr st ⟨j, hj, hm, hR, rfl, rfl⟩
  rcases Nat.lt_or_ge j f.cls.length with hlt | hge
  · have hd : decide ((j : Int) < (f.cls.length : Int)) = true := decide_eq_true (by omega)
    have e1 := isD_getD hlt
    have w2 := wrapS j (by omega)
    have hm' := getD_mem ([] : List Int) hlt
    have hcj := hc _ hm'
    have hvj := hv2 _ hm'
    rw [drop_getD [] hlt, List.all_cons] at hR
    simp only [go_sem, List.length_map, hd, e1, w2]
    refine ⟨⟨by omega, by omega⟩, ac' (holds_ac _ v (by simp only [reachBytes]; omega) (fun l hl => by have := hvj l hl; omega) _ _ _ ?_)⟩
    simp only [go_sem, List.length_map, w2, Try.results29]
    refine ⟨fun hb => ret_d hbd ?_, fun hb => Wk.mask [1, 2, 5] ⟨f.cls.length - (j + 1), by omega, j + 1, hlt, rfl, ?_, rfl, rfl⟩⟩
    · simp only [Bool.not_eq_true'] at hb
      rw [hb] at hR; exact hR
    · simp only [Bool.not_eq_false'] at hb
      rw [hb, Bool.true_and] at hR; exact hR
  · have hd : decide ((j : Int) < (f.cls.length : Int)) = false := decide_eq_false (by omega)
    simp only [go_sem, List.length_map, hd, Try.results29]
    rw [List.drop_eq_nil_of_le hge] at hR
    exact ret_d hbd hR
theorem bits_ac' (n : Nat) (vars : Int) (hn : n ≤ 1000000) (hv : 0 ≤ vars) (hv2 : vars ≤ 1000000) (σ : St) (G : Glob) (R : A → St → Prop) (h : R (.d (bsD (bitsL n vars.toNat))) σ) : AC Try.prog G 44 [dn n, di vars] σ R := by
  obtain ⟨w, rfl⟩ := Int.eq_ofNat_of_zero_le hv
  exact bits_ac n w hn (by omega) σ G R h
theorem law11_ac (f : Cnf) (l : List Stp) (h1 : f.cls.length ≤ reachBytes) (h2 : l.length ≤ reachBytes) (h3 : ∀ c ∈ f.cls, c.length ≤ reachBytes) (hv : I64 f.vars) (hx : ∀ s ∈ l, ∀ x ∈ s.lits, I64 x) (σ : St) (G : Glob) (R : A → St → Prop) (h : R (db true) σ) : AC Try.prog G 11 [.d (cnfD f), .d (stpsD l)] σ R := by
  refine ac_enterC [10] mixed Try.func11 rfl Try.ntmps11 (by simp only [go_sem]) fun hbd => ?_
  simp only [List.length_cons, List.length_nil, Nat.reduceAdd, Nat.reduceSub, List.replicate_succ, List.replicate_zero, List.cons_append, List.nil_append]
  simp only [cnfD, go_sem]
  refine ac' (chead_ac _ _ _ ?_)
  simp only [go_sem]
  refine ac' (small_ac f l h1 h2 _ _ _ ?_)
  cases hs : smallC f l with
  | false =>
    simp only [go_sem]
    refine ex' (.bool false) ⟨fun hc => Bool.noConfusion hc, ?_⟩
    simp only [go_sem, Try.results11]
    exact ret_d hbd h
  | true =>
  simp only [go_sem]
  refine ex' (.bool (validC f)) ⟨fun hc => ?_, ?_⟩
  · simp only [go_sem]
    exact ac' (rvalid_ac f hv h1 h3 _ _ _ ⟨rfl, rfl⟩)
  cases hvv : validC f with
  | false =>
    simp only [go_sem, Try.results11]
    exact ret_d hbd h
  | true =>
  simp only [go_sem, Try.results11]
  refine ⟨fun hs => ret_d hbd h, fun hv8 => ?_⟩
  simp only [decide_eq_false_iff_not] at hv8
  have hf := fine2_of hs hv hx
  have hl := hf.steps
  obtain ⟨⟨hv0, hv1, hv2⟩, hv3⟩ := validC_iff.1 hvv
  refine ac' (check_ac f l hf _ _ _ ?_)
  have hch := chk_cases (l := l) hvv (by omega)
  have hrs : refutes (chk (goodR f) f l) l = true → ∀ v, evalC f v = false := fun h v => refuted_sound (by omega) hvv hx h
  obtain ⟨w, hw⟩ : ∃ w : Nat, f.vars.toNat = w := ⟨_, rfl⟩
  have hD : D.agg [iD f.vars, clsD f.cls] = cnfD f := rfl
  obtain ⟨⟨q1, q2⟩, hq⟩ : ∃ q, chk (goodR f) f l = q := ⟨_, rfl⟩
  simp only [hq, stpsD, go_sem, List.length_map]
  refine aw_cut (fun fr st => ∃ n : Nat, n ≤ l.length ∧ (∀ i, i < n → goodR f (l.take i) (l.getD i stp0) = true) ∧ fr = [.any, .d (.sl 2 (l.map stpD)), .ref σ.length 0, .any, .any, db true, .any, .any, dn n, .any, .any, .any, .any, .any, .any, .any, .any, .any, .any, .any, .any, .any, .any, .any, .any, .any, .any, .any, .any, .any, .any, .any, .any, .any, .any, .any, .any, .any, .any, .any, .any, .any, .any, .any, .any, .any, .any, .any, .any, .any, .any, .any, .any, .any, .any, .any, .any, .any, .any, .any, .any, .any, .any, .any, .any, .any, .any, .any, .any, .any, .any, .any, .any, .any, .any, .any, .any, .any, .any, .any, .any, .any, .any] ∧ st = σ ++ [some (.cells [.d (iD f.vars), .d (clsD f.cls)])]) ?_ ?_
  · rw [hq] at hch
    rcases hch with ⟨hc, hg⟩ | ⟨n, hc, hn, -, hg⟩
    · simp only [Prod.mk.injEq] at hc
      obtain ⟨rfl, rfl⟩ := hc
      simp only [go_sem, show ((0 : Int) == 260) = false from rfl, bne_self_eq_false]
      exact Wk.mask [1, 2, 5, 8] ⟨l.length, Nat.le_refl _, hg, rfl, rfl⟩
    · simp only [Prod.mk.injEq] at hc
      obtain ⟨rfl, rfl⟩ := hc
      simp only [go_sem, beq_self_eq_true]
      exact Wk.mask [1, 2, 5, 8] ⟨n, by omega, hg, rfl, rfl⟩
  · rintro fr st ⟨n, hn, hg, rfl, rfl⟩
    have d1 : decide ((n : Int) < 0) = false := decide_eq_false (by omega)
    have d2 : decide ((l.length : Int) < (n : Int)) = false := decide_eq_false (by omega)
    simp only [go_sem, List.length_map, d1, d2]
    refine ac' (refutes_ac f l hf _ _ _ ?_)
    obtain ⟨b, hb⟩ : ∃ b, refutes (chk (goodR f) f l) l = b := ⟨_, rfl⟩
    rw [hb] at hrs ⊢
    have hw8 : w ≤ 8 := by omega
    have hpow : 2 ^ w ≤ 256 := by
      have : 2 ^ w ≤ 2 ^ 8 := Nat.pow_le_pow_right (by decide) hw8
      exact this
    have w1 : IntKind.i64.wrap (1 * 2 ^ min f.vars.toNat 64) = ((2 ^ w : Nat) : Int) := by
      have e2 : (1 : Int) * 2 ^ w = ((2 ^ w : Nat) : Int) := by simp
      rw [hw, Nat.min_eq_left (by omega), e2]
      generalize 2 ^ w = p at hpow
      exact wrap64_id _ (by omega) (by omega)
    simp only [go_sem]
    refine aw_loop (fun m fr st => ∃ k : Nat, m = 2 ^ w - k ∧ k ≤ 2 ^ w ∧ fr = [.any, .d (.sl 2 (l.map stpD)), .ref σ.length 0, .any, .any, db true, .any, .any, dn n, db b, dn k, .any, .any, .any, .any, .any, .any, .any, .any, .any, .any, .any, .any, .any, .any, .any, .any, .any, .any, .any, .any, .any, .any, .any, .any, .any, .any, .any, .any, .any, .any, .any, .any, .any, .any, .any, .any, .any, .any, .any, .any, .any, .any, .any, .any, .any, .any, .any, .any, .any, .any, .any, .any, .any, .any, .any, .any, .any, .any, .any, .any, .any, .any, .any, .any, .any, .any, .any, .any, .any, .any, .any, .any] ∧ st = σ ++ [some (.cells [.d (iD f.vars), .d (clsD f.cls)])]) (2 ^ w) _
      (Wk.mask [1, 2, 5, 8, 9, 10] ⟨0, rfl, Nat.zero_le _, rfl, rfl⟩) ?_
    rintro m fr st ⟨k, hm, hk, rfl, rfl⟩
    have hbits : IntKind.bits .i64 = 64 := rfl
    rcases Nat.lt_or_ge k (2 ^ w) with hlt | hge
    · have hd : decide ((k : Int) < ((2 ^ w : Nat) : Int)) = true := decide_eq_true (by omega)
      have w2 := wrapS k (by omega)
      simp only [go_sem, hbits, w1, hd, w2]
      refine ⟨by omega, ac' (bits_ac' k f.vars (by omega) hv0 (by omega) _ _ _ ?_)⟩
      generalize bitsL (k : Int) f.vars.toNat = v
      simp only [go_sem, hD]
      refine ac' (eval_ac f v hv h1 h3 _ _ _ ?_)
      rw [hvv, Bool.true_and]
      have next : ∀ (fr : Fr), maskN [1, 2, 5, 8, 9, 10] 0 fr = [.any, .d (.sl 2 (l.map stpD)), .ref σ.length 0, .any, .any, db true, .any, .any, dn n, db b, dn (k + 1), .any, .any, .any, .any, .any, .any, .any, .any, .any, .any, .any, .any, .any, .any, .any, .any, .any, .any, .any, .any, .any, .any, .any, .any, .any, .any, .any, .any, .any, .any, .any, .any, .any, .any, .any, .any, .any, .any, .any, .any, .any, .any, .any, .any, .any, .any, .any, .any, .any, .any, .any, .any, .any, .any, .any, .any, .any, .any, .any, .any, .any, .any, .any, .any, .any, .any, .any, .any, .any, .any, .any, .any] → Wk G σ.length (fun g s => ∃ m', m' < m ∧ ∃ k : Nat, m' = 2 ^ w - k ∧ k ≤ 2 ^ w ∧ g = [.any, .d (.sl 2 (l.map stpD)), .ref σ.length 0, .any, .any, db true, .any, .any, dn n, db b, dn k, .any, .any, .any, .any, .any, .any, .any, .any, .any, .any, .any, .any, .any, .any, .any, .any, .any, .any, .any, .any, .any, .any, .any, .any, .any, .any, .any, .any, .any, .any, .any, .any, .any, .any, .any, .any, .any, .any, .any, .any, .any, .any, .any, .any, .any, .any, .any, .any, .any, .any, .any, .any, .any, .any, .any, .any, .any, .any, .any, .any, .any, .any, .any, .any, .any, .any, .any, .any, .any, .any, .any, .any] ∧ s = σ ++ [some (.cells [.d (iD f.vars), .d (clsD f.cls)])]) fr (σ ++ [some (.cells [.d (iD f.vars), .d (clsD f.cls)])]) := fun fr hfr =>
        Wk.mask [1, 2, 5, 8, 9, 10] ⟨2 ^ w - (k + 1), by omega, k + 1, rfl, by omega, hfr, rfl⟩
      cases he : evalC f v with
      | false =>
        simp only [go_sem, w2]
        exact next _ rfl
      | true =>
      have hb0 : b = false := by
        cases b with
        | false => rfl
        | true => have := hrs rfl v; rw [he] at this; cases this
      subst hb0
      have hss := steps_sound hn hvv hx he hg
      simp only [go_sem]
      refine aw_loop (fun m fr st => ∃ j : Nat, j ≤ n ∧ m = n - j ∧ fr = [.any, .d (.sl 2 (l.map stpD)), .ref σ.length 0, .any, .any, db true, .any, .any, dn n, db false, dn k, .d (bsD v), dn j, .any, .any, .any, .any, .any, .any, .any, .any, .any, .any, .any, .any, .any, .any, .any, .any, .any, .any, .any, .any, .any, .any, .any, .any, .any, .any, .any, .any, .any, .any, .any, .any, .any, .any, .any, .any, .any, .any, .any, .any, .any, .any, .any, .any, .any, .any, .any, .any, .any, .any, .any, .any, .any, .any, .any, .any, .any, .any, .any, .any, .any, .any, .any, .any, .any, .any, .any, .any, .any, .any] ∧ st = σ ++ [some (.cells [.d (iD f.vars), .d (clsD f.cls)])]) n _
        (Wk.mask [1, 2, 5, 8, 9, 10, 11, 12] ⟨0, by omega, rfl, rfl, rfl⟩) ?_
      rintro m' fr st ⟨j, hj, hm', rfl, rfl⟩
      rcases Nat.lt_or_ge j n with jlt | jge
      · have jd : decide ((j : Int) < (n : Int)) = true := decide_eq_true (by omega)
        have e1 := stpD_getD (l := l) (j := j) (by omega)
        have w3 := wrapS j (by omega)
        have hmem := getD_mem stp0 (show j < l.length by omega)
        have hr := good_range hvv (hx _ hmem) (hg j jlt)
        have hlen := hf.lits _ hmem
        have hh := hss j jlt
        simp only [go_sem, List.length_map, jd, e1, w3]
        refine ⟨⟨by omega, by omega⟩, ac' (holds_ac (l.getD j stp0).lits v (by simp only [reachBytes]; omega) (fun x hx' => by have := hr x hx'; omega) _ _ _ ?_)⟩
        rw [hh]
        simp only [go_sem, w3]
        exact Wk.mask [1, 2, 5, 8, 9, 10, 11, 12] ⟨n - (j + 1), by omega, j + 1, jlt, rfl, rfl, rfl⟩
      · have jd : decide ((j : Int) < (n : Int)) = false := decide_eq_false (by omega)
        simp only [go_sem, jd, w2]
        exact next _ rfl
    · have hd : decide ((k : Int) < ((2 ^ w : Nat) : Int)) = false := decide_eq_false (by omega)
      simp only [go_sem, hbits, w1, hd, Try.results11]
      exact ⟨by omega, ret_d hbd h⟩
end Go.Proofs.Ytpmjdaiboniagaa
end PartC21

section PartU19
/- The law package: within, assignment, each; what a run says under an assignment. -/
set_option linter.unusedSimpArgs false
set_option linter.unusedVariables false
set_option maxRecDepth 100000
namespace Go.Proofs.Ytpmjdaiboniagaa
open Go Go.Ab

def litB (v x : Int) : Bool := !(x == 0 || decide (v < x) || decide (x < -v))
theorem within_ac (l : List Int) (v : Int) (hv : 0 ≤ v ∧ v ≤ 8000) (hl : l.length ≤ reachBytes) (hx : ∀ x ∈ l, I64 x) (σ : St) (G : Glob) (R : A → St → Prop) (h : R (db (l.all (litB v) && decide ((l.length : Int) ≤ v + 10))) σ) : AC Try.prog G 27 [.d (isD l), di v] σ R := by
  refine ac_enter mixed Try.func27 rfl Try.ntmps27 (by simp only [go_sem]) fun hbd => ?_
  simp only [List.length_cons, List.length_nil, Nat.reduceAdd, Nat.reduceSub, List.replicate_succ, List.replicate_zero, List.cons_append, List.nil_append]
  have w1 : IntKind.i64.wrap (0 - v) = -v := by rw [wrap64_id _ (by omega) (by omega)]; omega
  have w5 : IntKind.i64.wrap (v + 10) = v + 10 := wrap64_id _ (by omega) (by omega)
  simp only [isD, go_sem]
  refine aw_loop (fun m fr st => ∃ j : Nat, j ≤ l.length ∧ m = l.length - j ∧ R (db ((l.drop j).all (litB v) && decide ((l.length : Int) ≤ v + 10))) σ ∧ fr = [.d (.sl 1 (l.map iD)), di v, .any, .any, .any, dn j, .any, .any, .any, .any, .any, .any, .any, .any, .any, .any, .any, .any, .any, .any, .any, .any, .any, .any, .any, .any, .any, .any, .any, .any, .any, .any, .any, .any, .any, .any, .any, .any, .any] ∧ st = σ) l.length _
    (Wk.mask [0, 1, 5] ⟨0, by omega, rfl, h, rfl, rfl⟩) ?_
  rintro m fr σ ⟨j, hj, hm, hR, rfl, rfl⟩
  rcases Nat.lt_or_ge j l.length with hlt | hge
  · have hd : decide ((j : Int) < (l.length : Int)) = true := by simp; omega
    have e1 : List.getD (List.map iD l) j default = iD (l.getD j 0) := getD_mapD hlt
    have w2 := wrapS j (by simp only [reachBytes] at hl; omega)
    rw [drop_getD 0 hlt, List.all_cons] at hR
    generalize l.getD j 0 = y at e1 hR
    simp only [go_sem, List.length_map, hd, e1, w1, w2, Try.results27]
    refine ⟨⟨by omega, by omega⟩, fun q => ⟨q, by omega, by omega⟩, fun q => ⟨q, by omega, by omega⟩, fun q => ret_d0 ?_, fun q => Wk.mask [0, 1, 5] ⟨l.length - (j + 1), by omega, j + 1, hlt, rfl, ?_, rfl, rfl⟩⟩
    · rw [litB, q] at hR; exact hR
    · rw [litB, q] at hR; exact hR
  · have hd : decide ((j : Int) < (l.length : Int)) = false := by simp; omega
    simp only [go_sem, List.length_map, hd, w5, Try.results27]
    rw [List.drop_eq_nil_of_le hge, List.all_nil, Bool.true_and] at hR
    exact ret_d0 hR
theorem assign28_ac (n : Nat) (vars : Nat) (hn : n ≤ 1000000) (hv : vars ≤ 1000000) (σ : St) (G : Glob) (R : A → St → Prop) (h : R (.d (bsD (bitsL n vars))) σ) : AC Try.prog G 28 [dn vars, dn n] σ R := by
  refine ac_enter mixed Try.func28 rfl Try.ntmps28 (by simp only [go_sem]) fun hbd => ?_
  simp only [List.length_cons, List.length_nil, Nat.reduceAdd, Nat.reduceSub, List.replicate_succ, List.replicate_zero, List.cons_append, List.nil_append]
  simp only [go_sem]
  refine aw_loop (fun m fr st => ∃ (j k : Nat) (L : List Bool), j ≤ vars ∧ m = vars - j ∧ k ≤ 1000000 ∧ L.length = j ∧ L ++ bitsL k (vars - j) = bitsL n vars ∧ fr = [dn vars, .any, .any, .any, .any, .rs σ.length 1 0 j (some 4), dn k, dn j, .any, .any, .any, .any, .any, .any, .any, .any, .any, .any, .any, .any, .any, .any, .any] ∧ st = σ ++ [some (.cells (L.map fun x => A.d (.bool x)))]) vars _
    ⟨_, _, (Weak.mask [0, 5, 6, 7]).trans (Weak.empty 5 1 (some 4) rfl), 0, n, [], by omega, rfl, hn, rfl, rfl, by simp [maskN], rfl⟩ ?_
  rintro m fr st ⟨j, k, L, hj, hm, hk, hL, hb, rfl, rfl⟩
  rcases Nat.lt_or_ge j vars with hlt | hge
  · have hd : decide ((j : Int) < (vars : Int)) = true := decide_eq_true (by omega)
    have w2 := wrapS j (by omega)
    have e3 : (k : Int).tdiv 2 = ((k / 2 : Nat) : Int) := rfl
    have w3 : IntKind.i64.wrap ((k : Int).tdiv 2) = ((k / 2 : Nat) : Int) := by
      rw [e3, wrap64_id _ (by omega) (by omega)]
    simp only [go_sem, hd, w2, w3, List.length_map]
    refine ⟨by omega, ⟨by omega, by simp only [maxLen]; omega, by omega⟩, by omega, ?_⟩
    refine Wk.keep [0, 5, 6, 7] [2] (by decide) (Nat.le_refl _) hbd ⟨vars - (j + 1), by omega, j + 1, k / 2, L ++ [Int.tmod k 2 == 1], hlt, rfl, by omega, by simp [hL], ?_, ?_, ?_⟩
    · rw [← hb, show vars - j = (vars - (j + 1)) + 1 by omega, bitsL, List.append_assoc, e3]
      rfl
    · simp only [go_sem]
    · simp only [go_sem, List.map_append, List.map_cons, List.map_nil]
  · have hd : decide ((j : Int) < (vars : Int)) = false := decide_eq_false (by omega)
    simp only [go_sem, hd, Try.results28]
    rw [show vars - j = 0 by omega, bitsL, List.append_nil] at hb
    subst hb
    refine ret_frz 0 1 0 ((bitsL n vars).map .bool) rfl (lies_bools _) ?_
    simp only [go_sem, List.length_map, hL]
    exact ret_d hbd h
theorem each30_ac (l : List Int) (v : List Bool) (hl : l.length ≤ reachBytes) (hx : ∀ x ∈ l, x ≠ 0 ∧ -8000 ≤ x ∧ x ≤ 8000) (σ : St) (G : Glob) (R : A → St → Prop) (h : R (db (l.all (holdsL v))) σ) : AC Try.prog G 30 [.d (isD l), .d (bsD v)] σ R := by
  refine ac_enter mixed Try.func30 rfl Try.ntmps30 (by simp only [go_sem]) fun hbd => ?_
  simp only [List.length_cons, List.length_nil, Nat.reduceAdd, Nat.reduceSub, List.replicate_succ, List.replicate_zero, List.cons_append, List.nil_append]
  simp only [isD, go_sem]
  refine aw_loop (fun m fr st => ∃ j : Nat, j ≤ l.length ∧ m = l.length - j ∧ R (db ((l.drop j).all (holdsL v))) σ ∧ fr = [.d (.sl 1 (l.map iD)), .d (bsD v), .any, .any, .any, dn j, .any, .any, .any, .any, .any, .any, .any, .any, .any, .any, .any, .any, .any, .any, .any] ∧ st = σ) l.length _
    (Wk.mask [0, 1, 5] ⟨0, by omega, rfl, h, rfl, rfl⟩) ?_
  rintro m fr σ ⟨j, hj, hm, hR, rfl, rfl⟩
  rcases Nat.lt_or_ge j l.length with hlt | hge
  · have hd : decide ((j : Int) < (l.length : Int)) = true := by simp; omega
    have e1 : List.getD (List.map iD l) j default = iD (l.getD j 0) := getD_mapD hlt
    have w2 := wrapS j (by simp only [reachBytes] at hl; omega)
    rw [drop_getD 0 hlt, List.all_cons] at hR
    simp only [go_sem, List.length_map, hd, e1, w2, Try.results30]
    refine ⟨⟨by omega, by omega⟩, ac' (true_ac _ _ (hx _ (getD_mem 0 hlt)) _ _ _ ?_)⟩
    simp only [go_sem, w2, Try.results30]
    refine ⟨fun q => ret_d0 ?_, fun q => Wk.mask [0, 1, 5] ⟨l.length - (j + 1), by omega, j + 1, hlt, rfl, ?_, rfl, rfl⟩⟩
    · rw [show holdsL v (l.getD j 0) = false by simpa using q] at hR; exact hR
    · rw [show holdsL v (l.getD j 0) = true by simpa using q] at hR; exact hR
  · have hd : decide ((j : Int) < (l.length : Int)) = false := by simp; omega
    simp only [go_sem, List.length_map, hd, Try.results30]
    rw [List.drop_eq_nil_of_le hge, List.all_nil] at hR
    exact ret_d0 hR
theorem stat_all {T : List Int} : ∀ {c : List Int} {o : Int}, (∀ l ∈ c, l ≠ 0) → ((statS T c o).1 = 1 → o = 0 ∧ ∀ l ∈ c, -l ∈ T) ∧ ((statS T c o).1 = 2 → (o = 0 ∨ o = (statS T c o).2) ∧ ∀ l ∈ c, -l ∈ T ∨ l = (statS T c o).2)
  | [], o, _ => by
    unfold statS
    split
    · rename_i h; exact ⟨fun _ => ⟨h, by simp⟩, fun k => by simp at k⟩
    · exact ⟨fun k => by simp at k, fun _ => ⟨.inr rfl, by simp⟩⟩
  | l :: c, o, hc => by
    have h0 := hc l (by simp)
    unfold statS
    split
    · exact ⟨fun k => by simp at k, fun k => by simp at k⟩
    · rename_i h
      rw [not_or] at h
      by_cases hl : -l ∈ T
      · rw [if_pos hl]
        obtain ⟨a, b⟩ := stat_all (T := T) (o := o) fun x hx => hc x (List.mem_cons_of_mem _ hx)
        refine ⟨fun k => ⟨(a k).1, fun x hx => ?_⟩, fun k => ⟨(b k).1, fun x hx => ?_⟩⟩
        · rcases List.mem_cons.1 hx with rfl | hx
          · exact hl
          · exact (a k).2 x hx
        · rcases List.mem_cons.1 hx with rfl | hx
          · exact .inl hl
          · exact (b k).2 x hx
      · rw [if_neg hl]
        obtain ⟨a, b⟩ := stat_all (T := T) (o := l) fun x hx => hc x (List.mem_cons_of_mem _ hx)
        have h1 : o = 0 ∨ o = l := by
          have := h.2
          by_cases e1 : o = 0
          · exact .inl e1
          · by_cases e2 : o = l
            · exact .inr e2
            · exact absurd ⟨hl, e1, e2⟩ this
        refine ⟨fun k => absurd (a k).1 h0, fun k => ?_⟩
        obtain ⟨b1, b2⟩ := b k
        have b3 := b1.resolve_left h0
        refine ⟨h1.imp id fun e => e.trans b3, fun x hx => ?_⟩
        rcases List.mem_cons.1 hx with rfl | hx
        · exact .inr b3
        · exact b2 x hx
theorem holds_not {v : List Bool} {l : Int} (h : holdsL v l = true) (h0 : l ≠ 0) : holdsL v (-l) = false := by
  unfold holdsL at h ⊢
  rw [Int.natAbs_neg]
  have : decide (0 < -l) = !decide (0 < l) := by
    rw [Bool.eq_iff_iff]; simp; omega
  rw [this, ← beq_iff_eq.1 h]
  cases v.getD (l.natAbs - 1) false <;> rfl
/-- Under an assignment that makes the formula true, what is propagated is true. -/
theorem run_sound {v : List Bool} {f : Cnf} (he : evalC f v = true) (hc : ∀ c ∈ f.cls, ∀ l ∈ c, l ≠ 0) : ∀ {k : Nat} {T Rs : List Int}, (∀ l ∈ T, l ≠ 0 ∧ holdsL v l = true) → (∀ l ∈ (runS f.cls k T Rs).1, holdsL v l = true) ∧ (runS f.cls k T Rs).2.2 = -1
  | 0, T, Rs, h => ⟨fun l hl => (h l hl).2, rfl⟩
  | k + 1, T, Rs, h => by
    unfold runS
    split
    · exact ⟨fun l hl => (h l hl).2, rfl⟩
    · rename_i i s x hf
      obtain ⟨j, e1, hj, hs, hn⟩ := findS_spec hf
      rw [Nat.zero_add] at e1; subst e1
      have hcm := getD_mem [] hj
      obtain ⟨l, hl, hlv⟩ := List.any_eq_true.1 (List.all_eq_true.1 he _ hcm)
      have hl0 := hc _ hcm l hl
      have hnot : -l ∉ T := fun hm => by
        have := (h _ hm).2
        have h2 := holds_not hlv hl0
        rw [this] at h2; cases h2
      obtain ⟨a, b⟩ := stat_all (T := T) (o := 0) (hc _ hcm)
      rw [hs] at a b
      simp only at a b
      split
      · rename_i h1
        exact absurd ((a h1).2 l hl) hnot
      · rename_i h1
        have hw := statS_who (T := T) (c := f.cls.getD i []) (o := 0)
        rw [hs] at hw
        simp only at hw
        obtain ⟨h2, hx0, _⟩ := (hw.resolve_left hn).resolve_left h1
        have hlx := ((b h2).2 l hl).resolve_left hnot
        refine run_sound he hc fun y hy => ?_
        rcases List.mem_append.1 hy with q | q
        · exact h y q
        · rw [List.mem_singleton] at q; rw [q, ← hlx]; exact ⟨hl0, hlv⟩
theorem initT_mem : ∀ {ls T : List Int} {x : Int}, x ∈ initT T ls ↔ x ∈ T ∨ x ∈ ls
  | [], T, x => by simp [initT]
  | l :: ls, T, x => by
    rw [initT, initT_mem, List.mem_cons]
    split
    · rename_i h
      exact ⟨fun k => k.elim .inl fun k => .inr (.inr k), fun k => k.elim .inl fun k => k.elim (fun e => .inl (e ▸ h)) .inr⟩
    · rw [List.mem_append, List.mem_singleton]
      exact ⟨fun k => k.elim (fun k => k.elim .inl fun k => .inr (.inl k)) fun k => .inr (.inr k), fun k => k.elim (fun k => .inl (.inl k)) fun k => k.elim (fun k => .inl (.inr k)) .inr⟩
end Go.Proofs.Ytpmjdaiboniagaa
end PartU19

section PartU20
/- UnitpropSound. -/
set_option linter.unusedSimpArgs false
set_option linter.unusedVariables false
set_option maxRecDepth 100000
namespace Go.Proofs.Ytpmjdaiboniagaa
open Go Go.Ab

theorem fineB_spec {f : Cnf} {lits : List Int} (h : fineB f lits = true) : (f.vars ≤ 8 ∧ f.cls.length ≤ 30 ∧ lits.length ≤ 10 ∧ ∀ c ∈ f.cls, c.length ≤ 10) ∧ validC f = true ∧ (validC f && litsOk f.vars [] lits) = true := by
  simp only [fineB, smallB, Bool.and_eq_true, Bool.not_eq_true', Bool.or_eq_false_iff, decide_eq_false_iff_not, List.all_eq_true] at h
  obtain ⟨⟨⟨⟨a, b⟩, c⟩, d⟩, e, u⟩ := h
  exact ⟨⟨by omega, by omega, by omega, fun c hc => by have := d c hc; omega⟩, e, by rw [e, usB_ok u (fun _ h => h) (by simp)]; rfl⟩
/-- What Propagate answers is sound. -/
theorem propS_spec {f : Cnf} {lits : List Int} (h : (validC f && litsOk f.vars [] lits) = true) : TOk f.vars (propS f lits).1 ∧ (propS f lits).2.1.length = (propS f lits).1.length ∧ (∀ r ∈ (propS f lits).2.1, -1 ≤ r ∧ r < f.cls.length) ∧ -1 ≤ (propS f lits).2.2 ∧ (propS f lits).2.2 < f.cls.length := by
  rw [propS, if_pos h]
  rw [Bool.and_eq_true] at h
  obtain ⟨hv, hcl⟩ := validC_spec h.1
  have hls := litsOk_spec h.2
  exact run_spec hcl (initT_ok (TOk.nil _) fun l hl => ⟨(hls l hl).1, (hls l hl).2.1, (hls l hl).2.2.1, (hls l hl).2.2.2.2, by simp⟩) (by simp) (fun r hr => by
      obtain ⟨_, _, rfl⟩ := List.mem_map.1 hr; omega)
theorem propS_sound {f : Cnf} {lits : List Int} {v : List Bool} (h : (validC f && litsOk f.vars [] lits) = true) (he : evalC f v = true) (hl : ∀ l ∈ lits, holdsL v l = true) : (∀ l ∈ (propS f lits).1, holdsL v l = true) ∧ (propS f lits).2.2 = -1 := by
  rw [propS, if_pos h]
  rw [Bool.and_eq_true] at h
  obtain ⟨hv, hcl⟩ := validC_spec h.1
  have hls := litsOk_spec h.2
  refine run_sound he (fun c hc l hl => (hcl c hc l hl).1) fun l hm => ?_
  rw [initT_mem] at hm
  have := hm.resolve_left (by simp)
  exact ⟨(hls l this).1, hl l this⟩
set_option maxHeartbeats 4000000 in
theorem law4_ac (f : Cnf) (lits : List Int) (h1 : f.cls.length ≤ reachBytes) (h3 : ∀ c ∈ f.cls, c.length ≤ reachBytes) (hv : I64 f.vars) (hll : lits.length ≤ reachBytes) (hl : ∀ l ∈ lits, I64 l) (σ : St) (G : Glob) (R : A → St → Prop) (h : R (db true) σ) : AC Try.prog G 4 [.d (cnfD f), .d (isD lits)] σ R := by
  refine ac_enter mixed Try.func4 rfl Try.ntmps4 (by simp only [go_sem]) fun hbd => ?_
  simp only [List.length_cons, List.length_nil, Nat.reduceAdd, Nat.reduceSub, List.replicate_succ, List.replicate_zero, List.cons_append, List.nil_append]
  simp only [cnfD, go_sem]
  refine ac' (head23_ac _ _ _ ?_)
  simp only [go_sem]
  refine ac' (fine_ac f lits hv h1 h3 hll hl _ _ _ ?_)
  simp only [go_sem, Try.results4]
  refine ⟨fun _ => ret_d hbd h, fun hb => ?_⟩
  obtain ⟨⟨b1, b2, b3, b4⟩, hvv, hok⟩ := fineB_spec (show fineB f lits = true by simpa using hb)
  obtain ⟨hv0, hcl⟩ := validC_spec hvv
  have hls := litsOk_spec (Bool.and_eq_true _ _ ▸ hok : _ ∧ _).2
  refine ac' (propagate_ac f lits hv (by omega) (fun c hc => by have := b4 c hc; omega) hll hl _ _ _ ?_)
  obtain ⟨q1, q2, q3, q4, q5⟩ := propS_spec hok
  have hs := fun v (he : evalC f v = true) hl => propS_sound (v := v) hok he hl
  obtain ⟨⟨T, Rs, c⟩, hr⟩ : ∃ r, propS f lits = r := ⟨_, rfl⟩
  rw [hr] at q1 q2 q3 q4 q5 hs
  simp only at q1 q2 q3 q4 q5 hs
  rw [hr]
  have hTl := q1.len hv0.1
  simp only [go_sem]
  refine ac' (within_ac T f.vars hv0 (by simp only [reachBytes]; omega) (fun x hx => by have := q1.rng x hx; simp only [I64]; omega) _ _ _ ?_)
  have ew : (T.all (litB f.vars) && decide ((T.length : Int) ≤ f.vars + 10)) = true := by
    rw [Bool.and_eq_true, decide_eq_true_eq, List.all_eq_true]
    refine ⟨fun x hx => ?_, by omega⟩
    have := q1.rng x hx
    simp only [litB, Bool.not_eq_true', Bool.or_eq_false_iff, beq_eq_false_iff_ne, decide_eq_false_iff_not]
    omega
  rw [ew]
  obtain ⟨w, hw⟩ : ∃ w : Nat, f.vars.toNat = w := ⟨_, rfl⟩
  have hw' : f.vars = (w : Int) := by omega
  have hD : D.agg [iD f.vars, clsD f.cls] = cnfD f := rfl
  have hw8 : w ≤ 8 := by omega
  have hpow : 2 ^ w ≤ 256 := by
    have : 2 ^ w ≤ 2 ^ 8 := Nat.pow_le_pow_right (by decide) hw8
    exact this
  have w1 : IntKind.i64.wrap (1 * 2 ^ min f.vars.toNat 64) = ((2 ^ w : Nat) : Int) := by
    have e2 : (1 : Int) * 2 ^ w = ((2 ^ w : Nat) : Int) := by simp
    rw [hw, Nat.min_eq_left (by omega), e2]
    generalize 2 ^ w = p at hpow
    exact wrap64_id _ (by omega) (by omega)
  simp only [go_sem]
  refine aw_loop (fun m fr st => ∃ k : Nat, m = 2 ^ w - k ∧ k ≤ 2 ^ w ∧ fr = [.any, .d (isD lits), .ref σ.length 0, .any, .any, db true, .d (isD T), .any, di c, dn k, .any, .any, .any, .any, .any, .any, .any, .any, .any, .any, .any, .any, .any, .any, .any, .any, .any, .any, .any, .any, .any, .any, .any, .any, .any, .any, .any, .any, .any, .any, .any, .any, .any, .any, .any, .any, .any, .any, .any, .any, .any, .any, .any, .any, .any, .any, .any, .any, .any] ∧ st = σ ++ [some (.cells [.d (iD f.vars), .d (clsD f.cls)])]) (2 ^ w) _
    (Wk.mask [1, 2, 5, 6, 8, 9] ⟨0, rfl, Nat.zero_le _, rfl, rfl⟩) ?_
  rintro m fr st ⟨k, hm, hk, rfl, rfl⟩
  have hbits : IntKind.bits .i64 = 64 := rfl
  rcases Nat.lt_or_ge k (2 ^ w) with hlt | hge
  · have hd : decide ((k : Int) < ((2 ^ w : Nat) : Int)) = true := decide_eq_true (by omega)
    have w2 := wrapS k (by omega)
    simp only [go_sem, hbits, w1, hd, w2]
    rw [hw']
    refine ⟨by omega, ac' (assign28_ac k w (by omega) (by omega) _ _ _ ?_)⟩
    generalize bitsL (k : Int) w = v
    rw [← hw']
    simp only [go_sem, hD]
    refine ac' (eval_ac f v hv h1 h3 _ _ _ ?_)
    rw [hvv, Bool.true_and]
    have next : ∀ (fr : Fr), maskN [1, 2, 5, 6, 8, 9] 0 fr = [.any, .d (isD lits), .ref σ.length 0, .any, .any, db true, .d (isD T), .any, di c, dn (k + 1), .any, .any, .any, .any, .any, .any, .any, .any, .any, .any, .any, .any, .any, .any, .any, .any, .any, .any, .any, .any, .any, .any, .any, .any, .any, .any, .any, .any, .any, .any, .any, .any, .any, .any, .any, .any, .any, .any, .any, .any, .any, .any, .any, .any, .any, .any, .any, .any, .any] → Wk G σ.length (fun g s => ∃ m', m' < m ∧ ∃ k : Nat, m' = 2 ^ w - k ∧ k ≤ 2 ^ w ∧ g = [.any, .d (isD lits), .ref σ.length 0, .any, .any, db true, .d (isD T), .any, di c, dn k, .any, .any, .any, .any, .any, .any, .any, .any, .any, .any, .any, .any, .any, .any, .any, .any, .any, .any, .any, .any, .any, .any, .any, .any, .any, .any, .any, .any, .any, .any, .any, .any, .any, .any, .any, .any, .any, .any, .any, .any, .any, .any, .any, .any, .any, .any, .any, .any, .any] ∧ s = σ ++ [some (.cells [.d (iD f.vars), .d (clsD f.cls)])]) fr (σ ++ [some (.cells [.d (iD f.vars), .d (clsD f.cls)])]) := fun fr hfr =>
      Wk.mask [1, 2, 5, 6, 8, 9] ⟨2 ^ w - (k + 1), by omega, k + 1, rfl, by omega, hfr, rfl⟩
    have heach := fun st => each30_ac lits v hll (fun x hx => by have := hls x hx; omega) st G (fun r s => r = .d (.bool (lits.all (holdsL v))) ∧ s = st) ⟨rfl, rfl⟩
    cases he : evalC f v with
    | false =>
      simp only [go_sem]
      refine ex' (.bool false) ⟨fun q => Bool.noConfusion q, ?_⟩
      simp only [go_sem]
      refine ex' (.bool false) ⟨fun q => Bool.noConfusion q, ?_⟩
      simp only [go_sem, w2]
      exact next _ rfl
    | true =>
    simp only [go_sem]
    refine ex' (.bool (lits.all (holdsL v))) ⟨fun _ => ?_, ?_⟩
    · simp only [go_sem]
      exact ac' (heach _)
    cases ha : lits.all (holdsL v) with
    | false =>
      simp only [go_sem]
      refine ex' (.bool false) ⟨fun q => Bool.noConfusion q, ?_⟩
      simp only [go_sem, w2]
      exact next _ rfl
    | true =>
    obtain ⟨g1, rfl⟩ := hs v he fun l hl => List.all_eq_true.1 ha l hl
    have g2 : T.all (holdsL v) = true := List.all_eq_true.2 g1
    have hT := fun st => each30_ac T v (by simp only [reachBytes]; omega) (fun x hx => by have := q1.rng x hx; omega) st G (fun r s => r = .d (.bool true) ∧ s = st) (by rw [g2]; exact ⟨rfl, rfl⟩)
    simp only [go_sem]
    refine ex' (.bool true) ⟨fun _ => ?_, ?_⟩
    · simp only [go_sem]
      exact ⟨by simp, ac' (hT _)⟩
    simp only [go_sem, w2, bne_self_eq_false]
    exact next _ rfl
  · have hd : decide ((k : Int) < ((2 ^ w : Nat) : Int)) = false := decide_eq_false (by omega)
    simp only [go_sem, hbits, w1, hd, Try.results4]
    exact ⟨hv0.1, ret_d hbd h⟩
end Go.Proofs.Ytpmjdaiboniagaa
end PartU20

section PartU22
/- Unit propagation, plain: the chain of a run's literals; it is the least closed set. -/
set_option linter.unusedSimpArgs false
set_option linter.unusedVariables false
namespace Go.Proofs.Ytpmjdaiboniagaa
open Go Go.Ab

/-- From a trail on, each literal is the open one of its reason's clause. -/
inductive Chain (cls : List (List Int)) : List Int → List (Int × Nat) → Prop
  | nil (T : List Int) : Chain cls T []
  | cons {T : List Int} {x : Int} {i : Nat} {X : List (Int × Nat)} (hi : i < cls.length) (hs : statS T (cls.getD i []) 0 = (2, x)) (h : Chain cls (T ++ [x]) X) : Chain cls T ((x, i) :: X)
theorem stat_inv {T c : List Int} {x : Int} (hc : ∀ l ∈ c, l ≠ 0) (h : statS T c 0 = (2, x)) : satB T c = false ∧ opL T c = [x] := by
  cases hs : satB T c with
  | true => have := stat_zero hc (.inl hs); rw [h] at this; cases this
  | false =>
    refine ⟨rfl, ?_⟩
    match ho : opL T c with
    | [] => have := stat_one hc hs (by rw [ho]; rfl); rw [h] at this; cases this
    | [y] => have := stat_two hc hs ho; rw [h] at this; injection this with _ e; rw [e]
    | y :: z :: r => have := stat_zero (T := T) hc (.inr (by rw [ho]; simp)); rw [h] at this; cases this
theorem stat_inv1 {T c : List Int} (hc : ∀ l ∈ c, l ≠ 0) (h : (statS T c 0).1 = 1) : satB T c = false ∧ opL T c = [] := by
  cases hs : satB T c with
  | true => have := stat_zero hc (.inl hs); rw [h] at this; cases this
  | false =>
    refine ⟨rfl, ?_⟩
    match ho : opL T c with
    | [] => rfl
    | [y] => have := stat_two hc hs ho; rw [this] at h; cases h
    | y :: z :: r => have := stat_zero (T := T) hc (.inr (by rw [ho]; simp)); rw [h] at this; cases this
theorem opL_congr {S T : List Int} : ∀ {c : List Int}, (∀ l ∈ c, -l ∈ S ↔ -l ∈ T) → opL S c = opL T c
  | [], _ => rfl
  | l :: c, h => by
    have ih := opL_congr (S := S) (T := T) (c := c) fun l hl => h l (List.mem_cons_of_mem _ hl)
    have h0 := h l (by simp)
    unfold opL
    by_cases k : -l ∈ S ∨ l ∈ c
    · rw [if_pos k, if_pos (k.imp h0.1 id), ih]
    · rw [if_neg k, if_neg (fun q => k (q.imp h0.2 id)), ih]
theorem satB_false {T c : List Int} : satB T c = false ↔ ∀ l ∈ c, l ∉ T := by
  simp [satB]
/-- A clause's status is its literals'. -/
theorem stat_congr {S T c : List Int} (hc : ∀ l ∈ c, l ≠ 0) (h1 : ∀ l ∈ c, -l ∈ S ↔ -l ∈ T) (h2 : ∀ l ∈ c, l ∈ S → l ∈ T) {x : Int} (h : statS T c 0 = (2, x)) : statS S c 0 = (2, x) := by
  obtain ⟨a, b⟩ := stat_inv hc h
  refine stat_two hc (satB_false.2 fun l hl q => satB_false.1 a l hl (h2 l hl q)) ?_
  rw [opL_congr h1, b]
theorem stat_congr1 {S T c : List Int} (hc : ∀ l ∈ c, l ≠ 0) (h1 : ∀ l ∈ c, -l ∈ S ↔ -l ∈ T) (h2 : ∀ l ∈ c, l ∈ S → l ∈ T) (h : (statS T c 0).1 = 1) : (statS S c 0).1 = 1 := by
  obtain ⟨a, b⟩ := stat_inv1 hc h
  rw [stat_one hc (satB_false.2 fun l hl q => satB_false.1 a l hl (h2 l hl q)) (by rw [opL_congr h1, b]; rfl)]
theorem findS_zero {T : List Int} : ∀ {cs : List (List Int)} {i : Nat}, findS T cs i = none → ∀ c ∈ cs, (statS T c 0).1 = 0
  | [], _, _, c, hc => by cases hc
  | c :: cs, i, h, d, hd => by
    unfold findS at h
    split at h
    · rename_i k
      rcases List.mem_cons.1 hd with rfl | q
      · exact k
      · exact findS_zero h d q
    · cases h
/-- What a run comes to. -/
theorem run_chain {cls : List (List Int)} : ∀ {k : Nat} {T Rs : List Int}, ∃ X : List (Int × Nat), (runS cls k T Rs).1 = T ++ X.map (·.1) ∧ (runS cls k T Rs).2.1 = Rs ++ X.map (fun p => (p.2 : Int)) ∧ Chain cls T X ∧
    (((runS cls k T Rs).2.2 = -1 ∧ (X.length = k ∨ findS (T ++ X.map (·.1)) cls 0 = none)) ∨ ∃ i : Nat, (runS cls k T Rs).2.2 = i ∧ i < cls.length ∧ (statS (T ++ X.map (·.1)) (cls.getD i []) 0).1 = 1)
  | 0, T, Rs => ⟨[], by simp [runS], by simp [runS], .nil _, .inl ⟨rfl, .inl rfl⟩⟩
  | k + 1, T, Rs => by
    unfold runS
    split
    · rename_i hf
      exact ⟨[], by simp, by simp, .nil _, .inl ⟨rfl, .inr (by simpa using hf)⟩⟩
    · rename_i i s x hf
      obtain ⟨j, e1, hj, hs, hn⟩ := findS_spec hf
      rw [Nat.zero_add] at e1; subst e1
      split
      · rename_i h1
        refine ⟨[], by simp, by simp, .nil _, .inr ⟨i, rfl, hj, ?_⟩⟩
        simp only [List.map_nil, List.append_nil, hs, h1]
      · rename_i h1
        have hw := statS_who (T := T) (c := cls.getD i []) (o := 0)
        rw [hs] at hw
        simp only at hw
        obtain ⟨h2, hx0, _⟩ := (hw.resolve_left hn).resolve_left h1
        obtain ⟨X, a, b, c, d⟩ := run_chain (cls := cls) (k := k) (T := T ++ [x]) (Rs := Rs ++ [(i : Int)])
        refine ⟨(x, i) :: X, by rw [a]; simp, by rw [b]; simp, .cons hj (by rw [hs, h2]) c, ?_⟩
        have e3 : T ++ ((x, i) :: X).map (·.1) = T ++ [x] ++ X.map (·.1) := by simp
        rw [e3]
        exact d.imp (fun d => ⟨d.1, d.2.imp (fun e => by simp [e]) id⟩) id
theorem Chain.at {cls : List (List Int)} : ∀ {X : List (Int × Nat)} {T : List Int} {j : Nat} {x : Int} {i : Nat}, Chain cls T X → X[j]? = some (x, i) → i < cls.length ∧ statS (T ++ (X.take j).map (·.1)) (cls.getD i []) 0 = (2, x)
  | [], T, j, x, i, h, hj => by simp at hj
  | (y, m) :: X, T, j, x, i, h, hj => by
    cases h with
    | cons hi hs h =>
      match j with
      | 0 =>
        simp only [List.getElem?_cons_zero, Option.some.injEq, Prod.mk.injEq] at hj
        obtain ⟨rfl, rfl⟩ := hj
        exact ⟨hi, by simpa using hs⟩
      | j + 1 =>
        obtain ⟨a, b⟩ := Chain.at h (j := j) (by simpa using hj)
        exact ⟨a, by simpa using b⟩
/-- A trail that no clause asks anything of. -/
structure Cl (v : Int) (cls : List (List Int)) (T : List Int) : Prop where
  ok : TOk v T
  none : ∀ c ∈ cls, (statS T c 0).1 = 0
/-- Each of the clauses is, as a set, one of the others. -/
def SubC (c1 c2 : List (List Int)) : Prop := ∀ c ∈ c1, ∃ d ∈ c2, ∀ l, l ∈ d ↔ l ∈ c
theorem Cl.not_false {v : Int} {cls : List (List Int)} {T : List Int} (h : Cl v cls T) (hc : ∀ c ∈ cls, ∀ l ∈ c, l ≠ 0) {d : List Int} (hd : d ∈ cls) (hn : ∀ l ∈ d, -l ∈ T) : False := by
  have h0 := h.none d hd
  have hs : satB T d = false := satB_false.2 fun l hl q => (h.ok.rng l q).2.2.2 (hn l hl)
  have ho : opL T d = [] := List.eq_nil_iff_forall_not_mem.2 fun x hx => (mem_opL.1 hx).2 (hn x (mem_opL.1 hx).1)
  rw [stat_one (hc d hd) hs (by rw [ho]; rfl)] at h0
  cases h0
theorem Cl.unit {v : Int} {cls : List (List Int)} {T : List Int} (h : Cl v cls T) (hc : ∀ c ∈ cls, ∀ l ∈ c, l ≠ 0) {d : List Int} {x : Int} (hd : d ∈ cls) (hx : x ∈ d) (hn : ∀ l ∈ d, l = x ∨ -l ∈ T) : x ∈ T := by
  refine Decidable.byContradiction fun hxT => ?_
  by_cases hm : -x ∈ T
  · exact h.not_false hc hd fun l hl => (hn l hl).elim (fun e => e ▸ hm) id
  · have h0 := h.none d hd
    have hs : satB T d = false := satB_false.2 fun l hl q => (hn l hl).elim (fun e => hxT (e ▸ q)) fun k => (h.ok.rng l q).2.2.2 k
    have ho : opL T d = [x] := by
      have h1 : ∀ y, y ∈ opL T d ↔ y = x := fun y => by
        rw [mem_opL]
        exact ⟨fun k => (hn y k.1).resolve_right k.2, fun e => e ▸ ⟨hx, hm⟩⟩
      have h2 := opL_nodup (T := T) (c := d)
      revert h1 h2
      generalize opL T d = L
      intro h1 h2
      match L with
      | [] => exact absurd ((h1 x).2 rfl) (by simp)
      | [y] => rw [(h1 y).1 (by simp)]
      | y :: z :: r =>
        have e1 := (h1 y).1 (by simp)
        have e2 := (h1 z).1 (by simp)
        rw [e1, e2] at h2; simp at h2
    rw [stat_two (hc d hd) hs ho] at h0
    cases h0
/-- What a run derives lies in every closed trail behind its start. -/
theorem Chain.sub {v : Int} {c1 c2 : List (List Int)} {S : List Int} (hc1 : ∀ c ∈ c1, ∀ l ∈ c, l ≠ 0) (hc2 : ∀ c ∈ c2, ∀ l ∈ c, l ≠ 0) (hS : Cl v c2 S) (hsub : SubC c1 c2) : ∀ {X : List (Int × Nat)} {T : List Int}, Chain c1 T X → (∀ l ∈ T, l ∈ S) → ∀ l ∈ T ++ X.map (·.1), l ∈ S
  | [], T, _, hT => by simpa using hT
  | (x, i) :: X, T, h, hT => by
    cases h with
    | cons hi hs h =>
      have hcm := getD_mem [] hi
      obtain ⟨d, hd, hdl⟩ := hsub _ hcm
      obtain ⟨a, b⟩ := stat_inv (hc1 _ hcm) hs
      have hx : x ∈ opL T (c1.getD i []) := by rw [b]; simp
      have hxS := hS.unit hc2 hd ((hdl x).2 (mem_opL.1 hx).1) fun l hl => by
        by_cases e : l = x
        · exact .inl e
        · refine .inr (hT _ (Decidable.byContradiction fun q => e ?_))
          have : l ∈ opL T (c1.getD i []) := mem_opL.2 ⟨(hdl l).1 hl, q⟩
          rw [b] at this; simpa using this
      have := Chain.sub hc1 hc2 hS hsub h fun l hl => (List.mem_append.1 hl).elim (hT l) fun q => by rw [List.mem_singleton] at q; rw [q]; exact hxS
      simpa using this
end Go.Proofs.Ytpmjdaiboniagaa
end PartU22
