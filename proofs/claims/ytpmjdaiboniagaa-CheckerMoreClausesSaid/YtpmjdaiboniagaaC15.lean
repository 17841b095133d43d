/- The checker's law package: small functions. -/
import Derived.Test.YtpmjdaiboniagaaC14
set_option linter.unusedSimpArgs false
set_option linter.unusedVariables false
set_option maxRecDepth 100000
namespace Go.Proofs.Ytpmjdaiboniagaa
open Go Go.Ab

theorem flat_isD (l : List Int) : flat (l.map iD) = l.map fun x => A.d (iD x) := by
  induction l with
  | nil => rfl
  | cons x l ih => rw [List.map_cons, flat_cons, ih]; rfl
theorem flat_bools (l : List Bool) : flat (l.map D.bool) = l.map fun x => A.d (.bool x) := by
  induction l with
  | nil => rfl
  | cons x l ih => rw [List.map_cons, flat_cons, ih]; rfl
theorem flat_cls (l : List (List Int)) : flat (l.map isD) = l.map fun x => A.d (isD x) := by
  induction l with
  | nil => rfl
  | cons x l ih => rw [List.map_cons, flat_cons, ih]; rfl
theorem lies_map {α : Type} (f : α → D) (hf : ∀ x, (f x).cells = [f x] ∧ (f x).one = true) (l : List α) : Lies (l.map fun x => A.d (f x)) 1 0 (l.map f) := by
  have e : flat (l.map f) = l.map fun x => A.d (f x) := by
    induction l with
    | nil => rfl
    | cons x l ih => rw [List.map_cons, flat_cons, ih, (hf x).1]; rfl
  rw [← e]
  refine lies_of fun x hx => ?_
  obtain ⟨y, _, rfl⟩ := List.mem_map.1 hx
  rw [(hf y).1]
  exact ⟨rfl, fun z hz => by simp at hz; rw [hz]; exact (hf y).2⟩
theorem lies_ints (l : List Int) : Lies (l.map fun x => A.d (iD x)) 1 0 (l.map iD) := lies_map iD (fun _ => ⟨rfl, rfl⟩) l
theorem lies_bools (l : List Bool) : Lies (l.map fun x => A.d (D.bool x)) 1 0 (l.map D.bool) := lies_map D.bool (fun _ => ⟨rfl, rfl⟩) l
theorem lies_cls (l : List (List Int)) : Lies (l.map fun x => A.d (isD x)) 1 0 (l.map isD) := lies_map isD (fun _ => ⟨rfl, rfl⟩) l
theorem take_snoc {α : Type} (d : α) {l : List α} {j : Nat} (h : j < l.length) : l.take (j + 1) = l.take j ++ [l.getD j d] := by
  rw [List.take_add_one, List.getD_eq_getElem?_getD, List.getElem?_eq_getElem h]; rfl

theorem small_ac (f : Cnf) (l : List Stp) (h1 : f.cls.length ≤ reachBytes) (h2 : l.length ≤ reachBytes) (σ : St) (G : Glob) (R : A → St → Prop) (h : R (db (smallC f l)) σ) : AC Try.prog G 36 [.d (cnfD f), .d (stpsD l)] σ R := by
  obtain ⟨vars, cls⟩ := f
  simp only [reachBytes] at h1 h2
  refine ac_enter mixed Try.func36 rfl Try.ntmps36 (by simp only [go_sem]) fun hbd => ?_
  simp only [List.length_cons, List.length_nil, Nat.reduceAdd, Nat.reduceSub, List.replicate_succ, List.replicate_zero, List.cons_append, List.nil_append]
  simp only [cnfD, clsD, stpsD, go_sem, List.length_map, Try.results36]
  rw [smallC] at h
  simp only at h
  refine ⟨fun hb => ret_d hbd ?_, fun hb => ?_⟩
  · rw [hb] at h; exact h
  rw [hb, Bool.not_false, Bool.true_and] at h
  generalize hrest : (l.all fun s => !(decide ((12 : Int) < s.lits.length) || decide ((40 : Int) < s.hints.length))) = rest at h
  refine aw_loop (fun m fr st => ∃ j : Nat, j ≤ cls.length ∧ m = cls.length - j ∧ R (db ((cls.drop j).all (fun c => !decide ((12 : Int) < c.length)) && rest)) σ ∧ fr = [.any, .d (.sl 2 (l.map stpD)), .ref σ.length 0, .any, .any, dn j, .any, .any, .any, .any, .any, .any, .any, .any, .any, .any, .any, .any, .any, .any, .any, .any, .any, .any, .any, .any, .any, .any, .any, .any, .any, .any, .any, .any, .any, .any, .any, .any, .any, .any, .any, .any, .any, .any, .any, .any, .any, .any, .any, .any, .any, .any] ∧
    st = σ ++ [some (.cells [.d (iD vars), .d (.sl 1 (cls.map isD))])]) cls.length _ (Wk.mask [1, 2, 5] ⟨0, by omega, rfl, h, rfl, rfl⟩) ?_
  clear h
  rintro m fr st ⟨j, hj, hm, hR, rfl, rfl⟩
  rcases Nat.lt_or_ge j cls.length with hlt | hge
  · have hd : decide ((j : Int) < (cls.length : Int)) = true := decide_eq_true (by omega)
    have e1 := isD_getD hlt
    have w2 := wrapS j (by omega)
    rw [drop_getD [] hlt, List.all_cons] at hR
    simp only [go_sem, List.length_map, hd, e1, w2, Try.results36]
    refine ⟨⟨by omega, by omega⟩, fun hb => ret_d hbd ?_, fun hb => Wk.mask [1, 2, 5] ⟨cls.length - (j + 1), by omega, j + 1, hlt, rfl, ?_, rfl, rfl⟩⟩
    · rw [hb] at hR; simpa using hR
    · rw [hb] at hR; simpa using hR
  · have hd : decide ((j : Int) < (cls.length : Int)) = false := decide_eq_false (by omega)
    rw [List.drop_eq_nil_of_le hge, List.all_nil, Bool.true_and, ← hrest] at hR
    simp only [go_sem, List.length_map, hd]
    refine aw_loop (fun m fr st => ∃ j : Nat, j ≤ l.length ∧ m = l.length - j ∧ R (db ((l.drop j).all fun s => !(decide ((12 : Int) < s.lits.length) || decide ((40 : Int) < s.hints.length)))) σ ∧ fr = [.any, .d (.sl 2 (l.map stpD)), .any, .any, .any, .any, dn j, .any, .any, .any, .any, .any, .any, .any, .any, .any, .any, .any, .any, .any, .any, .any, .any, .any, .any, .any, .any, .any, .any, .any, .any, .any, .any, .any, .any, .any, .any, .any, .any, .any, .any, .any, .any, .any, .any, .any, .any, .any, .any, .any, .any, .any] ∧
      st = σ ++ [some (.cells [.d (iD vars), .d (.sl 1 (cls.map isD))])]) l.length _ (Wk.mask [1, 6] ⟨0, by omega, rfl, hR, rfl, rfl⟩) ?_
    clear hR hd
    rintro m' fr st ⟨k, hk, hm', hR, rfl, rfl⟩
    rcases Nat.lt_or_ge k l.length with klt | kge
    · have kd : decide ((k : Int) < (l.length : Int)) = true := decide_eq_true (by omega)
      have e2 := stpD_getD klt
      have w3 := wrapS k (by omega)
      rw [drop_getD ⟨[], []⟩ klt, List.all_cons] at hR
      simp only [go_sem, isD, List.length_map, kd, e2, w3, Try.results36]
      refine ⟨⟨by omega, by omega⟩, fun _ => ⟨by omega, by omega⟩, fun hb => ret_d hbd ?_, fun hb => Wk.mask [1, 6] ⟨l.length - (k + 1), by omega, k + 1, klt, rfl, ?_, rfl, rfl⟩⟩
      · rw [hb] at hR; simpa using hR
      · rw [hb] at hR; simpa using hR
    · have kd : decide ((k : Int) < (l.length : Int)) = false := decide_eq_false (by omega)
      simp only [go_sem, List.length_map, kd, Try.results36]
      rw [List.drop_eq_nil_of_le kge] at hR
      exact ret_d hbd hR
theorem turnedO_ac (c : List Int) (hc : c.length ≤ 1000000) (σ : St) (G : Glob) (R : A → St → Prop) (h : R (.rs σ.length 1 0 c.length (some 3)) (σ ++ [ints c.reverse])) : AC Try.prog G 48 [.d (isD c)] σ R := by
  refine ac_enter mixed Try.func48 rfl Try.ntmps48 (by simp only [go_sem]) fun hbd => ?_
  simp only [List.length_cons, List.length_nil, Nat.reduceAdd, Nat.reduceSub, List.replicate_succ, List.replicate_zero, List.cons_append, List.nil_append]
  have w1 : IntKind.i64.wrap ((c.length : Int) - 1) = (c.length : Int) - 1 := wrap64_id _ (by omega) (by omega)
  simp only [isD, go_sem, List.length_map, w1]
  refine aw_loop (fun m fr st => ∃ j : Nat, j ≤ c.length ∧ m = c.length - j ∧ fr = [.d (.sl 1 (c.map iD)), .any, .any, .rs σ.length 1 0 j (some 3), di ((c.length : Int) - 1 - j), .any, .any, .any, .any, .any, .any, .any, .any, .any, .any, .any, .any, .any, .any, .any] ∧ st = σ ++ [ints (c.reverse.take j)]) c.length _
    ⟨_, _, (Weak.mask [0, 3, 4]).trans (Weak.empty 3 1 (some 3) rfl), 0, by omega, rfl, by simp [maskN], by simp [ints]⟩ ?_
  rintro m fr st ⟨j, hj, hm, rfl, rfl⟩
  rcases Nat.lt_or_ge j c.length with hlt | hge
  · have hd : decide ((0 : Int) ≤ (c.length : Int) - 1 - j) = true := decide_eq_true (by omega)
    have hn : ((c.length : Int) - 1 - j) = ((c.length - 1 - j : Nat) : Int) := by omega
    have e1 : List.getD (List.map iD c) (c.length - 1 - j) default = iD (c.getD (c.length - 1 - j) 0) := getD_mapD (by omega)
    have w2 : IntKind.i64.wrap (((c.length - 1 - j : Nat) : Int) - 1) = (c.length : Int) - 1 - ((j + 1 : Nat) : Int) := by rw [wrap64_id _ (by omega) (by omega)]; omega
    have hrev : c.reverse.getD j 0 = c.getD (c.length - 1 - j) 0 := by
      rw [List.getD_eq_getElem?_getD, List.getElem?_reverse hlt, List.getD_eq_getElem?_getD]
    rw [hn] at hd ⊢
    simp only [go_sem, List.length_map, hd, e1, w2]
    refine ⟨⟨by omega, by omega⟩, ⟨by rw [List.length_take, List.length_reverse]; omega, by simp only [maxLen]; omega, by omega⟩, ?_⟩
    refine Wk.keep [0, 3, 4] [2] (by decide) (Nat.le_refl _) hbd ⟨c.length - (j + 1), by omega, j + 1, hlt, rfl, ?_, ?_⟩
    · simp only [go_sem]
    · rw [take_snoc 0 (by rw [List.length_reverse]; exact hlt), hrev]
      simp only [go_sem, List.map_append, List.map_cons, List.map_nil, ints]
  · have hd : decide ((0 : Int) ≤ (c.length : Int) - 1 - j) = false := decide_eq_false (by omega)
    have htk : c.reverse.take j = c.reverse := List.take_of_length_le (by rw [List.length_reverse]; exact hge)
    simp only [go_sem, hd, htk, Try.results48]
    rw [show j = c.length by omega]
    refine ret_keep [0] (by decide) hbd ?_
    simp only [go_sem]
    exact h
theorem turned_ac (c : List Int) (hc : c.length ≤ 1000000) (σ : St) (G : Glob) (R : A → St → Prop) (h : R (.d (isD c.reverse)) σ) : AC Try.prog G 48 [.d (isD c)] σ R := by
  refine ac_bd (by simp only [go_sem]) fun hbd => ?_
  refine ac_post (turnedO_ac c hc σ G _ ?_)
  refine ret_frz 0 1 0 (c.reverse.map iD) rfl (lies_ints _) ?_
  simp only [go_sem, List.length_map, List.length_reverse]
  exact ret_d hbd h
def bitsL (n : Int) : Nat → List Bool
  | 0 => []
  | k + 1 => (Int.tmod n 2 == 1) :: bitsL (Int.tdiv n 2) k
theorem bitsL_len (n : Int) : ∀ k, (bitsL n k).length = k
  | 0 => rfl
  | k + 1 => by simp [bitsL, bitsL_len _ k]
theorem bits_ac (n : Nat) (vars : Nat) (hn : n ≤ 1000000) (hv : vars ≤ 1000000) (σ : St) (G : Glob) (R : A → St → Prop) (h : R (.d (bsD (bitsL n vars))) σ) : AC Try.prog G 44 [dn n, dn vars] σ R := by
  refine ac_enter mixed Try.func44 rfl Try.ntmps44 (by simp only [go_sem]) fun hbd => ?_
  simp only [List.length_cons, List.length_nil, Nat.reduceAdd, Nat.reduceSub, List.replicate_succ, List.replicate_zero, List.cons_append, List.nil_append]
  simp only [go_sem]
  refine aw_loop (fun m fr st => ∃ (j k : Nat) (L : List Bool), j ≤ vars ∧ m = vars - j ∧ k ≤ 1000000 ∧ L.length = j ∧ L ++ bitsL k (vars - j) = bitsL n vars ∧ fr = [dn k, dn vars, .any, .any, .any, .rs σ.length 1 0 j (some 4), dn j, .any, .any, .any, .any, .any, .any, .any, .any, .any, .any, .any, .any, .any, .any] ∧ st = σ ++ [some (.cells (L.map fun x => A.d (.bool x)))]) vars _
    ⟨_, _, (Weak.mask [0, 1, 5, 6]).trans (Weak.empty 5 1 (some 4) rfl), 0, n, [], by omega, rfl, hn, rfl, rfl, by simp [maskN], rfl⟩ ?_
  rintro m fr st ⟨j, k, L, hj, hm, hk, hL, hb, rfl, rfl⟩
  rcases Nat.lt_or_ge j vars with hlt | hge
  · have hd : decide ((j : Int) < (vars : Int)) = true := decide_eq_true (by omega)
    have w2 := wrapS j (by omega)
    have e3 : (k : Int).tdiv 2 = ((k / 2 : Nat) : Int) := rfl
    have w3 : IntKind.i64.wrap ((k : Int).tdiv 2) = ((k / 2 : Nat) : Int) := by
      rw [e3, wrap64_id _ (by omega) (by omega)]
    simp only [go_sem, hd, w2, w3, List.length_map]
    refine ⟨by omega, ⟨by omega, by simp only [maxLen]; omega, by omega⟩, by omega, ?_⟩
    refine Wk.keep [0, 1, 5, 6] [2] (by decide) (Nat.le_refl _) hbd ⟨vars - (j + 1), by omega, j + 1, k / 2, L ++ [Int.tmod k 2 == 1], hlt, rfl, by omega, by simp [hL], ?_, ?_, ?_⟩
    · rw [← hb, show vars - j = (vars - (j + 1)) + 1 by omega, bitsL, List.append_assoc, e3]
      rfl
    · simp only [go_sem]
    · simp only [go_sem, List.map_append, List.map_cons, List.map_nil]
  · have hd : decide ((j : Int) < (vars : Int)) = false := decide_eq_false (by omega)
    simp only [go_sem, hd, Try.results44]
    rw [show vars - j = 0 by omega, bitsL, List.append_nil] at hb
    subst hb
    refine ret_frz 0 1 0 ((bitsL n vars).map .bool) rfl (lies_bools _) ?_
    simp only [go_sem, List.length_map, hL]
    exact ret_d hbd h
end Go.Proofs.Ytpmjdaiboniagaa
