import Derived.Test.YtmjlhbkgljcnoaaGreatDoorZ37
import Derived.Test.YtmjlhbkgljcnoaaGreatDoorRows
import Derived.Test.YtmjlhbkgljcnoaaGreatDoorAbRow
import Derived.Stop.Joined
import Derived.SevenTiedAt
import Derived.Test.YtmjlhbkgljcnoaaGreatDoorRA
import Derived.Test.YtmjlhbkgljcnoaaGreatDoorCards
import Derived.Test.YtmjlhbkgljcnoaaGreatDoorTie

section PartT37
/- The law, walked. -/
set_option linter.unusedSimpArgs false
set_option linter.unusedVariables false
set_option maxRecDepth 100000
namespace Go.Proofs.YtmjlhbkgljcnoaaGreatDoor
open Go Go.Ab

def eD (e : Ex) : D := .agg [iD e.op, iD e.w, iD e.n, .sl 4 (e.kids.map Ex.d)]
def exO (e : Ex) : Option Ob := some (.cells [.d (iD e.op), .d (iD e.w), .d (iD e.n), .d (.sl 4 (e.kids.map Ex.d))])
/-- What states.Of leaves. -/
def OfP (cells : List Cel) (e : Ex) (S : List A) (c : Int) : Prop := (c ≠ 0 ∧ S = [.d .nils, .d .nils, .d .nils]) ∨ (c = 0 ∧ ∃ ws, cw cells = nL ws ∧ Ws ws ∧ ws.length = cells.length ∧ e.deep 40 = true ∧ e.over cells false = true ∧ e.w = 1 ∧ S = [.d (isD (nL (cL ws))), .d (isD (nL ws)), .d (isD (nL (satL ws e)))])
/-- What relation.Of leaves. -/
def RelP (cells : List Cel) (e : Ex) (S : List A) (c : Int) : Prop := (c ≠ 0 ∧ S = [.d .nils, .d .nils, .d .nils]) ∨ (c = 0 ∧ ∃ ws M, cw cells = nL ws ∧ Ws ws ∧ ws.sum ≤ 6 ∧ ws.length = cells.length ∧ e.deep 40 = true ∧ e.over cells true = true ∧ e.w = 1 ∧ RM ws e M ∧ S = [.d (isD (nL (cL ws))), .d (isD (nL ws)), .d (prsD (pairsM M 64))])
theorem off (cells : List Cel) (hk : cells.length ≤ 6) (e : Ex) (hok : e.Ok) (hn : e.nodes ≤ 600) (σ : St) (G : Glob) (hG : G.g 0 = some masksD) (hT : G.g 1 = some tabD) (R : A → St → Prop)
    (h : ∀ x y z c, OfP cells e [.d x, .d y, .d z] c → R (.tup [.d (.agg [x, y, z]), di c]) σ) : AC Tryz.prog G 6 [.d (.sl 6 (cells.map celD)), .d (isD (nL (List.range cells.length))), .d (.agg [iD e.op, iD e.w, iD e.n, .sl 4 (e.kids.map Ex.d)])] σ R := by
  rw [← Ex.d_eq]
  exact Of_ac cells hk e hok hn σ G hG hT R (fun c hc _ => h _ _ _ c (.inl ⟨hc, rfl⟩)) fun ws h1 h2 h3 h4 h5 h6 => h _ _ _ 0 (.inr ⟨rfl, ws, h1, h2, h3, h4, h5, h6, rfl⟩)
theorem rff (cells : List Cel) (hk : cells.length ≤ 6) (e : Ex) (hok : e.Ok) (hn : e.nodes ≤ 600) (σ : St) (G : Glob) (hG : G.g 0 = some masksD) (hT : G.g 1 = some tabD) (hp : ∀ a s, ¬ G.pan a s) (R : A → St → Prop)
    (h : ∀ x y z c, RelP cells e [.d x, .d y, .d z] c → R (.tup [.d (.agg [x, y, z]), di c]) σ) : AC Tryz.prog G 7 [.d (.sl 6 (cells.map celD)), .d (isD (nL (List.range cells.length))), .d (.agg [iD e.op, iD e.w, iD e.n, .sl 4 (e.kids.map Ex.d)])] σ R := by
  rw [← Ex.d_eq]
  exact relOf_ac cells hk e hok hn σ G hG hT hp R (fun c hc _ => h _ _ _ c (.inl ⟨hc, rfl⟩)) fun ws h1 h2 h3 h4 h5 h6 h7 M hM => h _ _ _ 0 (.inr ⟨rfl, ws, M, h1, h2, h3, h4, h5, h6, h7, hM, rfl⟩)
def setO (ws l : List Nat) : Option Ob := some (.cells [.d (isD (nL (cL ws))), .d (isD (nL ws)), .d (isD (nL l))])
theorem over_true {cells : List Cel} : ∀ {n : Nat} {e : Ex}, e.over cells false = true → e.nodes ≤ n → e.over cells true = true
  | 0, e, _, h => by rw [Ex.nodes_eq] at h; omega
  | n + 1, e, ho, h => by
    rw [Ex.nodes_eq] at h
    rw [Ex.over_eq, Bool.and_eq_true, List.all_eq_true] at ho ⊢
    refine ⟨?_, fun k hk => over_true (ho.2 k hk) (n := n) ?_⟩
    · have h1 := ho.1
      simp only [Ex.overN, Bool.not_false, Bool.not_true, Bool.and_true, Bool.and_false, Bool.true_and, Bool.and_eq_true] at h1 ⊢
      exact h1.2
    · have : k.nodes ≤ (e.kids.map Ex.nodes).sum := le_sumN (List.mem_map.2 ⟨k, hk, rfl⟩)
      omega
theorem and_rs {cells : List Cel} {p q : Ex} (h : Two cells p q) {id : Nat} {σ : St} {G : Glob} {R : A → St → Prop} (hob : σ[id]? = some (some (.cells [.d (iD p.op), .d (iD p.w), .d (iD p.n), .d (.sl 4 (p.kids.map Ex.d)), .d (iD q.op), .d (iD q.w), .d (iD q.n), .d (.sl 4 (q.kids.map Ex.d))]))) (hG : G.g 0 = some masksD) (hR : R (.d (eD (andL [p, q]))) (σ.set id none)) : AC Tryz.prog G 12 [.rs id 4 0 2 (some 25)] σ R := by
  refine ac_weak (Weak.freeze (G := G) id 4 0 [p.d, q.d] hob (exC_lies [p, q])) ?_
  simp only [go_sem]
  exact and2_ac h _ _ hG _ (by rw [Ex.d_eq]; exact hR)
set_option maxHeartbeats 16000000 in
theorem law_ac (cells : List Cel) (a r o : Ex) (ha : a.Ok) (hr : r.Ok) (ho : o.Ok) (σ : St) (G : Glob) (hG : G.g 0 = some masksD) (hT : G.g 1 = some tabD) (hpan : ∀ a s, ¬ G.pan a s)
    (hC : ∀ (σ : St) (R : A → St → Prop), R (db true) σ → AC Tryz.prog G 4 [] σ R) (R : A → St → Prop) (h : R (db true) σ) : AC Tryz.prog G 3 [.d (celsD cells), .d a.d, .d r.d, .d o.d] σ R := by
  have sm : ∀ e : Ex, e.Ok → ∀ (σ : St) (R : A → St → Prop), R (db (decide (e.nodes ≤ 30))) σ → AC Tryz.prog G 5 [.d e.d, di 30] σ R := fun e he σ R hR => small_ac e he 30 (by omega) σ G R hR
  rw [Ex.d_eq a, Ex.d_eq r, Ex.d_eq o]
  have sa := sm a ha
  have sr := sm r hr
  have so := sm o ho
  rw [Ex.d_eq] at sa sr so
  refine ac_enterC' [9, 10, 11, 12, 21, 23, 24, 27] mixed Tryz.func3 rfl Tryz.ntmps3 (by simp only [go_sem]) fun hbd => ?_
  simp only [List.length_cons, List.length_nil, Nat.reduceAdd, Nat.reduceSub, List.replicate_succ, List.replicate_zero, List.cons_append, List.nil_append]
  simp only [go_sem, toDs, Tryz.results3]
  refine ac' (hC _ _ ?_)
  simp only [celsD, go_sem, toDs, List.length_map, Tryz.results3]
  refine ex' (.bool (decide (a.nodes ≤ 30))) ⟨fun hg => ?_, ?_⟩
  · simp only [go_sem]
    exact ⟨hg, ac' (sa _ _ ⟨rfl, rfl⟩)⟩
  simp only [go_sem, toDs, Tryz.results3]
  refine ex' (.bool (decide (r.nodes ≤ 30))) ⟨fun hg => ?_, ?_⟩
  · simp only [go_sem]
    exact ⟨hg, ac' (sr _ _ ⟨rfl, rfl⟩)⟩
  simp only [go_sem, toDs, Tryz.results3]
  refine ex' (.bool (decide (o.nodes ≤ 30))) ⟨fun hg => ?_, ?_⟩
  · simp only [go_sem]
    exact ⟨hg, ac' (so _ _ ⟨rfl, rfl⟩)⟩
  simp only [go_sem, toDs, Tryz.results3]
  refine ⟨fun _ => ret_d hbd h, fun hc => ?_⟩
  simp only [Bool.or_eq_false_iff, decide_eq_false_iff_not, Bool.not_eq_false', decide_eq_true_eq] at hc
  obtain ⟨⟨⟨hk, na⟩, nr⟩, no⟩ := hc
  have hk6 : cells.length ≤ 6 := by omega
  obtain ⟨k, hkk⟩ : ∃ k, cells.length = k := ⟨_, rfl⟩
  refine aw_cut (fun fr st => fr = [.d (celsD cells), .any, .any, .any, .any, .ref σ.length 0, .ref (σ.length + 1) 0, .ref (σ.length + 2) 0, .any, db true, .d (isD (nL (List.range cells.length))), .any, .any, .any, .any, .any, .any, .any, .any, .any, .any, .any, .any, .any, .any, .any, .any, .any, .any, .any, .any, .any, .any, .any, .any, .any, .any, .any, .any, .any, .any, .any, .any, .any, .any, .any, .any, .any, .any, .any, .any, .any, .any, .any, .any, .any, .any, .any, .any, .any, .any, .any, .any, .any, .any, .any, .any, .any, .any, .any, .any, .any, .any, .any, .any, .any, .any, .any, .any, .any, .any, .any, .any, .any, .any, .any, .any, .any, .any, .any, .any, .any, .any, .any, .any, .any, .any, .any, .any, .any, .any, .any, .any, .any, .any, .any, .any, .any, .any, .any, .any, .any, .any, .any, .any, .any, .any, .any, .any, .any, .any, .any, .any, .any, .any, .any, .any, .any, .any, .any, .any, .any, .any, .any, .any, .any, .any, .any, .any, .any, .any, .any, .any, .any, .any, .any, .any, .any, .any, .any, .any, .any, .any, .any, .any, .any, .any, .any, .any, .any, .any, .any, .any, .any, .any, .any, .any, .any, .any, .any, .any, .any, .any, .any, .any, .any, .any, .any, .any, .any, .any] ∧ st = σ ++ [exO a, exO r, exO o]) ?_ ?_
  · simp only [go_sem, Tryz.results3]
    rw [hkk]
    refine aw_loop (fun m fr st => ∃ j : Nat, j ≤ k ∧ m = k - j ∧ fr = [.d (celsD cells), .any, .any, .any, .any, .ref σ.length 0, .ref (σ.length + 1) 0, .ref (σ.length + 2) 0, .any, db true, .rs (σ.length + 3) 1 0 j (some 3), dn j, .any, .any, .any, .any, .any, .any, .any, .any, .any, .any, .any, .any, .any, .any, .any, .any, .any, .any, .any, .any, .any, .any, .any, .any, .any, .any, .any, .any, .any, .any, .any, .any, .any, .any, .any, .any, .any, .any, .any, .any, .any, .any, .any, .any, .any, .any, .any, .any, .any, .any, .any, .any, .any, .any, .any, .any, .any, .any, .any, .any, .any, .any, .any, .any, .any, .any, .any, .any, .any, .any, .any, .any, .any, .any, .any, .any, .any, .any, .any, .any, .any, .any, .any, .any, .any, .any, .any, .any, .any, .any, .any, .any, .any, .any, .any, .any, .any, .any, .any, .any, .any, .any, .any, .any, .any, .any, .any, .any, .any, .any, .any, .any, .any, .any, .any, .any, .any, .any, .any, .any, .any, .any, .any, .any, .any, .any, .any, .any, .any, .any, .any, .any, .any, .any, .any, .any, .any, .any, .any, .any, .any, .any, .any, .any, .any, .any, .any, .any, .any, .any, .any, .any, .any, .any, .any, .any, .any, .any, .any, .any, .any, .any, .any, .any, .any, .any, .any, .any, .any] ∧ st = σ ++ [exO a, exO r, exO o, some (intsC (nL (List.range j)))]) k _ (Wk.mask [0, 5, 6, 7, 9, 10, 11] ⟨0, by omega, rfl, rfl, by simp [exO, intsC, nL]⟩) ?_
    rintro m fr st ⟨j, hj, hm, rfl, rfl⟩
    rcases Nat.lt_or_ge j k with hlt | hge
    · have hd : decide ((j : Int) < (k : Int)) = true := by simp only [decide_eq_true_eq]; omega
      have w2 := wrapS j (by omega)
      simp only [celsD, exO, intsC, go_sem, List.length_map, hkk, hd, w2, nL_len, List.length_range, Tryz.results3]
      refine ⟨⟨by omega, by simp only [maxLen]; omega, by omega⟩, Wk.keep [0, 5, 6, 7, 9, 10, 11] [0, 1, 2, 5] (by decide) (Nat.le_refl _) hbd ⟨k - (j + 1), by omega, j + 1, by omega, rfl, by simp only [go_sem], ?_⟩⟩
      rw [List.range_succ]
      unfold nL
      rw [List.map_append, List.map_append]
      simp only [go_sem, List.map_cons, List.map_nil, renL_ints]
      rfl
    · have hd : decide ((j : Int) < (k : Int)) = false := by simp only [decide_eq_false_iff_not]; omega
      obtain rfl : j = k := by omega
      simp only [celsD, exO, intsC, go_sem, List.length_map, hkk, hd, Tryz.results3]
      have hob : (σ ++ [some (Ob.cells [A.d (iD a.op), A.d (iD a.w), A.d (iD a.n), A.d (D.sl 4 (List.map Ex.d a.kids))]), some (Ob.cells [A.d (iD r.op), A.d (iD r.w), A.d (iD r.n), A.d (D.sl 4 (List.map Ex.d r.kids))]), some (Ob.cells [A.d (iD o.op), A.d (iD o.w), A.d (iD o.n), A.d (D.sl 4 (List.map Ex.d o.kids))]), some (Ob.cells (List.map (fun x => A.d (iD x)) (nL (List.range j))))])[σ.length + 3]? = some (some (.cells ((nL (List.range j)).map fun x => A.d (iD x)))) := by simp
      refine Wk.via (Weak.freeze (G := G) (n0 := σ.length) (σ.length + 3) 1 0 ((nL (List.range j)).map iD) hob (lies_ints _)) ?_
      simp only [go_sem, List.length_map, nL_len, List.length_range]
      refine Wk.keep [0, 5, 6, 7, 9, 10] [0, 1, 2] (by decide) (Nat.le_refl _) hbd ⟨?_, ?_⟩
      · simp only [isD, go_sem]
      · simp only [go_sem]
  rintro fr st ⟨rfl, rfl⟩
  refine aw_cut (fun fr st => ∃ x y z c, OfP cells a [.d x, .d y, .d z] c ∧ fr = [.d (celsD cells), .any, .any, .any, .any, .ref σ.length 0, .ref (σ.length + 1) 0, .ref (σ.length + 2) 0, .any, db true, .d (isD (nL (List.range cells.length))), .any, .ref (σ.length + 3) 0, di c, .any, .any, .any, .any, .any, .any, .any, .any, .any, .any, .any, .any, .any, .any, .any, .any, .any, .any, .any, .any, .any, .any, .any, .any, .any, .any, .any, .any, .any, .any, .any, .any, .any, .any, .any, .any, .any, .any, .any, .any, .any, .any, .any, .any, .any, .any, .any, .any, .any, .any, .any, .any, .any, .any, .any, .any, .any, .any, .any, .any, .any, .any, .any, .any, .any, .any, .any, .any, .any, .any, .any, .any, .any, .any, .any, .any, .any, .any, .any, .any, .any, .any, .any, .any, .any, .any, .any, .any, .any, .any, .any, .any, .any, .any, .any, .any, .any, .any, .any, .any, .any, .any, .any, .any, .any, .any, .any, .any, .any, .any, .any, .any, .any, .any, .any, .any, .any, .any, .any, .any, .any, .any, .any, .any, .any, .any, .any, .any, .any, .any, .any, .any, .any, .any, .any, .any, .any, .any, .any, .any, .any, .any, .any, .any, .any, .any, .any, .any, .any, .any, .any, .any, .any, .any, .any, .any, .any, .any, .any, .any, .any, .any, .any, .any, .any, .any, .any] ∧ st = σ ++ [exO a, exO r, exO o, some (.cells [.d x, .d y, .d z])]) ?_ ?_
  · simp only [celsD, exO, go_sem, toDs, Tryz.results3]
    refine ac' (off cells hk6 a ha (by omega) _ _ hG hT _ fun x y z c hO => ?_)
    simp only [celsD, exO, go_sem, toDs, Tryz.results3]
    exact Wk.mask [0, 5, 6, 7, 9, 10, 12, 13] ⟨x, y, z, c, hO, rfl, rfl⟩
  rintro fr st ⟨x, y, z, c, hO, rfl, rfl⟩
  refine aw_cut (fun fr st => ∃ x2 y2 z2 c2, RelP cells r [.d x2, .d y2, .d z2] c2 ∧ fr = [.d (celsD cells), .any, .any, .any, .any, .ref σ.length 0, .ref (σ.length + 1) 0, .ref (σ.length + 2) 0, .any, db true, .d (isD (nL (List.range cells.length))), .any, .ref (σ.length + 3) 0, di c, .ref (σ.length + 4) 0, di c2, .any, .any, .any, .any, .any, .any, .any, .any, .any, .any, .any, .any, .any, .any, .any, .any, .any, .any, .any, .any, .any, .any, .any, .any, .any, .any, .any, .any, .any, .any, .any, .any, .any, .any, .any, .any, .any, .any, .any, .any, .any, .any, .any, .any, .any, .any, .any, .any, .any, .any, .any, .any, .any, .any, .any, .any, .any, .any, .any, .any, .any, .any, .any, .any, .any, .any, .any, .any, .any, .any, .any, .any, .any, .any, .any, .any, .any, .any, .any, .any, .any, .any, .any, .any, .any, .any, .any, .any, .any, .any, .any, .any, .any, .any, .any, .any, .any, .any, .any, .any, .any, .any, .any, .any, .any, .any, .any, .any, .any, .any, .any, .any, .any, .any, .any, .any, .any, .any, .any, .any, .any, .any, .any, .any, .any, .any, .any, .any, .any, .any, .any, .any, .any, .any, .any, .any, .any, .any, .any, .any, .any, .any, .any, .any, .any, .any, .any, .any, .any, .any, .any, .any, .any, .any, .any, .any, .any, .any, .any, .any, .any, .any, .any, .any, .any] ∧ st = σ ++ [exO a, exO r, exO o, some (.cells [.d x, .d y, .d z]), some (.cells [.d x2, .d y2, .d z2])]) ?_ ?_
  · simp only [celsD, exO, go_sem, toDs, Tryz.results3]
    refine ac' (rff cells hk6 r hr (by omega) _ _ hG hT hpan _ fun x2 y2 z2 c2 hO2 => ?_)
    simp only [celsD, exO, go_sem, toDs, Tryz.results3]
    exact Wk.mask [0, 5, 6, 7, 9, 10, 12, 13, 14, 15] ⟨x2, y2, z2, c2, hO2, rfl, rfl⟩
  rintro fr st ⟨x2, y2, z2, c2, hO2, rfl, rfl⟩
  refine aw_cut (fun fr st => ∃ x3 y3 z3 c3, OfP cells o [.d x3, .d y3, .d z3] c3 ∧ fr = [.d (celsD cells), .any, .any, .any, .any, .ref σ.length 0, .ref (σ.length + 1) 0, .ref (σ.length + 2) 0, .any, db true, .any, .any, .ref (σ.length + 3) 0, di c, .ref (σ.length + 4) 0, di c2, .ref (σ.length + 5) 0, di c3, .any, .any, .any, .any, .any, .any, .any, .any, .any, .any, .any, .any, .any, .any, .any, .any, .any, .any, .any, .any, .any, .any, .any, .any, .any, .any, .any, .any, .any, .any, .any, .any, .any, .any, .any, .any, .any, .any, .any, .any, .any, .any, .any, .any, .any, .any, .any, .any, .any, .any, .any, .any, .any, .any, .any, .any, .any, .any, .any, .any, .any, .any, .any, .any, .any, .any, .any, .any, .any, .any, .any, .any, .any, .any, .any, .any, .any, .any, .any, .any, .any, .any, .any, .any, .any, .any, .any, .any, .any, .any, .any, .any, .any, .any, .any, .any, .any, .any, .any, .any, .any, .any, .any, .any, .any, .any, .any, .any, .any, .any, .any, .any, .any, .any, .any, .any, .any, .any, .any, .any, .any, .any, .any, .any, .any, .any, .any, .any, .any, .any, .any, .any, .any, .any, .any, .any, .any, .any, .any, .any, .any, .any, .any, .any, .any, .any, .any, .any, .any, .any, .any, .any, .any, .any, .any, .any, .any, .any, .any, .any, .any, .any, .any] ∧ st = σ ++ [exO a, exO r, exO o, some (.cells [.d x, .d y, .d z]), some (.cells [.d x2, .d y2, .d z2]), some (.cells [.d x3, .d y3, .d z3])]) ?_ ?_
  · simp only [celsD, exO, go_sem, toDs, Tryz.results3]
    refine ac' (off cells hk6 o ho (by omega) _ _ hG hT _ fun x3 y3 z3 c3 hO3 => ?_)
    simp only [celsD, exO, go_sem, toDs, Tryz.results3]
    exact Wk.mask [0, 5, 6, 7, 9, 12, 13, 14, 15, 16, 17] ⟨x3, y3, z3, c3, hO3, rfl, rfl⟩
  rintro fr st ⟨x3, y3, z3, c3, hO3, rfl, rfl⟩
  by_cases hz : c = 0 ∧ c2 = 0 ∧ c3 = 0
  · obtain ⟨rfl, rfl, rfl⟩ := hz
    have n0 : ((0 : Int) != 0) = false := rfl
    rcases hO with ⟨h0, -⟩ | ⟨-, ws, e1, e2, e3, e4, e5, e6, eS⟩
    · exact absurd rfl h0
    rcases hO2 with ⟨h0, -⟩ | ⟨-, ws2, M, g1, g2, g3, g4, g5, g6, g7, gM, gS⟩
    · exact absurd rfl h0
    rcases hO3 with ⟨h0, -⟩ | ⟨-, ws3, i1, i2, i3, i4, i5, i6, iS⟩
    · exact absurd rfl h0
    have nli : ∀ u v : List Nat, nL u = nL v → u = v := fun u v huv => by
      have h3 := congrArg (List.map Int.toNat) huv
      simpa [nL, List.map_map, Function.comp_def] using h3
    obtain rfl : ws = ws2 := nli _ _ (e1.symm.trans g1)
    obtain rfl : ws = ws3 := nli _ _ (e1.symm.trans i1)
    injection eS with s1 s2; injection s2 with s2 s3; injection s3 with s3 _
    injection s1 with s1; injection s2 with s2; injection s3 with s3
    subst s1 s2 s3
    injection gS with s1 s2; injection s2 with s2 s3; injection s3 with s3 _
    injection s1 with s1; injection s2 with s2; injection s3 with s3
    subst s1 s2 s3
    injection iS with s1 s2; injection s2 with s2 s3; injection s3 with s3 _
    injection s1 with s1; injection s2 with s2; injection s3 with s3
    subst s1 s2 s3
    have cxa : Cx cells a := ⟨ha, by omega, e4, by rw [over_true e5 (by omega)], e6⟩
    have cxr : Cx cells r := ⟨hr, by omega, g5, g6, g7⟩
    have cxo : Cx cells o := ⟨ho, by omega, i4, by rw [over_true i5 (by omega)], i6⟩
    have hL : Lw cells ws a r M := ⟨⟨e1, e3, e2, g3⟩, cxa, e5, na, cxr, nr, gM⟩
    obtain ⟨S, hS⟩ : ∃ S, satL ws a = S := ⟨_, rfl⟩
    obtain ⟨T, hTt⟩ : ∃ T, partL ws a M = T := ⟨_, rfl⟩
    obtain ⟨X, hX⟩ : ∃ X, xS ws T = X := ⟨_, rfl⟩
    have ssT : Ss ws T := hTt ▸ hL.ss
    have b0 : (X.op == 0) = false := by rw [beq_eq_false_iff_ne, ← hX]; exact xS_op ws T
    simp only [celsD, exO, setO, go_sem, n0, toDs, Tryz.results3]
    refine ac' (Closure_ac ws (pairsM M 64) hL.rs _ _ hT hpan _ ?_)
    simp only [setX, celsD, exO, go_sem, n0, toDs, Tryz.results3]
    refine ac' (Inside_ac ws (closeR ws (pairsM M 64)) (satL ws a) (closeR_rs hL.rs) (sat_ss e2 a) _ _ hT _ ?_)
    rw [show insL (closeR ws (pairsM M 64)) (satL ws a) = T from hTt]
    simp only [setX, celsD, exO, go_sem, n0, toDs, Tryz.results3]
    refine ac' (expr_ac ws T ssT g3 ⟨ssT.pair, ssT.lt⟩ (by have := e2.len; omega) (fun w hw => (e2.ok w hw).2) _ _ hpan _ ?_)
    rw [hX, Ex.d_eq X]
    simp only [setX, celsD, exO, go_sem, n0, b0, toDs, Tryz.results3]
    refine aw_cut (fun fr st => fr = [.d (celsD cells), .any, .any, .any, .any, .ref σ.length 0, .ref (σ.length + 1) 0, .ref (σ.length + 2) 0, .any, db true, .any, .any, .ref (σ.length + 3) 0, .any, .any, .any, .ref (σ.length + 5) 0, .any, .any, .ref (σ.length + 7) 0, .ref (σ.length + 8) 0, .any, .any, .any, .any, .any, .any, .any, .any, .any, .any, .any, .any, .any, .any, .any, .any, .any, .any, .any, .any, .any, .any, .any, .any, .any, .any, .any, .any, .any, .any, .any, .any, .any, .any, .any, .any, .any, .any, .any, .any, .any, .any, .any, .any, .any, .any, .any, .any, .any, .any, .any, .any, .any, .any, .any, .any, .any, .any, .any, .any, .any, .any, .any, .any, .any, .any, .any, .any, .any, .any, .any, .any, .any, .any, .any, .any, .any, .any, .any, .any, .any, .any, .any, .any, .any, .any, .any, .any, .any, .any, .any, .any, .any, .any, .any, .any, .any, .any, .any, .any, .any, .any, .any, .any, .any, .any, .any, .any, .any, .any, .any, .any, .any, .any, .any, .any, .any, .any, .any, .any, .any, .any, .any, .any, .any, .any, .any, .any, .any, .any, .any, .any, .any, .any, .any, .any, .any, .any, .any, .any, .any, .any, .any, .any, .any, .any, .any, .any, .any, .any, .any, .any, .any, .any, .any, .any, .any, .any, .any, .any] ∧ st = σ ++ [exO a, exO r, exO o, setO ws S, some (.cells [.d (isD (nL (cL ws))), .d (isD (nL ws)), .d (prsD (pairsM M 64))]), setO ws (satL ws o), some (.cells [.d (isD (nL (cL ws))), .d (isD (nL ws)), .d (prsD (closeR ws (pairsM M 64)))]), setO ws T, exO X]) ?_ ?_
    · simp only [setX, celsD, exO, setO, go_sem, n0, b0, toDs, Tryz.results3]
      rw [hS]
      exact Wk.mask [0, 5, 6, 7, 9, 12, 16, 19, 20] ⟨rfl, rfl⟩
    rintro fr st ⟨rfl, rfl⟩
    have cxX : Cx cells X := hX ▸ (xS_cx hL.w T).1
    have cw := hL.w
    have hXo : X.over cells false = true := hX ▸ (xS_cx hL.w T).2
    have twX : Two cells (bef X) r := by rw [← hX]; exact hL.twoX T
    have twA : Two cells (bef a) r := hL.twoB cxa e5 na
    have twO : Two cells (bef o) r := hL.twoB cxo i5 no
    have hol : ∀ (h g : Ex), Cx cells h → Cx cells g → ∀ (σ : St) (R : A → St → Prop), R (db (@decide (Imp ws h g) (Classical.propDecidable _))) σ → AC Tryz.prog G 11 [.d (celsD cells), .d h.d, .d g.d] σ R := fun h g hh hg σ R hR => holds_ac cells ws e1 hk6 e3 e2 g3 h g hh hg σ G hG hpan R hR
    have bfr : ∀ e : Ex, Cx cells e → ∀ (σ : St) (R : A → St → Prop), R (.d (bef e).d) σ → AC Tryz.prog G 13 [.d e.d] σ R := fun e he σ R hR => before_ac e he.ok he.nodes he.deep σ G hG R hR
    have l1 : Imp ws X a := by rw [← hX, ← hTt]; exact hL.l1
    have l2 : Imp ws (andL [bef X, r]) X := by rw [← hX, ← hTt]; exact hL.l2
    have hXa : ∀ (σ : St) (R : A → St → Prop), R (db true) σ → AC Tryz.prog G 11 [.d (.sl 6 (cells.map celD)), .d (eD X), .d (eD a)] σ R := fun σ R hR => by
      have := hol X a cxX cxa σ R (by rw [@decide_eq_true _ (Classical.propDecidable _) l1]; exact hR)
      rw [Ex.d_eq, Ex.d_eq] at this
      exact this
    have bX : ∀ (σ : St) (R : A → St → Prop), R (.d (eD (bef X))) σ → AC Tryz.prog G 13 [.d (eD X)] σ R := fun σ R hR => by
      have := bfr X cxX σ R (by rw [Ex.d_eq]; exact hR)
      rw [Ex.d_eq] at this
      exact this
    have hXr : ∀ (σ : St) (R : A → St → Prop), R (db true) σ → AC Tryz.prog G 11 [.d (.sl 6 (cells.map celD)), .d (eD (andL [bef X, r])), .d (eD X)] σ R := fun σ R hR => by
      have := hol (andL [bef X, r]) X (and2_cx twX) cxX σ R (by rw [@decide_eq_true _ (Classical.propDecidable _) l2]; exact hR)
      rw [Ex.d_eq, Ex.d_eq] at this
      exact this
    have dt : ∀ p : Prop, p → @decide p (Classical.propDecidable _) = true := fun p hp => @decide_eq_true p (Classical.propDecidable _) hp
    refine aw_cut (fun fr st => fr = [.d (celsD cells), .any, .any, .any, .any, .ref σ.length 0, .ref (σ.length + 1) 0, .ref (σ.length + 2) 0, .any, db true, .any, .any, .ref (σ.length + 3) 0, .any, .any, .any, .ref (σ.length + 5) 0, .any, .any, .ref (σ.length + 7) 0, .ref (σ.length + 8) 0, .any, .any, .any, .any, .any, .any, .any, .any, .any, .any, .any, .any, .any, .any, .any, .any, .any, .any, .any, .any, .any, .any, .any, .any, .any, .any, .any, .any, .any, .any, .any, .any, .any, .any, .any, .any, .any, .any, .any, .any, .any, .any, .any, .any, .any, .any, .any, .any, .any, .any, .any, .any, .any, .any, .any, .any, .any, .any, .any, .any, .any, .any, .any, .any, .any, .any, .any, .any, .any, .any, .any, .any, .any, .any, .any, .any, .any, .any, .any, .any, .any, .any, .any, .any, .any, .any, .any, .any, .any, .any, .any, .any, .any, .any, .any, .any, .any, .any, .any, .any, .any, .any, .any, .any, .any, .any, .any, .any, .any, .any, .any, .any, .any, .any, .any, .any, .any, .any, .any, .any, .any, .any, .any, .any, .any, .any, .any, .any, .any, .any, .any, .any, .any, .any, .any, .any, .any, .any, .any, .any, .any, .any, .any, .any, .any, .any, .any, .any, .any, .any, .any, .any, .any, .any, .any, .any, .any, .any, .any, .any] ∧ st = σ ++ [exO a, exO r, exO o, setO ws S, some (.cells [.d (isD (nL (cL ws))), .d (isD (nL ws)), .d (prsD (pairsM M 64))]), setO ws (satL ws o), some (.cells [.d (isD (nL (cL ws))), .d (isD (nL ws)), .d (prsD (closeR ws (pairsM M 64)))]), setO ws T, exO X]) ?_ ?_
    · simp only [celsD, exO, setO, go_sem, toDs, Tryz.results3]
      refine aw_plan (.tk 3 0 <| .pure 3 <| .tk 4 4 <| .pure 8 <| .take 9 <| .alt 10 (.alt 11 (.take 12 <| .pure 13 <| .tk 2 14 <| .done) <| .alt 12 (.take 11 <| .pure 13 <| .tk 2 14 <| .done) <| .stop) <| .alt 12 (.tk 2 10 <| .pure 13 <| .tk 2 14 <| .done) <| .stop) (by kernel_rfl) ?_
      simp only [celsD, exO, setO, go_sem, toDs, Tryz.results3]
      refine Go.Ab.exP (db true) ⟨fun σ' => ac' (hXa _ _ ⟨rfl, rfl⟩), ?_⟩
      simp only [celsD, exO, setO, go_sem, toDs, Tryz.results3]
      refine Go.Ab.exQ (eD (bef X)) ⟨fun _ => ?_, ?_⟩
      · exact ⟨rfl, fun σ' => ac' (bX _ _ ⟨rfl, rfl⟩)⟩
      simp only [celsD, exO, setO, eD, go_sem, toDs, Tryz.results3]
      refine ⟨⟨exs ⟨fun _ => ?_, fun h => Bool.noConfusion h⟩, exs ⟨fun _ => ?_, fun h => Bool.noConfusion h⟩⟩, exs ⟨fun _ => ?_, fun h => Bool.noConfusion h⟩⟩
      all_goals (
        simp only [celsD, exO, setO, eD, go_sem, toDs, Tryz.results3]
        refine ac' (and_rs twX (by simp) hG ?_)
        simp only [celsD, exO, setO, eD, go_sem, toDs, Tryz.results3]
        refine Go.Ab.exQ (.bool true) ⟨fun _ => ⟨rfl, fun σ' => ac' (hXr _ _ ⟨rfl, rfl⟩)⟩, ?_⟩
        simp only [celsD, exO, setO, eD, go_sem, toDs, Tryz.results3]
        refine Wk.keep [0, 5, 6, 7, 9, 12, 16, 19, 20] [0, 1, 2, 3, 4, 5, 6, 7, 8] (by decide) (Nat.le_refl _) hbd ⟨?_, ?_⟩
        · simp only [go_sem]
        · simp only [go_sem])
    rintro fr st ⟨rfl, rfl⟩
    have l3 : @decide (Imp ws (andL [bef a, r]) a) (Classical.propDecidable _) = (S == T) := by
      have h3 := hL.l3
      rw [hS, hTt] at h3
      rw [Bool.eq_iff_iff, @decide_eq_true_eq _ (Classical.propDecidable _), h3, beq_iff_eq]
    have hAr : ∀ (σ : St) (R : A → St → Prop), R (db (S == T)) σ → AC Tryz.prog G 11 [.d (.sl 6 (cells.map celD)), .d (eD (andL [bef a, r])), .d (eD a)] σ R := fun σ R hR => by
      have := hol (andL [bef a, r]) a (and2_cx twA) cxa σ R (by rw [l3]; exact hR)
      rw [Ex.d_eq, Ex.d_eq] at this
      exact this
    have bA : ∀ (σ : St) (R : A → St → Prop), R (.d (eD (bef a))) σ → AC Tryz.prog G 13 [.d (eD a)] σ R := fun σ R hR => by
      have := bfr a cxa σ R (by rw [Ex.d_eq]; exact hR)
      rw [Ex.d_eq] at this
      exact this
    refine aw_cut (fun fr st => fr = [.d (celsD cells), .any, .any, .any, .any, .ref σ.length 0, .ref (σ.length + 1) 0, .ref (σ.length + 2) 0, .any, db true, .any, .any, .ref (σ.length + 3) 0, .any, .any, .any, .ref (σ.length + 5) 0, .any, .any, .ref (σ.length + 7) 0, .ref (σ.length + 8) 0, db (S == T), .any, .any, .any, .any, .any, .any, .any, .any, .any, .any, .any, .any, .any, .any, .any, .any, .any, .any, .any, .any, .any, .any, .any, .any, .any, .any, .any, .any, .any, .any, .any, .any, .any, .any, .any, .any, .any, .any, .any, .any, .any, .any, .any, .any, .any, .any, .any, .any, .any, .any, .any, .any, .any, .any, .any, .any, .any, .any, .any, .any, .any, .any, .any, .any, .any, .any, .any, .any, .any, .any, .any, .any, .any, .any, .any, .any, .any, .any, .any, .any, .any, .any, .any, .any, .any, .any, .any, .any, .any, .any, .any, .any, .any, .any, .any, .any, .any, .any, .any, .any, .any, .any, .any, .any, .any, .any, .any, .any, .any, .any, .any, .any, .any, .any, .any, .any, .any, .any, .any, .any, .any, .any, .any, .any, .any, .any, .any, .any, .any, .any, .any, .any, .any, .any, .any, .any, .any, .any, .any, .any, .any, .any, .any, .any, .any, .any, .any, .any, .any, .any, .any, .any, .any, .any, .any, .any, .any, .any, .any] ∧ st = σ ++ [exO a, exO r, exO o, setO ws S, some (.cells [.d (isD (nL (cL ws))), .d (isD (nL ws)), .d (prsD (pairsM M 64))]), setO ws (satL ws o), some (.cells [.d (isD (nL (cL ws))), .d (isD (nL ws)), .d (prsD (closeR ws (pairsM M 64)))]), setO ws T, exO X]) ?_ ?_
    · simp only [celsD, exO, setO, go_sem, toDs, Tryz.results3]
      refine aw_plan (.tk 2 0 <| .pure 2 <| .take 3 <| .alt 4 (.alt 5 (.take 6 <| .pure 7 <| .take 8 <| .done) <| .alt 6 (.take 5 <| .pure 7 <| .take 8 <| .done) <| .stop) <| .alt 6 (.tk 2 4 <| .pure 7 <| .take 8 <| .done) <| .stop) (by kernel_rfl) ?_
      simp only [celsD, exO, setO, go_sem, toDs, Tryz.results3]
      refine Go.Ab.exP (.d (eD (bef a))) ⟨fun σ' => ac' (bA _ _ ⟨rfl, rfl⟩), ?_⟩
      simp only [celsD, exO, setO, eD, go_sem, toDs, Tryz.results3]
      refine ⟨⟨?_, ?_⟩, ?_⟩
      all_goals (
        refine ac' (and_rs twA (by simp) hG ?_)
        simp only [celsD, exO, setO, eD, go_sem, toDs, Tryz.results3]
        refine Go.Ab.exP (db (S == T)) ⟨fun σ' => ac' (hAr _ _ ⟨rfl, rfl⟩), ?_⟩
        simp only [celsD, exO, setO, eD, go_sem, toDs, Tryz.results3]
        refine Wk.keep [0, 5, 6, 7, 9, 12, 16, 19, 20, 21] [0, 1, 2, 3, 4, 5, 6, 7, 8] (by decide) (Nat.le_refl _) hbd ⟨?_, ?_⟩
        · simp only [go_sem]
        · simp only [go_sem])
    rintro fr st ⟨rfl, rfl⟩
    have lS : S.length ≤ 4096 := by rw [← hS]; exact (sat_ss e2 a).len
    have n1 : (!((S == T) == (S == T))) = false := by simp
    have wl : ws.length ≤ 6 := e2.len
    have lT : T.length ≤ 4096 := ssT.len
    simp only [celsD, exO, setO, go_sem, toDs, Tryz.results3]
    refine ac' (sameS_ac ws S T (by omega) (by omega) (by omega) _ _ _ ?_)
    simp only [celsD, exO, setO, go_sem, n1, toDs, Tryz.results3]
    obtain ⟨Dm, hDm⟩ : ∃ Dm, cmbL (fun x y => x && !y) (satL ws o) S = Dm := ⟨_, rfl⟩
    refine aw_cut (fun fr st => fr = [.d (celsD cells), .any, .any, .any, .any, .ref σ.length 0, .ref (σ.length + 1) 0, .ref (σ.length + 2) 0, .any, db true, .any, .any, .any, di 0, .any, .any, .any, .any, .any, .any, .ref (σ.length + 8) 0, .any, .ref (σ.length + 9) 0, .any, .any, .any, .any, .any, .any, .any, .any, .any, .any, .any, .any, .any, .any, .any, .any, .any, .any, .any, .any, .any, .any, .any, .any, .any, .any, .any, .any, .any, .any, .any, .any, .any, .any, .any, .any, .any, .any, .any, .any, .any, .any, .any, .any, .any, .any, .any, .any, .any, .any, .any, .any, .any, .any, .any, .any, .any, .any, .any, .any, .any, .any, .any, .any, .any, .any, .any, .any, .any, .any, .any, .any, .any, .any, .any, .any, .any, .any, .any, .any, .any, .any, .any, .any, .any, .any, .any, .any, .any, .any, .any, .any, .any, .any, .any, .any, .any, .any, .any, .any, .any, .any, .any, .any, .any, .any, .any, .any, .any, .any, .any, .any, .any, .any, .any, .any, .any, .any, .any, .any, .any, .any, .any, .any, .any, .any, .any, .any, .any, .any, .any, .any, .any, .any, .any, .any, .any, .any, .any, .any, .any, .any, .any, .any, .any, .any, .any, .any, .any, .any, .any, .any, .any, .any, .any, .any, .any, .any] ∧ st = σ ++ [exO a, exO r, exO o, setO ws S, some (.cells [.d (isD (nL (cL ws))), .d (isD (nL ws)), .d (prsD (pairsM M 64))]), setO ws (satL ws o), some (.cells [.d (isD (nL (cL ws))), .d (isD (nL ws)), .d (prsD (closeR ws (pairsM M 64)))]), setO ws T, exO X, setO ws Dm]) ?_ ?_
    · simp only [celsD, exO, setO, go_sem, n1, toDs, Tryz.results3]
      refine ac' (minus_ac ws (satL ws o) S (sat_ss e2 o) (hS ▸ sat_ss e2 a) _ _ hT _ ?_)
      rw [hDm]
      simp only [setX, celsD, exO, setO, go_sem, n1, toDs, Tryz.results3]
      exact Wk.mask [0, 5, 6, 7, 9, 13, 20, 22] ⟨rfl, rfl⟩
    rintro fr st ⟨rfl, rfl⟩
    have bO : ∀ (σ : St) (R : A → St → Prop), R (.d (eD (bef o))) σ → AC Tryz.prog G 13 [.d (eD o)] σ R := fun σ R hR => by
      have := bfr o cxo σ R (by rw [Ex.d_eq]; exact hR)
      rw [Ex.d_eq] at this
      exact this
    obtain ⟨vb, hvb⟩ : ∃ vb, @decide (Imp ws (andL [bef o, r]) o) (Classical.propDecidable _) = vb := ⟨_, rfl⟩
    have hOr : ∀ (σ : St) (R : A → St → Prop), R (db vb) σ → AC Tryz.prog G 11 [.d (.sl 6 (cells.map celD)), .d (eD (andL [bef o, r])), .d (eD o)] σ R := fun σ R hR => by
      have := hol (andL [bef o, r]) o (and2_cx twO) cxo σ R (by rw [hvb]; exact hR)
      rw [Ex.d_eq, Ex.d_eq] at this
      exact this
    have hOX : Dm = [] → vb = true → ∀ (σ : St) (R : A → St → Prop), R (db true) σ → AC Tryz.prog G 11 [.d (.sl 6 (cells.map celD)), .d (eD o), .d (eD X)] σ R := fun hd hv σ R hR => by
      have l4 : Imp ws o X := by
        rw [← hX, ← hTt]
        refine hL.l4 cxo i5 no (fun x hx => ?_) (by rw [hv] at hvb; exact @of_decide_eq_true _ (Classical.propDecidable _) hvb)
        rw [hS]
        refine Classical.byContradiction fun hn => ?_
        have hm : x ∈ cmbL (fun x y => x && !y) (satL ws o) S := by
          unfold cmbL
          rw [List.mem_filter, List.mem_range]
          refine ⟨(sat_ss e2 o).lt12 x hx, ?_⟩
          rw [List.contains_iff_mem.2 hx]
          have : S.contains x = false := by
            rw [← Bool.not_eq_true]
            exact fun h => hn (List.contains_iff_mem.1 h)
          rw [this]; rfl
        rw [hDm, hd] at hm
        cases hm
      have := hol o X cxo cxX σ R (by rw [@decide_eq_true _ (Classical.propDecidable _) l4]; exact hR)
      rw [Ex.d_eq, Ex.d_eq] at this
      exact this
    simp only [celsD, exO, setO, isD, go_sem, toDs, Tryz.results3]
    refine aw_plan (.tk 11 0 <| .pure 11 <| .take 12 <| .alt 13 (.alt 14 (.take 15 <| .pure 16 <| .tk 2 17 <| .done) <| .alt 15 (.take 14 <| .pure 16 <| .tk 2 17 <| .done) <| .stop) <| .alt 15 (.tk 2 13 <| .pure 16 <| .tk 2 17 <| .done) <| .stop) (by kernel_rfl) ?_
    by_cases hd : Dm = []
    · subst hd
      have z0 : decide ((0 : Int) < ((0 : Nat) : Int)) = false := by decide
      have n0' : ((0 : Int) != 0) = false := rfl
      simp only [celsD, exO, setO, nL, List.map_nil, List.length_nil, go_sem, z0, n0', Bool.not_true, Bool.not_false, toDs, Tryz.results3]
      refine Go.Ab.exQ (eD (bef o)) ⟨fun _ => ⟨rfl, fun σ' => ac' (bO _ _ ⟨rfl, rfl⟩)⟩, ?_⟩
      simp only [celsD, exO, setO, eD, go_sem, z0, Bool.not_true, Bool.not_false, toDs, Tryz.results3]
      refine ⟨⟨exs ⟨fun _ => ?_, fun h => Bool.noConfusion h⟩, exs ⟨fun _ => ?_, fun h => Bool.noConfusion h⟩⟩, exs ⟨fun _ => ?_, fun h => Bool.noConfusion h⟩⟩
      all_goals (
        simp only [celsD, exO, setO, eD, go_sem, z0, Bool.not_true, Bool.not_false, toDs, Tryz.results3]
        refine ac' (and_rs twO (by simp) hG ?_)
        simp only [celsD, exO, setO, eD, go_sem, z0, Bool.not_true, Bool.not_false, toDs, Tryz.results3]
        refine Go.Ab.exQ (.bool vb) ⟨fun _ => ⟨rfl, fun σ' => ac' (hOr _ _ ⟨rfl, rfl⟩)⟩, ?_⟩
        cases vb
        · simp only [celsD, exO, setO, eD, go_sem, z0, n0', Bool.not_true, Bool.not_false, toDs, Tryz.results3]
          exact ret_d hbd h
        · simp only [celsD, exO, setO, eD, go_sem, z0, n0', Bool.not_true, Bool.not_false, toDs, Tryz.results3]
          refine ex' (.bool true) ⟨fun _ => ⟨rfl, ac' (hOX rfl rfl _ _ ⟨rfl, rfl⟩)⟩, ?_⟩
          simp only [celsD, exO, setO, eD, go_sem, z0, n0', Bool.not_true, Bool.not_false, toDs, Tryz.results3]
          exact ret_d hbd h)
    · have z0 : decide ((0 : Int) < (Dm.length : Int)) = true := by
        have := List.length_pos_iff.2 hd
        simp only [decide_eq_true_eq]; omega
      have n0' : ((0 : Int) != 0) = false := rfl
      simp only [celsD, exO, setO, nL_len, List.length_map, go_sem, z0, n0', Bool.not_true, Bool.not_false, toDs, Tryz.results3]
      refine Go.Ab.exQ (eD o) ⟨fun h => Bool.noConfusion h, ?_⟩
      simp only [celsD, exO, setO, eD, go_sem, z0, Bool.not_true, Bool.not_false, toDs, Tryz.results3]
      refine ⟨⟨?_, ?_⟩, ?_⟩
      all_goals (
        refine ex' (eD o) ⟨fun h => Bool.noConfusion h, ?_⟩
        simp only [celsD, exO, setO, eD, go_sem, z0, n0', Bool.not_true, Bool.not_false, toDs, Tryz.results3]
        refine Go.Ab.exQ (.bool true) ⟨fun h => Bool.noConfusion h, ?_⟩
        simp only [celsD, exO, setO, eD, go_sem, z0, n0', Bool.not_true, Bool.not_false, toDs, Tryz.results3]
        exact ret_d hbd h)
  · have hb : ((c != 0) || (c2 != 0) || (c3 != 0)) = true := by
      rw [← Bool.not_eq_false]
      intro q
      rw [Bool.or_eq_false_iff, Bool.or_eq_false_iff] at q
      simp only [bne_eq_false_iff_eq] at q
      exact hz ⟨q.1.1, q.1.2, q.2⟩
    simp only [celsD, exO, go_sem, toDs, Tryz.results3]
    exact ⟨fun _ => ret_d hbd h, fun q => absurd (q.symm.trans hb) (by decide)⟩
end Go.Proofs.YtmjlhbkgljcnoaaGreatDoor
end PartT37

section PartT38
/- The law's fixed example: the walk of w09Counter. -/
set_option linter.unusedSimpArgs false
set_option linter.unusedVariables false
set_option maxRecDepth 100000
namespace Go.Proofs.YtmjlhbkgljcnoaaGreatDoor
open Go Go.Ab

def cx1 : Cel := ⟨[120], 2, 0, -1, false, 0⟩
def xE : Ex := .mk 2 2 0 []
def cE : Ex := .mk 1 2 2 []
def relE : Ex := .mk 13 1 0 [.mk 3 2 0 [], xE]
def geE : Ex := .mk 13 1 0 [cE, xE]
def leE : Ex := .mk 13 1 0 [xE, cE]
theorem ok_leaf (o w n : Int) : (Ex.mk o w n []).Ok := .mk (by simp [Ex.kids]) fun k hk => by simp [Ex.kids] at hk
theorem ok_two {o w n : Int} {a b : Ex} (ha : a.Ok) (hb : b.Ok) : (Ex.mk o w n [a, b]).Ok := .mk (by simp [Ex.kids, reachBytes]) fun k hk => by
  simp only [Ex.kids, List.mem_cons, List.not_mem_nil, or_false] at hk
  rcases hk with rfl | rfl
  · exact ha
  · exact hb
theorem relE_ok : relE.Ok := ok_two (ok_leaf ..) (ok_leaf ..)
theorem geE_ok : geE.Ok := ok_two (ok_leaf ..) (ok_leaf ..)
theorem leE_ok : leE.Ok := ok_two (ok_leaf ..) (ok_leaf ..)
theorem ws2 : Ws [2] := ⟨by decide, by decide, by decide⟩
theorem cw2 : cw [cx1] = nL [2] := rfl
theorem nL_two {ws : List Nat} (h : cw [cx1] = nL ws) : ws = [2] := by
  have h3 := congrArg (List.map Int.toNat) (cw2.symm.trans h)
  simpa [nL, List.map_map, Function.comp_def] using h3.symm
def M2 : List Nat := [15, 14, 12, 8] ++ List.replicate 60 0
theorem rm_two {M : List Nat} (h : RM [2] relE M) : M = M2 := by
  have hlen := h.w.1
  have key : ∀ x, M.getD x 0 = M2.getD x 0 := fun x => by
    refine Nat.eq_of_testBit_eq fun z => ?_
    have hb := h.bit x z
    unfold mbit at hb
    rw [hb]
    by_cases hx : x < 4
    · by_cases hz : z < 4
      · have h1 : ∀ x : Fin 4, ∀ z : Fin 4, (decide (x.val < 2 ^ [2].sum) && decide (z.val < 2 ^ [2].sum) && relB [2] relE x.val z.val) = (M2.getD x.val 0).testBit z.val := by decide +kernel
        exact h1 ⟨x, hx⟩ ⟨z, hz⟩
      · have h1 : ∀ x : Fin 4, M2.getD x.val 0 < 2 ^ 4 := by decide +kernel
        rw [Nat.testBit_lt_two_pow (Nat.lt_of_lt_of_le (h1 ⟨x, hx⟩) (Nat.pow_le_pow_right (by decide) (by omega)))]
        have : decide (z < 2 ^ [2].sum) = false := decide_eq_false (by show ¬ z < 4; exact hz)
        rw [this]; simp
    · have : decide (x < 2 ^ [2].sum) = false := decide_eq_false (by show ¬ x < 4; exact hx)
      rw [this]
      have h0 : M2.getD x 0 = 0 := by
        unfold M2
        rw [List.getD_eq_getElem?_getD, List.getElem?_append_right (by simp; omega), List.getElem?_replicate]
        split <;> rfl
      rw [h0]; simp
  refine List.ext_getElem? fun i => ?_
  by_cases hi : i < 64
  · have := key i
    rw [List.getD_eq_getElem?_getD, List.getD_eq_getElem?_getD, List.getElem?_eq_getElem (by omega), List.getElem?_eq_getElem (by show i < M2.length; simpa [M2] using hi)] at this
    rw [List.getElem?_eq_getElem (by omega), List.getElem?_eq_getElem (by show i < M2.length; simpa [M2] using hi)]
    exact congrArg some this
  · rw [List.getElem?_eq_none (by omega), List.getElem?_eq_none (by simp [M2]; omega)]
theorem sat_ge : satL [2] geE = [2, 3] := by decide +kernel
theorem sat_le : satL [2] leE = [0, 1, 2] := by decide +kernel
theorem part_ge : insL (closeR [2] (pairsM M2 64)) [2, 3] = [2, 3] := by decide +kernel
theorem part_le : insL (closeR [2] (pairsM M2 64)) [0, 1, 2] = [] := by decide +kernel
theorem of_two (e : Ex) (he : e.Ok) (hn : e.nodes ≤ 600) (hd : e.deep 40 = true) (ho : e.over [cx1] false = true) (hw : e.w = 1) (σ : St) (G : Glob) (hG : G.g 0 = some masksD) (hT : G.g 1 = some tabD) (R : A → St → Prop)
    (h : R (.tup [.d (setX [2] (isD (nL (satL [2] e)))), di 0]) σ) : AC Tryz.prog G 6 [.d (celsD [cx1]), .d (isD [0]), .d (eD e)] σ R := by
  have := Of_ac [cx1] (by decide) e he hn σ G hG hT R (fun c hc hb => (hb [2] cw2 ws2 hd ho hw).elim) fun ws h1 h2 h3 h4 h5 h6 => by rw [nL_two h1]; exact h
  rw [Ex.d_eq] at this
  exact this
theorem rel_two (σ : St) (G : Glob) (hG : G.g 0 = some masksD) (hT : G.g 1 = some tabD) (hp : ∀ a s, ¬ G.pan a s) (R : A → St → Prop)
    (h : RM [2] relE M2 → R (.tup [.d (setX [2] (prsD (pairsM M2 64))), di 0]) σ) : AC Tryz.prog G 7 [.d (celsD [cx1]), .d (isD [0]), .d (eD relE)] σ R := by
  have := relOf_ac [cx1] (by decide) relE relE_ok (by decide +kernel) σ G hG hT hp R (fun c hc hb => (hb [2] cw2 ws2 (by decide) (by decide +kernel) (by decide +kernel) rfl).elim) fun ws h1 h2 h3 h4 h5 h6 h7 M hM => by
    obtain rfl := nL_two h1
    have e := rm_two hM
    subst e
    exact h hM
  rw [Ex.d_eq] at this
  exact this
theorem lw_two (h : RM [2] relE M2) : Lw [cx1] [2] geE relE M2 :=
  ⟨⟨cw2, rfl, ws2, by decide⟩, ⟨geE_ok, by decide +kernel, by decide +kernel, by decide +kernel, rfl⟩, by decide +kernel, by decide +kernel, ⟨relE_ok, by decide +kernel, by decide +kernel, by decide +kernel, rfl⟩, by decide +kernel, h⟩
theorem two_e (op w : Int) (a b : Ex) (σ : St) (G : Glob) (R : A → St → Prop) (h : R (.d (eD (.mk op w 0 [a, b]))) σ) : AC Tryz.prog G 17 [di op, di w, .d (eD a), .d (eD b)] σ R := by
  have := two_ac op w a b σ G R (by rw [Ex.d_eq]; exact h)
  rw [Ex.d_eq a, Ex.d_eq b] at this
  exact this
theorem const_e (n w : Int) (σ : St) (G : Glob) (R : A → St → Prop) (h : R (.d (eD (.mk 1 w n []))) σ) : AC Tryz.prog G 19 [di n, di w] σ R := const_ac n w σ G R (by rw [Ex.d_eq]; exact h)
theorem cell_e (n w : Int) (σ : St) (G : Glob) (R : A → St → Prop) (h : R (.d (eD (.mk 2 w n []))) σ) : AC Tryz.prog G 16 [di n, di w] σ R := cell_ac n w σ G R (by rw [Ex.d_eq]; exact h)
theorem old_e (n w : Int) (σ : St) (G : Glob) (R : A → St → Prop) (h : R (.d (eD (.mk 3 w n []))) σ) : AC Tryz.prog G 18 [di n, di w] σ R := old_ac n w σ G R (by rw [Ex.d_eq]; exact h)
theorem of_rs (e : Ex) (he : e.Ok) (hn : e.nodes ≤ 600) (hd : e.deep 40 = true) (ho : e.over [cx1] false = true) (hw : e.w = 1) {id : Nat} {σ : St} {G : Glob} (hG : G.g 0 = some masksD) (hT : G.g 1 = some tabD) {R : A → St → Prop} (hob : σ[id]? = some (some (.cells [di 0])))
    (h : R (.tup [.d (setX [2] (isD (nL (satL [2] e)))), di 0]) (σ.set id none)) : AC Tryz.prog G 6 [.d (celsD [cx1]), .rs id 1 0 1 (some 3), .d (eD e)] σ R := by
  refine ac_weak (Weak.freeze (G := G) id 1 0 [iD 0] hob (lies_ints [0])) ?_
  simp only [go_sem, List.length_cons, List.length_nil, Nat.reduceAdd]
  exact of_two e he hn hd ho hw _ _ hG hT _ h
theorem rel_rs {id : Nat} {σ : St} {G : Glob} (hG : G.g 0 = some masksD) (hT : G.g 1 = some tabD) (hp : ∀ a s, ¬ G.pan a s) {R : A → St → Prop} (hob : σ[id]? = some (some (.cells [di 0])))
    (h : RM [2] relE M2 → R (.tup [.d (setX [2] (prsD (pairsM M2 64))), di 0]) (σ.set id none)) : AC Tryz.prog G 7 [.d (celsD [cx1]), .rs id 1 0 1 (some 3), .d (eD relE)] σ R := by
  refine ac_weak (Weak.freeze (G := G) id 1 0 [iD 0] hob (lies_ints [0])) ?_
  simp only [go_sem, List.length_cons, List.length_nil, Nat.reduceAdd]
  exact rel_two _ _ hG hT hp _ h
theorem cx_lies : Lies [A.d (D.str [120]), A.d (D.int IntKind.i64 2), A.d (D.int IntKind.i64 0), A.d (D.int IntKind.i64 (-1)), A.d (D.bool false), A.d (D.int IntKind.i64 0)] 6 0 [celD cx1] := by
  have e : [A.d (D.str [120]), A.d (D.int IntKind.i64 2), A.d (D.int IntKind.i64 0), A.d (D.int IntKind.i64 (-1)), A.d (D.bool false), A.d (D.int IntKind.i64 0)] = flat [celD cx1] := rfl
  rw [e]
  exact lies_of fun x hx => by
    rw [List.mem_singleton] at hx; subst hx
    refine ⟨rfl, fun y hy => ?_⟩
    simp only [celD, D.cells, List.mem_cons, List.not_mem_nil, or_false] at hy
    rcases hy with rfl | rfl | rfl | rfl | rfl | rfl <;> rfl
theorem ints_rs {id : Nat} {σ : St} {G : Glob} {R : A → St → Prop} (hob : σ[id]? = some (some (.cells [di 2, di 3]))) (h : R (db true) (σ.set id none)) : AC Tryz.prog G 20 [.d (.sl 1 [iD 2, iD 3]), .rs id 1 0 2 (some 3)] σ R := by
  refine ac_weak (Weak.freeze (G := G) id 1 0 [iD 2, iD 3] hob (lies_ints [2, 3])) ?_
  simp only [go_sem, List.length_cons, List.length_nil, Nat.reduceAdd]
  exact ints_ac [2, 3] [2, 3] (by decide) (by decide) _ _ _ h
def X2 : Ex := xS [2] [2, 3]
theorem part_two : partL [2] geE M2 = [2, 3] := by unfold partL; rw [sat_ge]; exact part_ge
theorem expr_two (σ : St) (G : Glob) (hpan : ∀ a s, ¬ G.pan a s) (R : A → St → Prop) (h : R (.d (eD X2)) σ) : AC Tryz.prog G 10 [.d (.agg [.sl 1 [iD 0], .sl 1 [iD 2], .sl 1 [iD 2, iD 3]])] σ R :=
  expr_ac [2] [2, 3] ⟨ws2, by decide, by decide⟩ (by decide) ⟨by decide, by decide⟩ (by decide) (by decide) _ _ hpan _ (by rw [Ex.d_eq]; exact h)
set_option maxHeartbeats 16000000 in
theorem counter_ac (σ : St) (G : Glob) (hG : G.g 0 = some masksD) (hT : G.g 1 = some tabD) (hpan : ∀ a s, ¬ G.pan a s) (R : A → St → Prop) (h : R (db true) σ) : AC Tryz.prog G 4 [] σ R := by
  refine ac_enterC' [2, 3, 4, 5, 6, 7, 8, 9, 10] mixed Tryz.func4 rfl Tryz.ntmps4 (by simp only [go_sem]) fun hbd => ?_
  simp only [List.length_cons, List.length_nil, Nat.reduceAdd, Nat.reduceSub, List.replicate_succ, List.replicate_zero, List.cons_append, List.nil_append]
  simp only [go_sem, Tryz.results4]
  refine aw_cut (fun fr st => fr = [db false, .d (celsD [cx1]), .any, .any, .any, .any, .any, .any, .any, .any, .any, .any, .any, .any, .any, .any, .any, .any, .any, .any, .any, .any, .any, .any, .any, .any, .any, .any, .any, .any, .any, .any, .any, .any, .any, .any, .any, .any, .any, .any, .any, .any, .any, .any, .any, .any, .any, .any, .any, .any, .any, .any, .any, .any, .any, .any, .any, .any, .any, .any, .any, .any, .any, .any, .any, .any, .any, .any, .any, .any, .any, .any, .any, .any, .any, .any, .any, .any, .any, .any, .any, .any, .any, .any, .any, .any, .any, .any, .any, .any, .any, .any, .any, .any, .any, .any, .any, .any, .any, .any, .any, .any, .any, .any, .any, .any, .any, .any, .any, .any] ∧ st = σ) ?_ ?_
  · simp only [go_sem, Tryz.results4]
    have hob : (σ ++ [some (Ob.cells [A.d (D.str [120]), A.d (D.int IntKind.i64 2), A.d (D.int IntKind.i64 0), A.d (D.int IntKind.i64 (-1)), A.d (D.bool false), A.d (D.int IntKind.i64 0)])])[σ.length]? = some (some (.cells [A.d (D.str [120]), A.d (D.int IntKind.i64 2), A.d (D.int IntKind.i64 0), A.d (D.int IntKind.i64 (-1)), A.d (D.bool false), A.d (D.int IntKind.i64 0)])) := by simp
    refine Wk.via (Weak.freeze (G := G) (n0 := σ.length) σ.length 6 0 [celD cx1] hob cx_lies) ?_
    simp only [go_sem]
    exact Wk.cut [0, 1] (Nat.le_refl _) hbd rfl ⟨rfl, rfl⟩
  rintro fr σ ⟨rfl, rfl⟩
  refine aw_cut (fun fr st => fr = [db false, .d (celsD [cx1]), .ref σ.length 0, .any, .any, .any, .any, .any, .any, .any, .any, .any, .any, .any, .any, .any, .any, .any, .any, .any, .any, .any, .any, .any, .any, .any, .any, .any, .any, .any, .any, .any, .any, .any, .any, .any, .any, .any, .any, .any, .any, .any, .any, .any, .any, .any, .any, .any, .any, .any, .any, .any, .any, .any, .any, .any, .any, .any, .any, .any, .any, .any, .any, .any, .any, .any, .any, .any, .any, .any, .any, .any, .any, .any, .any, .any, .any, .any, .any, .any, .any, .any, .any, .any, .any, .any, .any, .any, .any, .any, .any, .any, .any, .any, .any, .any, .any, .any, .any, .any, .any, .any, .any, .any, .any, .any, .any, .any, .any, .any] ∧ st = σ ++ [exO xE]) ?_ ?_
  · simp only [go_sem, toDs, Tryz.results4]
    refine ac' (cell_e 0 2 _ _ _ ?_)
    simp only [eD, go_sem, toDs, Tryz.results4]
    exact Wk.mask [0, 1, 2] ⟨rfl, rfl⟩
  rintro fr st ⟨rfl, rfl⟩
  refine aw_cut (fun fr st => fr = [db false, .d (celsD [cx1]), .ref σ.length 0, .ref (σ.length + 1) 0, .any, .any, .any, .any, .any, .any, .any, .any, .any, .any, .any, .any, .any, .any, .any, .any, .any, .any, .any, .any, .any, .any, .any, .any, .any, .any, .any, .any, .any, .any, .any, .any, .any, .any, .any, .any, .any, .any, .any, .any, .any, .any, .any, .any, .any, .any, .any, .any, .any, .any, .any, .any, .any, .any, .any, .any, .any, .any, .any, .any, .any, .any, .any, .any, .any, .any, .any, .any, .any, .any, .any, .any, .any, .any, .any, .any, .any, .any, .any, .any, .any, .any, .any, .any, .any, .any, .any, .any, .any, .any, .any, .any, .any, .any, .any, .any, .any, .any, .any, .any, .any, .any, .any, .any, .any, .any] ∧ st = σ ++ [exO xE, exO relE]) ?_ ?_
  · simp only [exO, go_sem, toDs, Tryz.results4]
    refine aw_plan (.pure 0 <| .take 1 <| .pure 2 <| .tk 2 3 <| .done) (by kernel_rfl) ?_
    simp only [exO, go_sem, toDs, Tryz.results4]
    refine Go.Ab.exP (.d (eD (.mk 3 2 0 []))) ⟨fun σ' => ac' (old_e 0 2 _ _ _ ⟨rfl, rfl⟩), ?_⟩
    simp only [exO, go_sem, toDs, Tryz.results4]
    refine Go.Ab.exP (.d (eD relE)) ⟨fun σ' => ac' (two_e 13 1 (.mk 3 2 0 []) xE _ _ _ ⟨rfl, rfl⟩), ?_⟩
    simp only [eD, exO, go_sem, toDs, Tryz.results4]
    exact Wk.mask [0, 1, 2, 3] ⟨rfl, rfl⟩
  rintro fr st ⟨rfl, rfl⟩
  refine aw_cut (fun fr st => fr = [db false, .d (celsD [cx1]), .ref σ.length 0, .ref (σ.length + 1) 0, .ref (σ.length + 2) 0, di 0, .any, .any, .any, .any, .any, .any, .any, .any, .any, .any, .any, .any, .any, .any, .any, .any, .any, .any, .any, .any, .any, .any, .any, .any, .any, .any, .any, .any, .any, .any, .any, .any, .any, .any, .any, .any, .any, .any, .any, .any, .any, .any, .any, .any, .any, .any, .any, .any, .any, .any, .any, .any, .any, .any, .any, .any, .any, .any, .any, .any, .any, .any, .any, .any, .any, .any, .any, .any, .any, .any, .any, .any, .any, .any, .any, .any, .any, .any, .any, .any, .any, .any, .any, .any, .any, .any, .any, .any, .any, .any, .any, .any, .any, .any, .any, .any, .any, .any, .any, .any, .any, .any, .any, .any] ∧ st = σ ++ [exO xE, exO relE, setO [2] [2, 3]]) ?_ ?_
  · simp only [exO, go_sem, toDs, Tryz.results4]
    refine aw_plan (.take 0 <| .pure 2 <| .take 3 <| .pure 4 <| .alt 1 (.alt 5 (.tk 6 6 <| .done) <| .alt 9 (.tk 4 5 <| .tk 2 10 <| .done) <| .stop) <| .alt 9 (.take 1 <| .tk 4 5 <| .tk 2 10 <| .done) <| .stop) (by kernel_rfl) ?_
    simp only [exO, go_sem, toDs, Tryz.results4]
    refine Go.Ab.exP (.d (eD cE)) ⟨fun σ' => ac' (const_e 2 2 _ _ _ ⟨rfl, rfl⟩), ?_⟩
    simp only [exO, go_sem, toDs, Tryz.results4]
    refine Go.Ab.exP (.d (eD geE)) ⟨fun σ' => ac' (two_e 13 1 cE xE _ _ _ ⟨rfl, rfl⟩), ?_⟩
    simp only [exO, go_sem, toDs, Tryz.results4]
    refine ⟨⟨?_, ?_⟩, ?_⟩
    all_goals (
      refine ac' (of_rs geE geE_ok (by decide +kernel) (by decide +kernel) (by decide +kernel) rfl hG hT (by simp) ?_)
      rw [sat_ge]
      simp only [setX, exO, go_sem, toDs, Tryz.results4]
      first
        | (refine Wk.keep [0, 1, 2, 3, 4, 5] [0, 1, 3] (by decide) (Nat.le_refl _) hbd ⟨?_, ?_⟩ <;> (simp only [go_sem, setO]; done))
        | (refine Wk.keep [0, 1, 2, 3, 4, 5] [0, 1, 2] (by decide) (Nat.le_refl _) hbd ⟨?_, ?_⟩ <;> (simp only [go_sem, setO]; done)))
  rintro fr st ⟨rfl, rfl⟩
  refine aw_cut (fun fr st => fr = [db false, .d (celsD [cx1]), .ref σ.length 0, .ref (σ.length + 1) 0, .ref (σ.length + 2) 0, di 0, .ref (σ.length + 3) 0, di 0, .any, .any, .any, .any, .any, .any, .any, .any, .any, .any, .any, .any, .any, .any, .any, .any, .any, .any, .any, .any, .any, .any, .any, .any, .any, .any, .any, .any, .any, .any, .any, .any, .any, .any, .any, .any, .any, .any, .any, .any, .any, .any, .any, .any, .any, .any, .any, .any, .any, .any, .any, .any, .any, .any, .any, .any, .any, .any, .any, .any, .any, .any, .any, .any, .any, .any, .any, .any, .any, .any, .any, .any, .any, .any, .any, .any, .any, .any, .any, .any, .any, .any, .any, .any, .any, .any, .any, .any, .any, .any, .any, .any, .any, .any, .any, .any, .any, .any, .any, .any, .any, .any] ∧ st = σ ++ [exO xE, exO relE, setO [2] [2, 3], setO [2] [0, 1, 2]]) ?_ ?_
  · simp only [exO, setO, go_sem, toDs, Tryz.results4]
    refine aw_plan (.take 0 <| .pure 3 <| .take 2 <| .pure 4 <| .alt 1 (.alt 5 (.tk 6 6 <| .done) <| .alt 9 (.tk 4 5 <| .tk 2 10 <| .done) <| .stop) <| .alt 9 (.take 1 <| .tk 4 5 <| .tk 2 10 <| .done) <| .stop) (by kernel_rfl) ?_
    simp only [exO, setO, go_sem, toDs, Tryz.results4]
    refine Go.Ab.exP (.d (eD cE)) ⟨fun σ' => ac' (const_e 2 2 _ _ _ ⟨rfl, rfl⟩), ?_⟩
    simp only [exO, setO, go_sem, toDs, Tryz.results4]
    refine Go.Ab.exP (.d (eD leE)) ⟨fun σ' => ac' (two_e 13 1 xE cE _ _ _ ⟨rfl, rfl⟩), ?_⟩
    simp only [exO, setO, go_sem, toDs, Tryz.results4]
    refine ⟨⟨?_, ?_⟩, ?_⟩
    all_goals (
      refine ac' (of_rs leE leE_ok (by decide +kernel) (by decide +kernel) (by decide +kernel) rfl hG hT (by simp) ?_)
      rw [sat_le]
      simp only [setX, exO, setO, go_sem, toDs, Tryz.results4]
      first
        | (refine Wk.keep [0, 1, 2, 3, 4, 5, 6, 7] [0, 1, 2, 4] (by decide) (Nat.le_refl _) hbd ⟨?_, ?_⟩ <;> (simp only [go_sem, setO]; done))
        | (refine Wk.keep [0, 1, 2, 3, 4, 5, 6, 7] [0, 1, 2, 3] (by decide) (Nat.le_refl _) hbd ⟨?_, ?_⟩ <;> (simp only [go_sem, setO]; done)))
  rintro fr st ⟨rfl, rfl⟩
  refine aw_cut (fun fr st => RM [2] relE M2 ∧ fr = [db false, .d (celsD [cx1]), .any, .ref (σ.length + 1) 0, .ref (σ.length + 2) 0, di 0, .ref (σ.length + 3) 0, di 0, .ref (σ.length + 4) 0, di 0, .any, .any, .any, .any, .any, .any, .any, .any, .any, .any, .any, .any, .any, .any, .any, .any, .any, .any, .any, .any, .any, .any, .any, .any, .any, .any, .any, .any, .any, .any, .any, .any, .any, .any, .any, .any, .any, .any, .any, .any, .any, .any, .any, .any, .any, .any, .any, .any, .any, .any, .any, .any, .any, .any, .any, .any, .any, .any, .any, .any, .any, .any, .any, .any, .any, .any, .any, .any, .any, .any, .any, .any, .any, .any, .any, .any, .any, .any, .any, .any, .any, .any, .any, .any, .any, .any, .any, .any, .any, .any, .any, .any, .any, .any, .any, .any, .any, .any, .any, .any] ∧ st = σ ++ [exO xE, exO relE, setO [2] [2, 3], setO [2] [0, 1, 2], some (.cells [.d (isD (nL (cL [2]))), .d (isD (nL [2])), .d (prsD (pairsM M2 64))])]) ?_ ?_
  · simp only [exO, setO, go_sem, toDs, Tryz.results4]
    refine ac' (rel_rs hG hT hpan (by simp) fun hM => ?_)
    simp only [setX, exO, setO, go_sem, toDs, Tryz.results4]
    refine Wk.keep [0, 1, 3, 4, 5, 6, 7, 8, 9] [0, 1, 2, 3, 5] (by decide) (Nat.le_refl _) hbd ⟨hM, ?_, ?_⟩
    · simp only [go_sem]
    · simp only [go_sem]
  rintro fr st ⟨hM, rfl, rfl⟩
  have hL := lw_two hM
  obtain ⟨CL, hCL⟩ : ∃ CL, closeR [2] (pairsM M2 64) = CL := ⟨_, rfl⟩
  have hrs : Rs [2] CL := hCL ▸ closeR_rs hL.rs
  refine aw_cut (fun fr st => fr = [db false, .d (celsD [cx1]), .any, .ref (σ.length + 1) 0, .ref (σ.length + 2) 0, di 0, .ref (σ.length + 3) 0, di 0, .any, di 0, .ref (σ.length + 5) 0, di 0, .any, .any, .any, .any, .any, .any, .any, .any, .any, .any, .any, .any, .any, .any, .any, .any, .any, .any, .any, .any, .any, .any, .any, .any, .any, .any, .any, .any, .any, .any, .any, .any, .any, .any, .any, .any, .any, .any, .any, .any, .any, .any, .any, .any, .any, .any, .any, .any, .any, .any, .any, .any, .any, .any, .any, .any, .any, .any, .any, .any, .any, .any, .any, .any, .any, .any, .any, .any, .any, .any, .any, .any, .any, .any, .any, .any, .any, .any, .any, .any, .any, .any, .any, .any, .any, .any, .any, .any, .any, .any, .any, .any, .any, .any, .any, .any, .any, .any] ∧ st = σ ++ [exO xE, exO relE, setO [2] [2, 3], setO [2] [0, 1, 2], some (.cells [.d (isD (nL (cL [2]))), .d (isD (nL [2])), .d (prsD (pairsM M2 64))]), some (.cells [.d (isD (nL (cL [2]))), .d (isD (nL [2])), .d (prsD CL)])]) ?_ ?_
  · simp only [exO, setO, go_sem, toDs, Tryz.results4]
    refine ac' (Closure_ac [2] (pairsM M2 64) hL.rs _ _ hT hpan _ ?_)
    rw [hCL]
    simp only [setX, exO, setO, go_sem, toDs, Tryz.results4]
    exact Wk.mask [0, 1, 3, 4, 5, 6, 7, 9, 10, 11] ⟨rfl, rfl⟩
  rintro fr st ⟨rfl, rfl⟩
  have s1 : Ss [2] [2, 3] := ⟨ws2, by decide, by decide⟩
  have s2 : Ss [2] [0, 1, 2] := ⟨ws2, by decide, by decide⟩
  refine aw_cut (fun fr st => fr = [db false, .d (celsD [cx1]), .any, .ref (σ.length + 1) 0, .any, di 0, .ref (σ.length + 3) 0, di 0, .any, di 0, .ref (σ.length + 5) 0, di 0, .ref (σ.length + 6) 0, di 0, .any, .any, .any, .any, .any, .any, .any, .any, .any, .any, .any, .any, .any, .any, .any, .any, .any, .any, .any, .any, .any, .any, .any, .any, .any, .any, .any, .any, .any, .any, .any, .any, .any, .any, .any, .any, .any, .any, .any, .any, .any, .any, .any, .any, .any, .any, .any, .any, .any, .any, .any, .any, .any, .any, .any, .any, .any, .any, .any, .any, .any, .any, .any, .any, .any, .any, .any, .any, .any, .any, .any, .any, .any, .any, .any, .any, .any, .any, .any, .any, .any, .any, .any, .any, .any, .any, .any, .any, .any, .any, .any, .any, .any, .any, .any, .any] ∧ st = σ ++ [exO xE, exO relE, setO [2] [2, 3], setO [2] [0, 1, 2], some (.cells [.d (isD (nL (cL [2]))), .d (isD (nL [2])), .d (prsD (pairsM M2 64))]), some (.cells [.d (isD (nL (cL [2]))), .d (isD (nL [2])), .d (prsD CL)]), setO [2] [2, 3]]) ?_ ?_
  · simp only [exO, setO, go_sem, toDs, Tryz.results4]
    refine ac' (Inside_ac [2] CL [2, 3] hrs s1 _ _ hT _ ?_)
    rw [← hCL, part_ge, hCL]
    simp only [setX, exO, setO, go_sem, toDs, Tryz.results4]
    exact Wk.mask [0, 1, 3, 5, 6, 7, 9, 10, 11, 12, 13] ⟨rfl, rfl⟩
  rintro fr st ⟨rfl, rfl⟩
  refine aw_cut (fun fr st => fr = [db false, .d (celsD [cx1]), .any, .ref (σ.length + 1) 0, .any, di 0, .any, di 0, .any, di 0, .any, di 0, .ref (σ.length + 6) 0, di 0, .ref (σ.length + 7) 0, di 0, .any, .any, .any, .any, .any, .any, .any, .any, .any, .any, .any, .any, .any, .any, .any, .any, .any, .any, .any, .any, .any, .any, .any, .any, .any, .any, .any, .any, .any, .any, .any, .any, .any, .any, .any, .any, .any, .any, .any, .any, .any, .any, .any, .any, .any, .any, .any, .any, .any, .any, .any, .any, .any, .any, .any, .any, .any, .any, .any, .any, .any, .any, .any, .any, .any, .any, .any, .any, .any, .any, .any, .any, .any, .any, .any, .any, .any, .any, .any, .any, .any, .any, .any, .any, .any, .any, .any, .any, .any, .any, .any, .any, .any, .any] ∧ st = σ ++ [exO xE, exO relE, setO [2] [2, 3], setO [2] [0, 1, 2], some (.cells [.d (isD (nL (cL [2]))), .d (isD (nL [2])), .d (prsD (pairsM M2 64))]), some (.cells [.d (isD (nL (cL [2]))), .d (isD (nL [2])), .d (prsD CL)]), setO [2] [2, 3], setO [2] []]) ?_ ?_
  · simp only [exO, setO, go_sem, toDs, Tryz.results4]
    refine ac' (Inside_ac [2] CL [0, 1, 2] hrs s2 _ _ hT _ ?_)
    rw [← hCL, part_le, hCL]
    simp only [setX, exO, setO, go_sem, toDs, Tryz.results4]
    exact Wk.mask [0, 1, 3, 5, 7, 9, 11, 12, 13, 14, 15] ⟨rfl, rfl⟩
  rintro fr st ⟨rfl, rfl⟩
  have cxX : Cx [cx1] X2 := (xS_cx hL.w [2, 3]).1
  have twX : Two [cx1] (bef X2) relE := hL.twoX [2, 3]
  have l2 : Imp [2] (andL [bef X2, relE]) X2 := by
    have := hL.l2
    rw [part_two] at this
    exact this
  have bX : ∀ (σ : St) (R : A → St → Prop), R (.d (eD (bef X2))) σ → AC Tryz.prog G 13 [.d (eD X2)] σ R := fun σ R hR => by
    have := before_ac X2 cxX.ok cxX.nodes cxX.deep σ G hG R (by rw [Ex.d_eq]; exact hR)
    rw [Ex.d_eq] at this
    exact this
  have hXr : ∀ (σ : St) (R : A → St → Prop), R (db true) σ → AC Tryz.prog G 11 [.d (celsD [cx1]), .d (eD (andL [bef X2, relE])), .d (eD X2)] σ R := fun σ R hR => by
    have := holds_ac [cx1] [2] cw2 (by decide) rfl ws2 (by decide) (andL [bef X2, relE]) X2 (and2_cx twX) cxX σ G hG hpan R (by rw [@decide_eq_true _ (Classical.propDecidable _) l2]; exact hR)
    rw [Ex.d_eq, Ex.d_eq] at this
    exact this
  have b0 : ((0 : Int) == 0) = true := rfl
  have bl : ((0 : Nat) : Int) = 0 := rfl
  simp only [exO, setO, go_sem, toDs, Tryz.results4]
  refine aw_plan (.tk 37 0 <| .pure 37 <| .pure 38 <| .take 39 <| .alt 40 (.alt 41 (.take 42 <| .pure 43 <| .pure 44 <| .tk 2 45 <| .done) <| .alt 42 (.take 41 <| .pure 43 <| .pure 44 <| .tk 2 45 <| .done) <| .stop) <| .alt 42 (.tk 2 40 <| .pure 43 <| .pure 44 <| .tk 2 45 <| .done) <| .stop) (by kernel_rfl) ?_
  simp only [exO, setO, isD, nL, List.map_nil, List.length_nil, go_sem, b0, bl, toDs, Tryz.results4]
  refine exs ⟨fun _ => ?_, fun hh => Bool.noConfusion hh⟩
  simp only [exO, setO, go_sem, toDs, Tryz.results4]
  refine ac' (ints_rs (by simp) ?_)
  simp only [exO, setO, go_sem, toDs, Tryz.results4]
  refine Go.Ab.exQ (eD X2) ⟨fun _ => ⟨rfl, fun σ' => ac' (expr_two _ _ hpan _ ⟨rfl, rfl⟩)⟩, ?_⟩
  simp only [exO, setO, go_sem, toDs, Tryz.results4]
  refine Go.Ab.exQ (eD (bef X2)) ⟨fun _ => ⟨rfl, fun σ' => ac' (bX _ _ ⟨rfl, rfl⟩)⟩, ?_⟩
  simp only [exO, setO, eD, go_sem, toDs, Tryz.results4]
  refine ⟨⟨exs ⟨fun _ => ?_, fun hh => Bool.noConfusion hh⟩, exs ⟨fun _ => ?_, fun hh => Bool.noConfusion hh⟩⟩, exs ⟨fun _ => ?_, fun hh => Bool.noConfusion hh⟩⟩
  all_goals (
    simp only [exO, setO, eD, go_sem, toDs, Tryz.results4]
    refine ac' (and_rs twX (by simp) hG ?_)
    simp only [exO, setO, eD, go_sem, toDs, Tryz.results4]
    refine Go.Ab.exQ (eD X2) ⟨fun _ => ⟨rfl, fun σ' => ac' (expr_two _ _ hpan _ ⟨rfl, rfl⟩)⟩, ?_⟩
    simp only [exO, setO, eD, go_sem, toDs, Tryz.results4]
    refine Go.Ab.exQ (.bool true) ⟨fun _ => ⟨rfl, fun σ' => ac' (hXr _ _ ⟨rfl, rfl⟩)⟩, ?_⟩
    simp only [exO, setO, eD, go_sem, toDs, Tryz.results4]
    exact ret_d hbd h)
end Go.Proofs.YtmjlhbkgljcnoaaGreatDoor
end PartT38

section PartR0
/- What the rows of this seat share: the laid table, the start; data of the laws' types. -/
set_option maxRecDepth 100000
namespace Go.Proofs.YtmjlhbkgljcnoaaGreatDoor
open Go Go.Ab Go.RowKit Go.ChangeShapes Go.WideShapes
theorem own : ownKnob Tryz.prog.godebug = none := by kernel_rfl
theorem gMasks : Tryz.prog.globalNamed "relyguard/expr.masks" = some 0 := by kernel_rfl
theorem gTab : Tryz.prog.globalNamed "math/bits.deBruijn64tab" = some 1 := by kernel_rfl
abbrev laid1 : List (String × DataW Unit) := [("math/bits.deBruijn64tab", Rows.laid_math_bits_deBruijn64tab), ("relyguard/expr.masks", Rows.laid_relyguard_expr_masks)]
theorem door_met (os : Os) (args : Array Value) : laidMetH Tryz.prog laid1 ((World.doorLaid Tryz.prog 400 os).forCall (fun _ _ => 0) ⟨#[], args, []⟩).memory :=
  laidMetH_of_parts3 (fuel := 8) (laidMet_of_run' 8 (by kernel_rfl) (by kernel_rfl)) (by kernel_rfl) (by kernel_rfl)
abbrev maskT : TypeId := 129
abbrev tabT : TypeId := 132
theorem tMasks : (Tryz.prog.globals[0]?).map (·.type) = some maskT := by kernel_rfl
theorem tTab : (Tryz.prog.globals[1]?).map (·.type) = some tabT := by kernel_rfl
theorem closedG : closedT Tryz.prog [maskT, tabT, 3, 5] = true := by kernel_rfl
def globs : Glob := ⟨fun g => match g with | 0 => some masksD | 1 => some tabD | _ => none, fun _ _ => False⟩
theorem globs_rep {W : World} (h : laidMetH Tryz.prog laid1 W) : ∀ (g : Nat) (x : D), globs.g g = some x → RepA [] W (.ea x 0) (.pointer (some ⟨g, 0, none⟩)) := by
  rw [MakeChecks.laidMetH_plain _ _ _ (by kernel_rfl)] at h
  obtain ⟨ps, ⟨g1, t1, cs1, f1, p1, q1, hg1, ht1, hv1, hd1, ⟨g0, t0, cs0, f0, p0, q0, hg0, ht0, hv0, hd0, _, _⟩, _⟩, _, _⟩ := h
  obtain rfl := Option.some.inj (gMasks.symm.trans hg0)
  obtain rfl := Option.some.inj (tMasks.symm.trans ht0)
  obtain rfl := Option.some.inj (gTab.symm.trans hg1)
  obtain rfl := Option.some.inj (tTab.symm.trans ht1)
  intro g x hx
  match g with
  | 0 =>
    simp only [globs, Option.some.injEq] at hx
    subst hx
    have := laid_ea closedG (by simp) gMasks hv0 hd0 3
    have e : toD Tryz.prog (f0 + 3) maskT Rows.laid_relyguard_expr_masks (H := Unit) = masksD := by with_unfolding_all rfl
    rw [e] at this
    exact this
  | 1 =>
    simp only [globs, Option.some.injEq] at hx
    subst hx
    have := laid_ea closedG (by simp) gTab hv1 hd1 3
    have e : toD Tryz.prog (f1 + 3) tabT Rows.laid_math_bits_deBruijn64tab (H := Unit) = tabD := by with_unfolding_all rfl
    rw [e] at this
    exact this
  | g + 2 => simp [globs] at hx
-- data of the laws' types
theorem map_of {α : Type} {f : α → D} {p : α → Prop} : ∀ {xs : List D}, (∀ x ∈ xs, ∃ y, x = f y ∧ p y) → ∃ l : List α, xs = l.map f ∧ ∀ y ∈ l, p y
  | [], _ => ⟨[], rfl, fun y hy => by cases hy⟩
  | x :: xs, h => by
    obtain ⟨y, rfl, hy⟩ := h x (by simp)
    obtain ⟨l, rfl, hl⟩ := map_of (f := f) (p := p) (xs := xs) fun z hz => h z (by simp [hz])
    exact ⟨y :: l, rfl, fun z hz => by rcases List.mem_cons.1 hz with rfl | hz; exact hy; exact hl z hz⟩
theorem dty_int {N n : Nat} {x : D} (h : DTy Tryz.prog N n 3 x) : ∃ z, x = iD z ∧ True := by
  obtain _ | n := n
  · exact h.elim
  simp only [DTy, Tryz.underlying3] at h
  obtain ⟨z, rfl, hw⟩ := h
  exact ⟨z, rfl, trivial⟩
theorem dty_bool {N n : Nat} {x : D} (h : DTy Tryz.prog N n 4 x) : ∃ b, x = .bool b ∧ True := by
  obtain _ | n := n
  · exact h.elim
  simp only [DTy, Tryz.underlying4] at h
  obtain ⟨b, rfl⟩ := h
  exact ⟨b, rfl, trivial⟩
theorem dty_str {N n : Nat} {x : D} (h : DTy Tryz.prog N n 9 x) : ∃ b, x = .str b ∧ True := by
  obtain _ | n := n
  · exact h.elim
  simp only [DTy, Tryz.underlying9] at h
  obtain ⟨b, rfl, -⟩ := h
  exact ⟨b, rfl, trivial⟩
theorem four_of {ds : List D} (h : ds.length = 4) : ∃ a b c d, ds = [a, b, c, d] := by
  match ds, h with
  | [a, b, c, d], _ => exact ⟨a, b, c, d, rfl⟩
theorem six_of {ds : List D} (h : ds.length = 6) : ∃ a b c d e f, ds = [a, b, c, d, e, f] := by
  match ds, h with
  | [a, b, c, d, e, f], _ => exact ⟨a, b, c, d, e, f, rfl⟩
/-- Expressions and lists of expressions. -/
theorem dty_exs (n : Nat) : ∀ {x : D}, (DTy Tryz.prog reachBytes n 25 x → ∃ e : Ex, x = e.d ∧ e.Ok) ∧ (DTy Tryz.prog reachBytes n 23 x → ∃ l : List Ex, x = .sl 4 (l.map Ex.d) ∧ l.length ≤ reachBytes ∧ ∀ k ∈ l, k.Ok) := by
  induction n with
  | zero => exact ⟨fun h => h.elim, fun h => h.elim⟩
  | succ n ih =>
    intro x
    refine ⟨fun h => ?_, fun h => ?_⟩
    · simp only [DTy, Tryz.underlying25] at h
      obtain ⟨ds, rfl, hl, hx⟩ := h
      obtain ⟨a, b, c, d, rfl⟩ := four_of hl
      obtain ⟨o, rfl, -⟩ := dty_int (hx 0 _ a rfl rfl)
      obtain ⟨w, rfl, -⟩ := dty_int (hx 1 _ b rfl rfl)
      obtain ⟨m, rfl, -⟩ := dty_int (hx 2 _ c rfl rfl)
      obtain ⟨l, rfl, hll, hlk⟩ := ih.2 (hx 3 _ d rfl rfl)
      exact ⟨.mk o w m l, by rw [Ex.d_eq]; rfl, .mk hll hlk⟩
    · simp only [DTy, Tryz.underlying23, go_sem] at h
      obtain ⟨xs, rfl, hl, hx⟩ := h
      obtain ⟨l, rfl, hlk⟩ := map_of fun x hx' => ih.1 (hx x hx')
      exact ⟨l, rfl, by simpa using hl, hlk⟩
theorem dty_cel {N n : Nat} {x : D} (h : DTy Tryz.prog N n 49 x) : ∃ c, x = celD c ∧ True := by
  obtain _ | n := n
  · exact h.elim
  simp only [DTy, Tryz.underlying49] at h
  obtain ⟨ds, rfl, hl, hx⟩ := h
  obtain ⟨a, b, c, d, e, f, rfl⟩ := six_of hl
  obtain ⟨o, rfl, -⟩ := dty_str (hx 0 _ a rfl rfl)
  obtain ⟨w, rfl, -⟩ := dty_int (hx 1 _ b rfl rfl)
  obtain ⟨m, rfl, -⟩ := dty_int (hx 2 _ c rfl rfl)
  obtain ⟨m2, rfl, -⟩ := dty_int (hx 3 _ d rfl rfl)
  obtain ⟨m3, rfl, -⟩ := dty_bool (hx 4 _ e rfl rfl)
  obtain ⟨m4, rfl, -⟩ := dty_int (hx 5 _ f rfl rfl)
  exact ⟨⟨o, w, m, m2, m3, m4⟩, rfl, trivial⟩
theorem dty_ex {n : Nat} {x : D} (h : DTy Tryz.prog reachBytes n 25 x) : ∃ e : Ex, x = e.d ∧ e.Ok := (dty_exs n).1 h
theorem dty_cels {N n : Nat} {x : D} (h : DTy Tryz.prog N n 22 x) : ∃ l, x = celsD l ∧ l.length ≤ N := by
  obtain _ | n := n
  · exact h.elim
  simp only [DTy, Tryz.underlying22, go_sem] at h
  obtain ⟨xs, rfl, hl, hx⟩ := h
  obtain ⟨l, rfl, -⟩ := map_of fun x hx' => dty_cel (hx x hx')
  exact ⟨l, rfl, by simpa using hl⟩
end Go.Proofs.YtmjlhbkgljcnoaaGreatDoor
end PartR0

section PartR3
/- TopStablePart: the law answers true for every input, and leaves its input as it was. Its condition: the laid table holds what the text of the program lays (tied by the card). -/
set_option maxRecDepth 100000
set_option linter.unusedSimpArgs false
set_option linter.unusedVariables false
namespace Go.Proofs.YtmjlhbkgljcnoaaGreatDoor
open Go Go.Ab Go.RowKit Go.ChangeShapes Go.WideShapes
theorem law_gen (cells : List Cel) (hcl : cells.length ≤ reachBytes) (a : Ex) (ha : a.Ok) (r : Ex) (hr : r.Ok) (o : Ex) (ho : o.Ok) : AC Tryz.prog globs 3 [.d (celsD cells), .d a.d, .d r.d, .d o.d] [] fun x _ => x = db true :=
  law_ac cells a r o ha hr ho [] globs rfl rfl (fun _ _ h => h) (fun σ R h => counter_ac σ globs rfl rfl (fun _ _ h => h) R h) _ rfl
theorem liftedTopStablePart (os : Os) (started : os.Started) (H : Type) (enc : TypeId × Value → H) :
    ReturnsInHanded {} Tryz.checked os 3 .any (fun w args => (Rows.topStablePartSpec.pre enc Tryz.prog Tryz.f3 [] false w args ∧ laidMetH Tryz.prog laid1 w) ∧ sizedMet enc Tryz.prog Tryz.f3 (OpenSpec.ofChange Rows.topStablePartSpec) false w args)
      (Rows.topStablePartSpec.post enc Tryz.prog Tryz.f3 false true false false) := by
  refine returnsInHanded_of_change_and (C := Tryz.checked) (X := fun w _ => laidMetH Tryz.prog laid1 w) (fun _ _ _ hh h => h.of_heap hh) own started (by kernel_rfl) Tryz.func3
    (ChangeSpec.witness_shaped (enc := enc) (C := Tryz.checked) (os := os) (X := fun w _ => laidMetH Tryz.prog laid1 w) false (World.doorLaid Tryz.prog 400 os) #[.slice none 0 0, .agg #[.int .i64 0, .int .i64 0, .int .i64 0, .slice none 0 0], .agg #[.int .i64 0, .int .i64 0, .int .i64 0, .slice none 0 0], .agg #[.int .i64 0, .int .i64 0, .int .i64 0, .slice none 0 0]] 8 rfl (World.shaped_of_RefB (by kernel_rfl) (by kernel_rfl)) (by kernel_rfl) (by kernel_rfl) (by kernel_rfl) (door_met os _)) ?_
  intro W base args ds gs before hval hW _ hz hL _
  refine calls_true (G := globs) (S := [3, 4, 9, 22, 23, 25, 49]) (tb := 4) hW hval (by kernel_rfl) (by rw [Tryz.params3]; kernel_rfl) (by kernel_rfl) (by rw [Tryz.params3]; kernel_rfl) rfl (by kernel_rfl) Tryz.underlying4 (fun ds hds => ?_) (globs_rep hL) hz (fun xs hx => ?_)
  · rw [Tryz.params3] at hds
    match ds, hds with
    | [d0, d1, d2, d3], _ => rfl
  · skip
    rw [Tryz.params3] at hx
    generalize args.toList = vs at hx
    cases hx with
    | cons h0 _ hx =>
      obtain ⟨n0, h0⟩ := h0
      obtain ⟨x0, rfl, k0⟩ := dty_cels h0
      cases hx with
      | cons h1 _ hx =>
        obtain ⟨n1, h1⟩ := h1
        obtain ⟨x1, rfl, k1⟩ := dty_ex h1
        cases hx with
        | cons h2 _ hx =>
          obtain ⟨n2, h2⟩ := h2
          obtain ⟨x2, rfl, k2⟩ := dty_ex h2
          cases hx with
          | cons h3 _ hx =>
            obtain ⟨n3, h3⟩ := h3
            obtain ⟨x3, rfl, k3⟩ := dty_ex h3
            cases hx
            exact law_gen x0 k0 x1 k1 x2 k2 x3 k3
theorem closedTopStablePart : joinedFacts Tryz.prog 3 Tryz.f3 Rows.topStablePartSpec Rows.topStablePartRow = true := by
  rw [joinedFacts, mayEnter, liftsFinal, makes]
  kernel_rfl
theorem topStablePart_said : Rows.TopStablePartSaid :=
  OpenClaim.holds_of_wide 3 Tryz.f3 rfl rfl rfl rfl rfl rfl rfl ⟨rfl, rfl, rfl, rfl, rfl⟩ rfl rfl rfl rfl rfl (by kernel_rfl) Tryz.func3 closedTopStablePart
    (of_decide_eq_true (by kernel_rfl)) (by unfold Func.isWrapper; first | (rw [if_pos (by decide +kernel)]; kernel_rfl) | (rw [if_neg (by decide +kernel)]; exact ⟨rfl, rfl⟩))
    (fun os started H enc _ => liftedTopStablePart os started H enc)
theorem topStablePart_holds : Rows.TopStablePartCardSaid :=
  Claim7.holds_tied_plain_at .later [] [.data, .data] true (true, "faafae5318d31c4a2ea3cad26621b79f3e2d71e7677a96a01ba1b03cea25d6f2") false
    topStablePart_said (fun _ h => by cases h) (by kernel_rfl) (fun _ h => by cases h) topStablePart_row_tie rfl ⟨rfl, rfl⟩ (by kernel_rfl) rfl
    (fun f fn hf hfn => by
      obtain rfl : f = 3 := Option.some.inj ((show Tryz.prog.funcNamed "relyguard/relyguardtop.TopStablePart" = some 3 by kernel_rfl).symm.trans hf) |>.symm
      obtain rfl : fn = Tryz.f3 := (Option.some.inj (Tryz.func3.symm.trans hfn)).symm
      exact ⟨by kernel_rfl, fun j t ht => by
        rw [Tryz.params3] at ht
        have hm : t ∈ [22, 25, 25, 25] := by simpa using Array.mem_of_getElem? ht
        have hall : ([22, 25, 25, 25].all fun u => !Tryz.prog.wantsStandIn u) = true := by kernel_rfl
        exact (show Tryz.prog.wantsStandIn t = false by simpa using List.all_eq_true.1 hall t hm)⟩)
    (by kernel_rfl)
#print axioms topStablePart_holds
end Go.Proofs.YtmjlhbkgljcnoaaGreatDoor
end PartR3
