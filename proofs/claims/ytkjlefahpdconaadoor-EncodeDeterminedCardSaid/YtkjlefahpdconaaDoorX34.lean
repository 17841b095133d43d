import Derived.Test.YtkjlefahpdconaaDoorX33
import Derived.Test.YtkjlefahpdconaaDoorX32

section PartB6
/- The builder: comparisons; lists of literals. -/
set_option linter.unusedSimpArgs false
set_option linter.unusedVariables false
set_option maxRecDepth 100000
namespace Go.Proofs.YtkjlefahpdconaaDoor
open Go Go.Ab

theorem part_set2 {acc : List Int} {n : Nat} (h : acc.length < n) (x y : Int) : (part (acc ++ [x]) n).set acc.length y = part (acc ++ [y]) n := by
  simp only [part, List.length_append, List.length_cons, List.length_nil]
  rw [List.append_assoc, List.set_append_right _ _ (Nat.le_refl _), Nat.sub_self]
  simp
theorem part_cells {acc : List Int} {n j : Nat} (hj : acc.length = j) (h : j < n) (x : Int) : ((part acc n).map fun x => A.d (iD x)).take j ++ A.d (iD x) :: ((part acc n).map fun x => A.d (iD x)).drop (j + 1) = (part (acc ++ [x]) n).map fun x => A.d (iD x) := by
  rw [splice_intsA x (by rw [part_len (by omega)]; exact h), ← hj, part_set (by omega)]
theorem take_map_succ {α : Type} {f : α → Int} {l : List α} {j : Nat} (d : α) (h : j < l.length) : (l.take (j + 1)).map f = (l.take j).map f ++ [f (l.getD j d)] := by
  rw [List.take_add_one, List.getElem?_eq_getElem h, List.getD_eq_getElem?_getD, List.getElem?_eq_getElem h, List.map_append]; rfl
section
variable {X : Bx} {G : Glob} {ic ic' : Nat} {gs gs' : List Gt} {σ σ' : St}
set_option maxHeartbeats 4000000 in
theorem negs_ac {l : List Int} {n : Nat} (hl : LitL n l) (hn : n ≤ 8000) (hl8 : l.length ≤ 1000) (σ : St) (R : A → St → Prop) (h : R (dL (l.map (- ·))) σ) : AC Tryd.prog G 69 [dL l] σ R := by
  refine ac_enter' mixed Tryd.func69 rfl Tryd.ntmps69 (by simp only [go_sem]) fun hbd => ?_
  simp only [List.length_cons, List.length_nil, Nat.reduceAdd, Nat.reduceSub, List.replicate_succ, List.replicate_zero, List.cons_append, List.nil_append]
  simp only [dL, isD, go_sem, List.length_map, Int.toNat_natCast, zeros_cells]
  refine ⟨⟨by omega, by omega, by omega, by omega⟩, ?_⟩
  refine aw_loop (fun m fr st => ∃ (j : Nat), j ≤ l.length ∧ m = l.length - j ∧ fr = [.any, .any, .any, .rs σ.length 1 0 l.length (some 3), .any, .any, .any, .any, .any, .d (.sl 1 (l.map iD)), dn l.length, dn j, .any, .any, .any, .any, .any, .any, .any, .any, .any, .any, .any] ∧ st = σ ++ [some (.cells ((part ((l.take j).map (- ·)) l.length).map fun x => A.d (iD x)))]) l.length _
    (Wk.mask [3, 9, 10, 11] ⟨0, by omega, rfl, rfl, rfl⟩) ?_
  rintro m fr st ⟨j, hj, hm, rfl, rfl⟩
  rcases Nat.lt_or_ge j l.length with hlt | hge
  · have hd : decide ((j : Int) < (l.length : Int)) = true := by simp; omega
    have e1 := getD_isD hlt
    have w1 := wrapS j (by omega)
    have ha := hl _ (getD_mem 0 hlt)
    have w2 : IntKind.i64.wrap (0 - l.getD j 0) = -l.getD j 0 := by have := ha.2; rw [wrap64_id _ (by omega) (by omega)]; omega
    have hset := part_cells (acc := (l.take j).map (- ·)) (n := l.length) (j := j) (by simp; omega) hlt (-l.getD j 0)
    have hpl : (part ((l.take j).map (- ·)) l.length).length = l.length := part_len (by simp; omega)
    rw [← take_map_succ (f := (- ·)) 0 hlt] at hset
    simp only [go_sem, hd, e1, w1, w2, List.length_map, Int.toNat_natCast, Nat.mul_one, Nat.zero_add, hset, hpl, Tryd.results69]
    exact ⟨⟨by omega, by omega⟩, ⟨by omega, by omega⟩, hlt, Wk.mask [3, 9, 10, 11] ⟨l.length - (j + 1), by omega, j + 1, hlt, rfl, rfl, rfl⟩⟩
  · have hd : decide ((j : Int) < (l.length : Int)) = false := by simp; omega
    obtain rfl : j = l.length := by omega
    rw [List.take_length, part_full (by simp)]
    simp only [go_sem, hd, Tryd.results69]
    refine ret_frz 0 1 0 ((l.map (- ·)).map iD) rfl (lies_ints _) ?_
    simp only [go_sem, List.length_map]
    exact ret_d hbd h
theorem rowL_take (p : Int) (w j : Nat) (h : j < w) : rowL p (j + 1) = rowL p j ++ [p + (j : Int)] := by
  simp [rowL, List.range_succ]
set_option maxHeartbeats 4000000 in
theorem row_ac {p : Int} {w : Nat} (hp : -8000 ≤ p ∧ p ≤ 8000) (hw : w ≤ 1000) (σ : St) (R : A → St → Prop) (h : R (dL (rowL p w)) σ) : AC Tryd.prog G 66 [di p, dn w] σ R := by
  refine ac_enter' mixed Tryd.func66 rfl Tryd.ntmps66 (by simp only [go_sem]) fun hbd => ?_
  simp only [List.length_cons, List.length_nil, Nat.reduceAdd, Nat.reduceSub, List.replicate_succ, List.replicate_zero, List.cons_append, List.nil_append]
  simp only [go_sem, List.length_map, Int.toNat_natCast, zeros_cells]
  refine ⟨⟨by omega, by omega, by omega, by omega⟩, ?_⟩
  refine aw_loop (fun m fr st => ∃ (j : Nat), j ≤ w ∧ m = w - j ∧ fr = [di p, .any, .any, .any, .any, .rs σ.length 1 0 w (some 3), .any, .any, .any, .any, dn w, dn j, .any, .any, .any, .any, .any, .any, .any, .any, .any, .any] ∧ st = σ ++ [some (.cells ((part (rowL p j) w).map fun x => A.d (iD x)))]) w _
    (Wk.mask [0, 5, 10, 11] ⟨0, by omega, rfl, rfl, rfl⟩) ?_
  rintro m fr st ⟨j, hj, hm, rfl, rfl⟩
  have hrl : (rowL p j).length = j := by simp [rowL]
  rcases Nat.lt_or_ge j w with hlt | hge
  · have hd : decide ((j : Int) < (w : Int)) = true := by simp; omega
    have w1 := wrapS j (by omega)
    have w2 : IntKind.i64.wrap (p + j) = p + j := by rw [wrap64_id _ (by omega) (by omega)]
    have hset := part_cells (acc := rowL p j) (n := w) (j := j) hrl hlt (p + j)
    have hpl : (part (rowL p j) w).length = w := part_len (by omega)
    rw [← rowL_take p w j hlt] at hset
    simp only [go_sem, hd, w1, w2, List.length_map, Int.toNat_natCast, Nat.mul_one, Nat.zero_add, hset, hpl, Tryd.results66]
    exact ⟨⟨by omega, by omega⟩, hlt, Wk.mask [0, 5, 10, 11] ⟨w - (j + 1), by omega, j + 1, hlt, rfl, rfl, rfl⟩⟩
  · have hd : decide ((j : Int) < (w : Int)) = false := by simp; omega
    obtain rfl : j = w := by omega
    rw [part_full (by omega)]
    simp only [go_sem, hd, Tryd.results66]
    refine ret_frz 0 1 0 ((rowL p j).map iD) rfl (lies_ints _) ?_
    simp only [go_sem, List.length_map, hrl]
    exact ret_d hbd h
theorem constL_take (n : Int) (j : Nat) : constL n (j + 1) = constL n j ++ [if n.toNat.testBit j = true then 1 else -1] := by
  simp [constL, List.range_succ]
set_option maxHeartbeats 4000000 in
theorem constb_ac {a : A} {o n : Int} {w : Nat} {ks : List D} (hn : 0 ≤ n ∧ n < 256) (hw : w ≤ 8) (σ : St) (k : A) (R : A → St → Prop) (h : R (dL (constL n w)) σ) : AC Tryd.prog G 64 [a, .d (.agg [iD o, iD (w : Nat), iD n, .sl 4 ks]), k] σ R := by
  refine ac_enter' mixed Tryd.func64 rfl Tryd.ntmps64 (by simp only [go_sem]) fun hbd => ?_
  simp only [List.length_cons, List.length_nil, Nat.reduceAdd, Nat.reduceSub, List.replicate_succ, List.replicate_zero, List.cons_append, List.nil_append]
  simp only [go_sem, List.length_map, Int.toNat_natCast, zeros_cells]
  refine ⟨⟨by omega, by omega, by omega, by omega⟩, ?_⟩
  refine aw_loop (fun m fr st => ∃ (j : Nat), j ≤ w ∧ m = w - j ∧ fr = [.any, .any, .any, .any, .ref σ.length 0, .any, .any, .rs (σ.length + 1) 1 0 w (some 3), .any, .any, .any, .any, .any, dn w, dn j, .any, .any, .any, .any, .any, .any, .any, .any, .any, .any, .any, .any, .any, .any, .any, .any] ∧ st = σ ++ [some (.cells [.d (iD o), dn w, .d (iD n), .d (.sl 4 ks)]), some (.cells ((part (constL n j) w).map fun x => A.d (iD x)))]) w _
    (Wk.mask [4, 7, 13, 14] ⟨0, by omega, rfl, rfl, rfl⟩) ?_
  rintro m fr st ⟨j, hj, hm, rfl, rfl⟩
  have hcl : (constL n j).length = j := by simp [constL]
  rcases Nat.lt_or_ge j w with hlt | hge
  · have hd : decide ((j : Int) < (w : Int)) = true := by simp; omega
    have w1 := wrapS j (by omega)
    have hset := part_cells (acc := constL n j) (n := w) (j := j) hcl hlt (-1)
    have hpl : (part (constL n j) w).length = w := part_len (by omega)
    have hpl2 : (part (constL n j ++ [-1]) w).length = w := part_len (by simp; omega)
    have hset2 : ((part (constL n j ++ [-1]) w).map fun x => A.d (iD x)).take j ++ A.d (iD 1) :: ((part (constL n j ++ [-1]) w).map fun x => A.d (iD x)).drop (j + 1) = (part (constL n j ++ [1]) w).map fun x => A.d (iD x) := by
      rw [splice_intsA 1 (by omega)]
      have := part_set2 (acc := constL n j) (n := w) (by omega) (-1) 1
      rw [hcl] at this; rw [this]
    have hb : (bAnd (bShr n (j : Int)) 1 == 1) = n.toNat.testBit j := by
      rw [bit_test n (by omega)]
      have := ibit_nat (n := n.toNat) (k := j) (by omega) (by omega)
      rw [← this]; congr 1; omega
    have hct := constL_take n j
    simp only [go_sem, hd, w1, List.length_map, hb, Nat.mul_one, Nat.zero_add, Int.toNat_natCast, hset, hpl, Tryd.results64]
    refine ⟨⟨by omega, by omega⟩, hlt, by omega, fun q' => ?_, fun q' => ?_⟩
    · rw [q', if_pos rfl] at hct
      simp only [go_sem, w1, List.length_map, Int.toNat_natCast, Nat.mul_one, Nat.zero_add, hset2, hpl2, Tryd.results64]
      refine ⟨⟨by omega, by omega⟩, hlt, Wk.mask [4, 7, 13, 14] ⟨w - (j + 1), by omega, j + 1, hlt, rfl, rfl, by rw [hct]⟩⟩
    · rw [q', if_neg (by simp)] at hct
      exact Wk.mask [4, 7, 13, 14] ⟨w - (j + 1), by omega, j + 1, hlt, rfl, rfl, by rw [hct]⟩
  · have hd : decide ((j : Int) < (w : Int)) = false := by simp; omega
    obtain rfl : j = w := by omega
    rw [part_full (by omega)]
    simp only [go_sem, hd, Tryd.results64]
    refine ret_frz 1 1 0 ((constL n j).map iD) rfl (lies_ints _) ?_
    simp only [go_sem, List.length_map, hcl]
    exact ret_d hbd h
theorem old_at (X : Bx) : X.cells.getD 16 .any = .d (isD X.lo) := rfl
theorem now_at (X : Bx) : X.cells.getD 17 .any = .d (isD X.ln) := rfl
set_option maxHeartbeats 4000000 in
theorem cellb_ac (hs : Bs X G ic gs σ) {o n : Int} {w : Nat} {ks : List D} (hn : 0 ≤ n ∧ n < X.ln.length) (hp : 1 ≤ X.ln.getD n.toNat 0 ∧ X.ln.getD n.toNat 0 ≤ 8000) (hw : w ≤ 8) (k : A) (R : A → St → Prop) (h : R (dL (rowL (X.ln.getD n.toNat 0) w)) σ) : AC Tryd.prog G 65 [.ref X.ib 0, .d (.agg [iD o, iD (w : Nat), iD n, .sl 4 ks]), k] σ R := by
  have hb0 := hs.b
  have hcl : X.cells.length = 18 := rfl
  have e1 := getD_isD (l := X.ln) (j := n.toNat) (by omega)
  refine ac_enter' mixed Tryd.func65 rfl Tryd.ntmps65 (by simp only [go_sem]) fun hbd => ?_
  simp only [List.length_cons, List.length_nil, Nat.reduceAdd, Nat.reduceSub, List.replicate_succ, List.replicate_zero, List.cons_append, List.nil_append]
  simp only [go_sem, Tryd.results65]
  refine aw_plan (.tk 12 0 <| .done) (by kernel_rfl) ?_
  simp only [go_sem, live_old hb0, objK_old hb0, hcl, now_at, isD, List.length_map, e1, Tryd.results65]
  refine ⟨⟨by omega, by omega⟩, ac' (row_ac ⟨by omega, by omega⟩ (by omega) _ _ ?_)⟩
  simp only [go_sem, Tryd.results65]
  exact ret_d hbd h
set_option maxHeartbeats 4000000 in
theorem oldb_ac (hs : Bs X G ic gs σ) {o n : Int} {w : Nat} {ks : List D} (hn : 0 ≤ n ∧ n < X.lo.length) (hp : 1 ≤ X.lo.getD n.toNat 0 ∧ X.lo.getD n.toNat 0 ≤ 8000) (hw : w ≤ 8) (k : A) (R : A → St → Prop) (h : R (dL (rowL (X.lo.getD n.toNat 0) w)) σ) : AC Tryd.prog G 67 [.ref X.ib 0, .d (.agg [iD o, iD (w : Nat), iD n, .sl 4 ks]), k] σ R := by
  have hb0 := hs.b
  have hcl : X.cells.length = 18 := rfl
  have e1 := getD_isD (l := X.lo) (j := n.toNat) (by omega)
  refine ac_enter' mixed Tryd.func67 rfl Tryd.ntmps67 (by simp only [go_sem]) fun hbd => ?_
  simp only [List.length_cons, List.length_nil, Nat.reduceAdd, Nat.reduceSub, List.replicate_succ, List.replicate_zero, List.cons_append, List.nil_append]
  simp only [go_sem, Tryd.results67]
  refine aw_plan (.tk 12 0 <| .done) (by kernel_rfl) ?_
  simp only [go_sem, live_old hb0, objK_old hb0, hcl, old_at, isD, List.length_map, e1, Tryd.results67]
  refine ⟨⟨by omega, by omega⟩, ac' (row_ac ⟨by omega, by omega⟩ (by omega) _ _ ?_)⟩
  simp only [go_sem, Tryd.results67]
  exact ret_d hbd h
def llD (l : List (List Int)) : D := .sl 1 (l.map isD)
theorem notb_ac {b : A} {o n : Int} {w : Nat} {ks : List D} {x : List Int} {m : Nat} (hx : LitL m x) (hm : m ≤ 8000) (hx8 : x.length ≤ 64) (σ : St) (R : A → St → Prop) (h : R (dL (x.map (- ·))) σ) : AC Tryd.prog G 68 [b, .d (.agg [iD o, iD (w : Nat), iD n, .sl 4 ks]), .d (llD [x])] σ R := by
  refine ac_enter' mixed Tryd.func68 rfl Tryd.ntmps68 (by simp only [go_sem]) fun hbd => ?_
  simp only [List.length_cons, List.length_nil, Nat.reduceAdd, Nat.reduceSub, List.replicate_succ, List.replicate_zero, List.cons_append, List.nil_append]
  simp only [llD, isD, go_sem, List.map_cons, List.map_nil, List.getD_cons_zero, Int.toNat_zero, Tryd.results68]
  refine ⟨by simp, ac' (negs_ac hx hm (by omega) _ _ ?_)⟩
  simp only [go_sem, Tryd.results68]
  exact ret_d hbd h
set_option maxHeartbeats 4000000 in
theorem eq_ac (hs : Bs X G ic gs σ) {x y : List Int} (hx : LitL (X.first + gs.length) x) (hy : LitL (X.first + gs.length) y) (hl : x.length = y.length) (hx8 : x.length ≤ 64) (R : A → St → Prop)
    (h : Cb X G (eqM X.first x y 1) LitR di ic gs σ R) : AC Tryd.prog G 76 [.ref X.ib 0, dL x, dL y] σ R := by
  have hho := eq_ho x y 1 hs.good hx hy hl (lit_one hs.good.one)
  refine ac_enter' mixed Tryd.func76 rfl Tryd.ntmps76 (by simp only [go_sem]) fun hbd => ?_
  simp only [List.length_cons, List.length_nil, Nat.reduceAdd, Nat.reduceSub, List.replicate_succ, List.replicate_zero, List.cons_append, List.nil_append]
  simp only [dL, isD, go_sem, List.length_map, Int.toNat_natCast]
  refine aw_loop (fun m fr st => ∃ (j : Nat) (t : Int) (gs1 : List Gt) (ic1 : Nat), j ≤ x.length ∧ m = x.length - j ∧
    After (eqM X.first x y 1 gs) id (eqM X.first (x.drop j) (y.drop j) t gs1) ∧ Lit (X.first + gs1.length) t ∧ gs.length ≤ gs1.length ∧
    Bs X G ic1 gs1 st ∧ Stp X.iw ic σ ic1 st ∧
    fr = [.ref X.ib 0, .d (.sl 1 (x.map iD)), .d (.sl 1 (y.map iD)), .any, .any, .any, .any, di t, .any, .any, .any, dn x.length, dn j, .any, .any, .any, .any, .any, .any, .any, .any, .any, .any, .any, .any, .any, .any, .any, .any, .any, .any, .any]) x.length _ ?_ ?_
  · exact Wk.mask [0, 1, 2, 7, 11, 12] ⟨0, 1, gs, ic, by omega, rfl, ⟨fun e => e, fun rs gs2 e => e⟩, lit_one hs.good.one, Nat.le_refl _, hs, Stp.refl _ _ _, rfl⟩
  rintro m fr st ⟨j, t, gs1, ic1, hj, hm, heq, ht, hgl, hs1, hst1, rfl⟩
  have h8 := hs1.small
  rcases Nat.lt_or_ge j x.length with hlt | hge
  · have hd : decide ((j : Int) < (x.length : Int)) = true := by simp; omega
    have e1 := getD_isD hlt
    have e2 := getD_isD (l := y) (j := j) (by omega)
    have w1 := wrapS j (by omega)
    have hxa : Lit (X.first + gs1.length) (x.getD j 0) := (hx _ (getD_mem 0 hlt)).mono (by omega)
    have hyb : Lit (X.first + gs1.length) (y.getD j 0) := (hy _ (getD_mem 0 (by omega))).mono (by omega)
    rw [drop_getD 0 hlt, drop_getD (l := y) 0 (by omega)] at heq
    generalize x.getD j 0 = a at *
    generalize y.getD j 0 = b at *
    simp only [go_sem, hd, Tryd.results76]
    refine aw_plan (.tk 11 0 <| .done) (by kernel_rfl) ?_
    simp only [go_sem, List.length_map, e1, e2, Int.toNat_natCast, Tryd.results76]
    refine ⟨⟨by omega, by omega⟩, ⟨by omega, by omega⟩, ac' (xor_ac hs1 hxa hyb _ ⟨fun e => h.no (heq.no (by simp only [eqM, List.headD_cons]; simp only [bnd, e, Option.bind_none])), fun d gs2 ic2 σ2 q2 l2 n2 hs2 hst2 => ?_⟩)⟩
    have w3 : IntKind.i64.wrap (0 - d) = -d := by have := l2.2; have := hs2.small; rw [wrap64_id _ (by omega) (by omega)]; omega
    simp only [go_sem, w3, Tryd.results76]
    refine ac' (and_ac hs2 (ht.mono n2) l2.neg _ ⟨fun e => h.no (heq.no (by simp only [eqM, List.headD_cons]; simp only [bnd, q2, e, Option.bind_some, Option.bind_none])), fun t' gs3 ic3 σ3 q3 l3 n3 hs3 hst3 => ?_⟩)
    simp only [go_sem, w1, Tryd.results76]
    refine Wk.mask [0, 1, 2, 7, 11, 12] ⟨x.length - (j + 1), by omega, j + 1, t', gs3, ic3, hlt, rfl, ⟨fun e => heq.no (by simp only [eqM, List.headD_cons, List.tail_cons]; simp only [bnd, q2, q3, e, Option.bind_some]), fun r gs8 e => ?_⟩, l3, by omega, hs3, (hst1.trans hst2).trans hst3, rfl⟩
    apply heq.yes
    simp only [eqM, List.headD_cons, List.tail_cons]
    simp only [bnd, q2, q3, e, Option.bind_some]
  · have hd : decide ((j : Int) < (x.length : Int)) = false := by simp; omega
    simp only [go_sem, hd, Tryd.results76]
    have e := heq.yes t gs1 (by rw [List.drop_eq_nil_of_le hge]; rfl)
    exact ⟨_, _, Weak.refl _ _ _ _, h.yes t gs1 ic1 _ e ht (by omega) hs1 hst1⟩
set_option maxHeartbeats 4000000 in
theorem less_ac (hs : Bs X G ic gs σ) {x y : List Int} (hx : LitL (X.first + gs.length) x) (hy : LitL (X.first + gs.length) y) (hl : x.length = y.length) (hx8 : x.length ≤ 64) (R : A → St → Prop)
    (h : Cb X G (lessM X.first x y (-1)) LitR di ic gs σ R) : AC Tryd.prog G 77 [.ref X.ib 0, dL x, dL y] σ R := by
  refine ac_enter' mixed Tryd.func77 rfl Tryd.ntmps77 (by simp only [go_sem]) fun hbd => ?_
  simp only [List.length_cons, List.length_nil, Nat.reduceAdd, Nat.reduceSub, List.replicate_succ, List.replicate_zero, List.cons_append, List.nil_append]
  simp only [dL, isD, go_sem, List.length_map, Int.toNat_natCast]
  refine aw_loop (fun m fr st => ∃ (j : Nat) (t : Int) (gs1 : List Gt) (ic1 : Nat), j ≤ x.length ∧ m = x.length - j ∧
    After (lessM X.first x y (-1) gs) id (lessM X.first (x.drop j) (y.drop j) t gs1) ∧ Lit (X.first + gs1.length) t ∧ gs.length ≤ gs1.length ∧
    Bs X G ic1 gs1 st ∧ Stp X.iw ic σ ic1 st ∧
    fr = [.ref X.ib 0, .d (.sl 1 (x.map iD)), .d (.sl 1 (y.map iD)), .any, .any, .any, .any, di t, .any, .any, .any, .any, .any, dn x.length, dn j, .any, .any, .any, .any, .any, .any, .any, .any, .any, .any, .any, .any, .any, .any, .any, .any, .any, .any, .any, .any, .any, .any, .any, .any, .any, .any, .any, .any, .any, .any]) x.length _ ?_ ?_
  · exact Wk.mask [0, 1, 2, 7, 13, 14] ⟨0, -1, gs, ic, by omega, rfl, ⟨fun e => e, fun rs gs2 e => e⟩, lit_m1 hs.good.one, Nat.le_refl _, hs, Stp.refl _ _ _, rfl⟩
  rintro m fr st ⟨j, t, gs1, ic1, hj, hm, heq, ht, hgl, hs1, hst1, rfl⟩
  have h8 := hs1.small
  rcases Nat.lt_or_ge j x.length with hlt | hge
  · have hd : decide ((j : Int) < (x.length : Int)) = true := by simp; omega
    have e1 := getD_isD hlt
    have e2 := getD_isD (l := y) (j := j) (by omega)
    have w1 := wrapS j (by omega)
    have hxa : Lit (X.first + gs1.length) (x.getD j 0) := (hx _ (getD_mem 0 hlt)).mono (by omega)
    have hyb : Lit (X.first + gs1.length) (y.getD j 0) := (hy _ (getD_mem 0 (by omega))).mono (by omega)
    rw [drop_getD 0 hlt, drop_getD (l := y) 0 (by omega)] at heq
    generalize x.getD j 0 = a at *
    generalize y.getD j 0 = b at *
    simp only [go_sem, hd, Tryd.results77]
    refine aw_plan (.tk 11 0 <| .done) (by kernel_rfl) ?_
    simp only [go_sem, List.length_map, e1, e2, Int.toNat_natCast, Tryd.results77]
    refine ⟨⟨by omega, by omega⟩, ⟨by omega, by omega⟩, ac' (xor_ac hs1 hxa hyb _ ⟨fun e => h.no (heq.no (by simp only [lessM, List.headD_cons]; simp only [bnd, e, Option.bind_none])), fun d gs2 ic2 σ2 q2 l2 n2 hs2 hst2 => ?_⟩)⟩
    have w3 : IntKind.i64.wrap (0 - d) = -d := by have := l2.2; have := hs2.small; rw [wrap64_id _ (by omega) (by omega)]; omega
    simp only [go_sem, List.length_map, e1, e2, Int.toNat_natCast, Tryd.results77]
    refine ⟨⟨by omega, by omega⟩, ac' (and_ac hs2 l2 (hyb.mono n2) _ ⟨fun e => h.no (heq.no (by simp only [lessM, List.headD_cons]; simp only [bnd, q2, e, Option.bind_some, Option.bind_none])), fun u gs3 ic3 σ3 q3 l3 n3 hs3 hst3 => ?_⟩)⟩
    simp only [go_sem, w3, Tryd.results77]
    refine ac' (and_ac hs3 (l2.neg.mono n3) (ht.mono (by omega)) _ ⟨fun e => h.no (heq.no (by simp only [lessM, List.headD_cons]; simp only [bnd, q2, q3, e, Option.bind_some, Option.bind_none])), fun v gs4 ic4 σ4 q4 l4 n4 hs4 hst4 => ?_⟩)
    simp only [go_sem, Tryd.results77]
    refine ac' (or_ac hs4 (l3.mono n4) l4 _ ⟨fun e => h.no (heq.no (by simp only [lessM, List.headD_cons]; simp only [bnd, q2, q3, q4, e, Option.bind_some, Option.bind_none])), fun t' gs5 ic5 σ5 q5 l5 n5 hs5 hst5 => ?_⟩)
    simp only [go_sem, w1, Tryd.results77]
    refine Wk.mask [0, 1, 2, 7, 13, 14] ⟨x.length - (j + 1), by omega, j + 1, t', gs5, ic5, hlt, rfl, ⟨fun e => heq.no (by simp only [lessM, List.headD_cons, List.tail_cons]; simp only [bnd, q2, q3, q4, q5, e, Option.bind_some]), fun r gs8 e => ?_⟩, l5, by omega, hs5, (((hst1.trans hst2).trans hst3).trans hst4).trans hst5, rfl⟩
    apply heq.yes
    simp only [lessM, List.headD_cons, List.tail_cons]
    simp only [bnd, q2, q3, q4, q5, e, Option.bind_some]
  · have hd : decide ((j : Int) < (x.length : Int)) = false := by simp; omega
    simp only [go_sem, hd, Tryd.results77]
    have e := heq.yes t gs1 (by rw [List.drop_eq_nil_of_le hge]; rfl)
    exact ⟨_, _, Weak.refl _ _ _ _, h.yes t gs1 ic1 _ e ht (by omega) hs1 hst1⟩
theorem le_ac (hs : Bs X G ic gs σ) {x y : List Int} (hx : LitL (X.first + gs.length) x) (hy : LitL (X.first + gs.length) y) (hl : x.length = y.length) (hx8 : x.length ≤ 64) (R : A → St → Prop)
    (h : Cb X G (bnd (lessM X.first y x (-1)) fun r => retM (-r)) LitR di ic gs σ R) : AC Tryd.prog G 78 [.ref X.ib 0, dL x, dL y] σ R := by
  refine ac_enter' mixed Tryd.func78 rfl Tryd.ntmps78 (by simp only [go_sem]) fun hbd => ?_
  simp only [List.length_cons, List.length_nil, Nat.reduceAdd, Nat.reduceSub, List.replicate_succ, List.replicate_zero, List.cons_append, List.nil_append]
  simp only [go_sem, Tryd.results78]
  refine ac' (less_ac hs hy hx hl.symm (by omega) _ ⟨fun e => h.no (by simp only [bnd, e, Option.bind_none]), fun r gs2 ic2 σ2 q2 l2 n2 hs2 hst2 => ?_⟩)
  have w3 : IntKind.i64.wrap (0 - r) = -r := by have := l2.2; have := hs2.small; rw [wrap64_id _ (by omega) (by omega)]; omega
  simp only [go_sem, w3, Tryd.results78]
  exact ⟨_, _, Weak.refl _ _ _ _, h.yes (-r) gs2 ic2 σ2 (by simp only [bnd, q2, Option.bind_some, retM]) l2.neg n2 hs2 hst2⟩
theorem add_ac (hs : Bs X G ic gs σ) {x y : List Int} (hx : LitL (X.first + gs.length) x) (hy : LitL (X.first + gs.length) y) (hl : x.length = y.length) (hx8 : x.length ≤ 64) (R : A → St → Prop)
    (h : Cb X G (sumM X.first x y (-1)) (LLR x.length) dL ic gs σ R) : AC Tryd.prog G 72 [.ref X.ib 0, dL x, dL y] σ R := by
  refine ac_enter' mixed Tryd.func72 rfl Tryd.ntmps72 (by simp only [go_sem]) fun hbd => ?_
  simp only [List.length_cons, List.length_nil, Nat.reduceAdd, Nat.reduceSub, List.replicate_succ, List.replicate_zero, List.cons_append, List.nil_append]
  simp only [go_sem, Tryd.results72]
  refine ac' (sum_ac hs hx hy hl hx8 (lit_m1 hs.good.one) _ ⟨h.no, fun r gs2 ic2 σ2 q2 l2 n2 hs2 hst2 => ?_⟩)
  simp only [go_sem, Tryd.results72]
  exact ⟨_, _, Weak.refl _ _ _ _, h.yes r gs2 ic2 σ2 q2 l2 n2 hs2 hst2⟩
theorem LitL.negs {n : Nat} {l : List Int} (h : LitL n l) : LitL n (l.map (- ·)) := fun z hz => by
  obtain ⟨u, hu, rfl⟩ := List.mem_map.1 hz
  exact (h u hu).neg
theorem sub_ac (hs : Bs X G ic gs σ) {x y : List Int} (hx : LitL (X.first + gs.length) x) (hy : LitL (X.first + gs.length) y) (hl : x.length = y.length) (hx8 : x.length ≤ 64) (R : A → St → Prop)
    (h : Cb X G (sumM X.first x (y.map (- ·)) 1) (LLR x.length) dL ic gs σ R) : AC Tryd.prog G 74 [.ref X.ib 0, dL x, dL y] σ R := by
  refine ac_enter' mixed Tryd.func74 rfl Tryd.ntmps74 (by simp only [go_sem]) fun hbd => ?_
  simp only [List.length_cons, List.length_nil, Nat.reduceAdd, Nat.reduceSub, List.replicate_succ, List.replicate_zero, List.cons_append, List.nil_append]
  simp only [go_sem, Tryd.results74]
  refine ac' (negs_ac hy hs.small (by omega) _ _ ?_)
  simp only [go_sem, Tryd.results74]
  refine ac' (sum_ac hs hx hy.negs (by simp [hl]) hx8 (lit_one hs.good.one) _ ⟨h.no, fun r gs2 ic2 σ2 q2 l2 n2 hs2 hst2 => ?_⟩)
  simp only [go_sem, Tryd.results74]
  exact ⟨_, _, Weak.refl _ _ _ _, h.yes r gs2 ic2 σ2 q2 l2 n2 hs2 hst2⟩
end
end Go.Proofs.YtkjlefahpdconaaDoor
end PartB6

section PartE15
/- The program's layout. -/
set_option linter.unusedSimpArgs false
set_option linter.unusedVariables false
set_option maxRecDepth 100000
namespace Go.Proofs.YtkjlefahpdconaaDoor
open Go Go.Ab

def markI (l : List Int) (bs : List Bool) : List Bool := l.foldl (fun bs i => bs.set i.toNat true) bs
def markIs (L : List (List Int)) (bs : List Bool) : List Bool := L.foldl (fun bs l => markI l bs) bs
theorem markI_len : ∀ (l : List Int) (bs : List Bool), (markI l bs).length = bs.length
  | [], bs => rfl
  | i :: l, bs => by
    have := markI_len l (bs.set i.toNat true)
    simp only [markI, List.foldl_cons] at this ⊢
    rw [this]; simp
theorem markIs_len : ∀ (L : List (List Int)) (bs : List Bool), (markIs L bs).length = bs.length
  | [], bs => rfl
  | l :: L, bs => by
    have := markIs_len L (markI l bs)
    simp only [markIs, List.foldl_cons] at this ⊢
    rw [this, markI_len]
theorem markI_snoc (l : List Int) (i : Int) (bs : List Bool) : markI (l ++ [i]) bs = (markI l bs).set i.toNat true := by simp [markI]
theorem markIs_snoc (L : List (List Int)) (l : List Int) (bs : List Bool) : markIs (L ++ [l]) bs = markI l (markIs L bs) := by simp [markIs]
theorem markI_at : ∀ (l : List Int) (bs : List Bool) (i : Nat), i < bs.length → (markI l bs).getD i false = (bs.getD i false || l.any fun x => x.toNat == i)
  | [], bs, i, hi => by simp [markI]
  | x :: l, bs, i, hi => by
    have := markI_at l (bs.set x.toNat true) i (by simpa using hi)
    simp only [markI, List.foldl_cons, List.any_cons] at this ⊢
    rw [this, getD_set]
    by_cases hx : x.toNat = i
    · rw [if_pos ⟨hx, hi⟩]; simp [hx]
    · rw [if_neg (fun h => hx h.1)]
      have : (x.toNat == i) = false := by simp [hx]
      rw [this, Bool.false_or]
theorem splice_boolsA {l : List Bool} {j : Nat} (x : Bool) (h : j < l.length) : (l.map fun x => A.d (.bool x)).take j ++ A.d (.bool x) :: (l.map fun x => A.d (.bool x)).drop (j + 1) = (l.set j x).map fun x => A.d (.bool x) := by
  rw [List.map_set, List.set_eq_take_append_cons_drop, if_pos (by simpa using h)]
theorem take_snoc {α : Type} {l : List α} {j : Nat} (d : α) (h : j < l.length) : l.take (j + 1) = l.take j ++ [l.getD j d] := by
  rw [List.take_add_one, List.getElem?_eq_getElem h, List.getD_eq_getElem?_getD, List.getElem?_eq_getElem h]; rfl
theorem falses_cells (n : Nat) : (List.replicate n [A.d (.bool false)]).flatten = (List.replicate n false).map fun x => A.d (.bool x) := by
  induction n with
  | zero => rfl
  | succ n ih => rw [List.replicate_succ, List.flatten_cons, ih, List.replicate_succ, List.map_cons]; rfl
theorem wOf_drop (cs : List Cel) (j : Nat) : ((cs.drop j).headD cel0).w = wOf cs j := by
  simp only [wOf, List.getD_eq_getElem?_getD, ← List.head?_drop, List.headD_eq_head?_getD]
theorem placeL_snoc (b : Bool) : ∀ (bs : List Bool) (cs : List Cel) (n : Nat), placeL (bs ++ [b]) cs n = ((placeL bs cs n).1 ++ [if b = true then (((placeL bs cs n).2 + 1 : Nat) : Int) else 0], if b = true then (placeL bs cs n).2 + (wOf cs bs.length).toNat else (placeL bs cs n).2)
  | [], cs, n => by cases b <;> simp [placeL, wOf_zero]
  | true :: bs, cs, n => by
    simp only [List.cons_append, placeL, placeL_snoc b bs cs.tail, List.length_cons, wOf_succ]
  | false :: bs, cs, n => by
    simp only [List.cons_append, placeL, placeL_snoc b bs cs.tail, List.length_cons, wOf_succ]
theorem placeL_len (bs : List Bool) (cs : List Cel) (n : Nat) : (placeL bs cs n).1.length = bs.length := by
  induction bs generalizing cs n with
  | nil => rfl
  | cons b bs ih => cases b <;> simp [placeL, ih]
section
variable {G : Glob}
set_option maxHeartbeats 8000000 in
theorem place_ac (cs : List Cel) (hcs : cs.length ≤ 32) (L : List (List Int)) (hL : L.length ≤ 1000) (hLl : ∀ l ∈ L, l.length ≤ 1000) (hLi : ∀ l ∈ L, ∀ i ∈ l, 0 ≤ i ∧ i < cs.length) (n : Nat) (hn : n ≤ 1000)
    (hw : ∀ i, (markIs L (List.replicate cs.length false)).getD i false = true → 1 ≤ wOf cs i ∧ wOf cs i ≤ 8) {ic iv : Nat} (hne : ic ≠ iv) (σ : St) (hc : σ[ic]? = some (some (.cells [.d (celsD cs)]))) (hv : σ[iv]? = some (some (.cells [dn n]))) (R : A → St → Prop)
    (h : R (dL (placeL (markIs L (List.replicate cs.length false)) cs n).1) (σ.set iv (some (.cells [dn (placeL (markIs L (List.replicate cs.length false)) cs n).2])))) : AC Tryd.prog G 53 [.d (llD L), .ref ic 0, .ref iv 0] σ R := by
  have hlc := lt_of_some hc
  have hlv := lt_of_some hv
  refine ac_enter' mixed Tryd.func53 rfl Tryd.ntmps53 (by simp only [go_sem]) fun hbd => ?_
  simp only [List.length_cons, List.length_nil, Nat.reduceAdd, Nat.reduceSub, List.replicate_succ, List.replicate_zero, List.cons_append, List.nil_append]
  simp only [llD, celsD, go_sem, live_of hc, objK_of hc, List.length_map, Int.toNat_natCast, falses_cells]
  refine ⟨⟨by omega, by omega, by omega, by omega⟩, ?_⟩
  refine aw_loop (fun m fr st => ∃ (j : Nat), j ≤ L.length ∧ m = L.length - j ∧ fr = [.any, .ref ic 0, .ref iv 0, .any, .any, .rs σ.length 1 0 cs.length (some 4), .any, .any, .any, .any, .any, .any, .any, .any, .any, .any, .d (.sl 1 (L.map isD)), dn L.length, dn j, .any, .any, .any, .any, .any, .any, .any, .any, .any, .any, .any, .any, .any, .any, .any, .any, .any, .any, .any, .any, .any, .any, .any, .any, .any, .any, .any, .any, .any, .any, .any, .any, .any, .any, .any, .any, .any, .any, .any] ∧
    st = σ ++ [some (.cells ((markIs (L.take j) (List.replicate cs.length false)).map fun x => A.d (.bool x)))]) L.length _ (Wk.mask [1, 2, 5, 16, 17, 18] ⟨0, by omega, rfl, rfl, rfl⟩) ?_
  rintro m fr st ⟨j, hj, hm, rfl, rfl⟩
  rcases Nat.lt_or_ge j L.length with hlt | hge
  · have hd : decide ((j : Int) < (L.length : Int)) = true := by simp; omega
    have e1 : List.getD (List.map isD L) j default = isD (L.getD j []) := getD_mapD hlt
    have w1 := wrapS j (by omega)
    have hml := getD_mem [] hlt
    have hts := take_snoc [] hlt
    obtain ⟨l, hll⟩ : ∃ l, L.getD j [] = l := ⟨_, rfl⟩
    rw [hll] at e1 hml hts
    have hl1 := hLl l hml
    have hl2 := hLi l hml
    obtain ⟨bs, hbs⟩ : ∃ bs, markIs (L.take j) (List.replicate cs.length false) = bs := ⟨_, rfl⟩
    have hbl : bs.length = cs.length := by rw [← hbs, markIs_len]; simp
    rw [hbs]
    simp only [go_sem, hd, e1, isD, List.length_map, Int.toNat_natCast, Tryd.results53]
    refine ⟨⟨by omega, by omega⟩, ?_⟩
    refine aw_loop (fun m fr st => ∃ (k : Nat), k ≤ l.length ∧ m = l.length - k ∧ fr = [.any, .ref ic 0, .ref iv 0, .any, .any, .rs σ.length 1 0 cs.length (some 4), .any, .any, .any, .any, .any, .any, .any, .any, .any, .any, .d (.sl 1 (L.map isD)), dn L.length, dn j, .any, .any, .any, .d (.sl 1 (l.map iD)), dn l.length, dn k, .any, .any, .any, .any, .any, .any, .any, .any, .any, .any, .any, .any, .any, .any, .any, .any, .any, .any, .any, .any, .any, .any, .any, .any, .any, .any, .any, .any, .any, .any, .any, .any, .any] ∧
      st = σ ++ [some (.cells ((markI (l.take k) bs).map fun x => A.d (.bool x)))]) l.length _ (Wk.mask [1, 2, 5, 16, 17, 18, 22, 23, 24] ⟨0, by omega, rfl, rfl, rfl⟩) ?_
    rintro m fr st ⟨k, hk, hm, rfl, rfl⟩
    rcases Nat.lt_or_ge k l.length with hlt2 | hge2
    · have hd2 : decide ((k : Int) < (l.length : Int)) = true := by simp; omega
      have e2 := getD_isD hlt2
      have w2 := wrapS k (by omega)
      have hts2 := take_snoc 0 hlt2
      have hi := hl2 _ (getD_mem 0 hlt2)
      generalize l.getD k 0 = i at *
      have hml2 : (markI (l.take k) bs).length = cs.length := by rw [markI_len, hbl]
      have hset := splice_boolsA (l := markI (l.take k) bs) (j := i.toNat) true (by omega)
      rw [← markI_snoc, ← hts2] at hset
      simp only [go_sem, hd2, e2, w2, List.length_map, Int.toNat_natCast, Nat.mul_one, Nat.zero_add, hset, hml2, Tryd.results53]
      exact ⟨⟨by omega, by omega⟩, ⟨by omega, by omega⟩, by omega, Wk.mask [1, 2, 5, 16, 17, 18, 22, 23, 24] ⟨l.length - (k + 1), by omega, k + 1, hlt2, rfl, rfl, rfl⟩⟩
    · have hd2 : decide ((k : Int) < (l.length : Int)) = false := by simp; omega
      rw [List.take_of_length_le hge2]
      simp only [go_sem, hd2, w1, Tryd.results53]
      exact Wk.mask [1, 2, 5, 16, 17, 18] ⟨L.length - (j + 1), by omega, j + 1, hlt, rfl, rfl, by rw [hts, markIs_snoc, hbs]⟩
  have hd : decide ((j : Int) < (L.length : Int)) = false := by simp; omega
  rw [List.take_of_length_le hge]
  obtain ⟨bs, hbs⟩ : ∃ bs, markIs L (List.replicate cs.length false) = bs := ⟨_, rfl⟩
  have hbl : bs.length = cs.length := by rw [← hbs, markIs_len]; simp
  rw [hbs] at hw h ⊢
  simp only [celsD, go_sem, hd, live_old hc, objK_old hc, List.length_map, Int.toNat_natCast, zeros_cells, Tryd.results53]
  refine ⟨⟨by omega, by omega, by omega, by omega⟩, ?_⟩
  refine aw_loop (fun m fr st => ∃ (j : Nat), j ≤ bs.length ∧ m = bs.length - j ∧ fr = [.any, .ref ic 0, .ref iv 0, .any, .any, .any, .any, .any, .any, .any, .rs (σ.length + 1) 1 0 cs.length (some 3), .any, .any, .any, .any, .any, .any, .any, .any, .any, .any, .any, .any, .any, .any, .any, .any, .any, .any, .any, .any, .any, .any, .any, .any, .any, .rs σ.length 1 0 cs.length (some 4), dn cs.length, dn j, .any, .any, .any, .any, .any, .any, .any, .any, .any, .any, .any, .any, .any, .any, .any, .any, .any, .any, .any] ∧
    st = σ.set iv (some (.cells [dn (placeL (bs.take j) cs n).2])) ++ [some (.cells (bs.map fun x => A.d (.bool x))), some (.cells ((part (placeL (bs.take j) cs n).1 cs.length).map fun x => A.d (iD x)))]) bs.length _
    (Wk.mask [1, 2, 10, 36, 37, 38] ⟨0, by omega, rfl, rfl, by
      have : σ.set iv (some (.cells [dn n])) = σ := by
        apply List.ext_getElem?
        intro i
        rw [List.getElem?_set]
        by_cases e : iv = i
        · subst e; rw [if_pos rfl, if_pos hlv, hv]
        · rw [if_neg e]
      simp only [List.take_zero, placeL, this]⟩) ?_
  rintro m fr st ⟨j, hj, hm, rfl, rfl⟩
  obtain ⟨ps, hps⟩ : ∃ ps, (placeL (bs.take j) cs n).1 = ps := ⟨_, rfl⟩
  obtain ⟨v, hvv⟩ : ∃ v, (placeL (bs.take j) cs n).2 = v := ⟨_, rfl⟩
  have hpl : ps.length = j := by rw [← hps, placeL_len, List.length_take]; omega
  have hvb : v ≤ n + 8 * 32 := by
    have := place_bound (bs.take j) cs n fun i hi => by
      refine (hw i ?_).2
      rw [List.getD_eq_getElem?_getD, List.getElem?_take] at hi
      split at hi
      · rw [List.getD_eq_getElem?_getD]; exact hi
      · cases hi
    rw [hvv, List.length_take] at this
    omega
  obtain ⟨τ, hτ⟩ : ∃ τ, τ = σ.set iv (some (.cells [dn v])) := ⟨_, rfl⟩
  have hτl : τ.length = σ.length := by rw [hτ, List.length_set]
  have hcτ : τ[ic]? = some (some (.cells [.d (celsD cs)])) := by rw [hτ, set_other (Ne.symm hne)]; exact hc
  have hvτ : τ[iv]? = some (some (.cells [dn v])) := by rw [hτ]; exact set_same hv
  have hbd2 : Bd τ.length τ := by rw [hτl, hτ]; exact hbd.set iv (fun o ho => by injection ho with ho; subst ho; rfl)
  rw [hps, hvv, ← hτ, ← hτl]
  rcases Nat.lt_or_ge j bs.length with hlt | hge
  · have hd : decide ((j : Int) < (cs.length : Int)) = true := by simp; omega
    have e1 := getD_boolsA (l := bs) (k := j) hlt
    have w1 := wrapS j (by omega)
    have hsn := placeL_snoc (bs.getD j false) (bs.take j) cs n
    have hln : (bs.take j).length = j := by rw [List.length_take]; omega
    rw [← take_snoc false hlt, hps, hvv, hln] at hsn
    cases hq : bs.getD j false with
    | false =>
      rw [hq] at e1 hsn
      simp only [Bool.false_eq_true, if_false] at hsn
      have hp2 : part (ps ++ [0]) cs.length = part ps cs.length := by
        simp only [part, List.length_append, List.length_cons, List.length_nil]
        obtain ⟨k, hk⟩ : ∃ k, cs.length - ps.length = k + 1 := ⟨cs.length - ps.length - 1, by omega⟩
        rw [hk, show cs.length - (ps.length + (0 + 1)) = k by omega, List.replicate_succ]; simp
      simp only [go_sem, hd, e1, w1, List.length_map, Int.toNat_natCast, Nat.mul_one, Nat.zero_add, hbl, Tryd.results53]
      refine ⟨⟨by omega, by omega⟩, by omega, ?_⟩
      rw [hτl]
      exact Wk.mask [1, 2, 10, 36, 37, 38] ⟨cs.length - (j + 1), by omega, j + 1, by omega, rfl, rfl, by rw [hsn, hp2, hτ]⟩
    | true =>
      rw [hq] at e1 hsn
      simp only [if_true] at hsn
      obtain ⟨hw1, hw2⟩ := hw j hq
      have w2 : IntKind.i64.wrap ((v : Int) + 1) = ((v + 1 : Nat) : Int) := wrapS v (by omega)
      have w3 : IntKind.i64.wrap ((v : Int) + wOf cs j) = ((v + (wOf cs j).toNat : Nat) : Int) := by rw [wrap64_id _ (by omega) (by omega)]; omega
      have hset := part_cells (acc := ps) (n := cs.length) (j := j) hpl (by omega) ((v + 1 : Nat) : Int)
      have hpl2 : (part ps cs.length).length = cs.length := part_len (by omega)
      have e2 := celD_at (l := cs) (j := j) (by omega)
      simp only [celD] at e2
      have e3 : (cs.getD j cel0).w = wOf cs j := rfl
      rw [e3] at e2
      simp only [go_sem, hd, e1, List.length_map, Int.toNat_natCast, Nat.mul_one, Nat.zero_add, hbl, live_old hvτ, objK_old hvτ, w2, hset, hpl2, Tryd.results53]
      refine ⟨⟨by omega, by omega⟩, by omega, ⟨by omega, by omega⟩, by omega, ?_⟩
      refine aw_plan (.tk 8 0 <| .done) (by kernel_rfl) ?_
      simp only [celsD, go_sem, live_old hvτ, objK_old hvτ, live_old hcτ, objK_old hcτ, set_old (lt_of_some hvτ), List.length_map, Int.toNat_natCast, e2, w1, w3, Tryd.results53]
      refine ⟨⟨by omega, by omega⟩, ?_⟩
      rw [hτl]
      exact Wk.mask [1, 2, 10, 36, 37, 38] ⟨cs.length - (j + 1), by omega, j + 1, by omega, rfl, rfl, by rw [hsn, hτ, List.set_set]⟩
  · have hd : decide ((j : Int) < (cs.length : Int)) = false := by simp; omega
    rw [List.take_of_length_le hge] at hps hvv
    rw [part_full (by omega)]
    simp only [go_sem, hd, Tryd.results53]
    refine ret_frz 1 1 0 (ps.map iD) rfl (lies_ints _) ?_
    simp only [go_sem, List.length_map, show ps.length = cs.length by omega, and_self, if_true]
    refine ret_d hbd2 ?_
    rw [hps, hvv] at h
    rw [hτ]; exact h
end
end Go.Proofs.YtkjlefahpdconaaDoor
end PartE15

section PartE16
/- The program's layout, whole. -/
set_option linter.unusedSimpArgs false
set_option linter.unusedVariables false
set_option maxRecDepth 100000
namespace Go.Proofs.YtkjlefahpdconaaDoor
open Go Go.Ab

theorem idxL_any (bs : List Bool) (i : Nat) : ∀ n, (idxL bs n).any (fun x => x.toNat == i) = (decide (i < n) && bs.getD i false)
  | 0 => by simp [idxL]
  | n + 1 => by
    rw [idxL_succ, List.any_append, idxL_any bs i n]
    by_cases h : n = i
    · subst h
      cases hb : bs.getD n false <;> simp
    · have e1 : decide (i < n + 1) = decide (i < n) := by apply decide_eq_decide.2; omega
      rw [e1]
      have : ((if bs.getD n false = true then [(n : Int)] else []).any fun x => x.toNat == i) = false := by
        split
        · simp [h]
        · rfl
      rw [this, Bool.or_false]
theorem idxL_mem {bs : List Bool} {n : Nat} {x : Int} (h : x ∈ idxL bs n) : 0 ≤ x ∧ x < n ∧ bs.getD x.toNat false = true := by
  simp only [idxL, List.mem_map, List.mem_filter, List.mem_range] at h
  obtain ⟨i, ⟨h1, h2⟩, rfl⟩ := h
  exact ⟨by simp, by simpa using h1, by simpa using h2⟩
theorem bools_ext {l m : List Bool} (hl : l.length = m.length) (h : ∀ i, i < l.length → l.getD i false = m.getD i false) : l = m := by
  apply List.ext_getElem hl
  intro i h1 h2
  have := h i h1
  simpa [List.getD_eq_getElem?_getD, h1, h2] using this
section
variable {cs : List Cel} {hy go : Ex}
theorem Enc.marks (E : Enc cs hy go) {o : Int} (ho : o = 2 ∨ o = 3) : markIs [idxL (supB o hy) 32, idxL (supB o go) 32] (List.replicate cs.length false) = occB cs hy go o := by
  have hl := E.len
  refine bools_ext (by rw [markIs_len, occB_len]; simp) fun i hi => ?_
  rw [markIs_len] at hi
  simp only [List.length_replicate] at hi
  rw [occB_at hi]
  simp only [markIs, List.foldl_cons, List.foldl_nil]
  rw [markI_at _ _ _ (by rw [markI_len]; simpa using hi), markI_at _ _ _ (by simpa using hi), idxL_any, idxL_any, supB_at o hy (by omega), supB_at o go (by omega), List.any_append]
  have : (List.replicate cs.length false).getD i false = false := by
    rw [List.getD_eq_getElem?_getD, List.getElem?_replicate]; split <;> rfl
  rw [this]
  have : decide (i < 32) = true := by simp; omega
  rw [this]; simp
theorem Enc.in_range (E : Enc cs hy go) {o : Int} (ho : o = 2 ∨ o = 3) : ∀ l ∈ [idxL (supB o hy) 32, idxL (supB o go) 32], ∀ i ∈ l, 0 ≤ i ∧ i < cs.length := by
  have key : ∀ e : Ex, (∀ n ∈ e.lvs, n ∈ hy.lvs ++ go.lvs) → ∀ i ∈ idxL (supB o e) 32, 0 ≤ i ∧ i < cs.length := fun e he i hi => by
    obtain ⟨h1, h2, h3⟩ := idxL_mem hi
    rw [supB_at o e (by omega), List.any_eq_true] at h3
    obtain ⟨n, hn, h3⟩ := h3
    simp only [Bool.and_eq_true, beq_iff_eq] at h3
    have := (E.leaf (he n hn) (by rw [h3.1]; exact ho)).2.1
    omega
  intro l hl
  simp only [List.mem_cons, List.not_mem_nil, or_false] at hl
  rcases hl with rfl | rfl
  · exact key hy fun n hn => List.mem_append_left _ hn
  · exact key go fun n hn => List.mem_append_right _ hn
end
theorem enc_of {cs : List Cel} {c : Cnd} (h : encR cs c = true) : Enc cs c.hyp c.goal := by
  obtain ⟨h1, ⟨h2, h3⟩, ⟨h4, h5⟩, h6, h7⟩ := encR_iff.1 h
  exact ⟨h1, h2, h3, h4, h5, h6, h7⟩
theorem idxL_len32 (bs : List Bool) : (idxL bs 32).length ≤ 1000 := Nat.le_trans (idxL_len bs 32) (by omega)
set_option maxHeartbeats 8000000 in
theorem layout_ac (cs : List Cel) (c : Cnd) (hok : c.Ok) (E : Enc cs c.hyp c.goal) (σ : St) (G : Glob) (hG : G.g 0 = some masksD) (R : A → St → Prop) (h : R (.tup [dL (lO cs c.hyp c.goal), dL (lN cs c.hyp c.goal), dn (firstV cs c.hyp c.goal)]) σ) : AC Tryd.prog G 34 [.d (celsD cs), .d (cndD c)] σ R := by
  have hcl := E.len
  refine ac_enter' mixed Tryd.func34 rfl Tryd.ntmps34 (by simp only [go_sem]) fun hbd => ?_
  simp only [List.length_cons, List.length_nil, Nat.reduceAdd, Nat.reduceSub, List.replicate_succ, List.replicate_zero, List.cons_append, List.nil_append]
  simp only [celsD, cndD, go_sem, Tryd.results34]
  rw [← Ex.d_eq]
  refine ac' (support_ac c.hyp hok.hyp cs hcl E.hf E.ho _ _ hG _ ?_)
  rw [Ex.d_eq]
  simp only [celsD, cndD, go_sem, Tryd.results34]
  rw [← Ex.d_eq]
  refine ac' (support_ac c.goal hok.goal cs hcl E.gf E.go _ _ hG _ ?_)
  rw [Ex.d_eq]
  have hm3 := E.marks (o := 3) (.inr rfl)
  have hm2 := E.marks (o := 2) (.inl rfl)
  have hr3 := E.in_range (o := 3) (.inr rfl)
  have hr2 := E.in_range (o := 2) (.inl rfl)
  have hl3 : ∀ l ∈ [idxL (supB 3 c.hyp) 32, idxL (supB 3 c.goal) 32], l.length ≤ 1000 := fun l hl => by
    simp only [List.mem_cons, List.not_mem_nil, or_false] at hl
    rcases hl with rfl | rfl <;> exact idxL_len32 _
  have hl2 : ∀ l ∈ [idxL (supB 2 c.hyp) 32, idxL (supB 2 c.goal) 32], l.length ≤ 1000 := fun l hl => by
    simp only [List.mem_cons, List.not_mem_nil, or_false] at hl
    rcases hl with rfl | rfl <;> exact idxL_len32 _
  have hf1 := E.first_le
  have hp1 := E.placedN.le
  generalize idxL (supB 3 c.hyp) 32 = a3 at *
  generalize idxL (supB 3 c.goal) 32 = b3 at *
  generalize idxL (supB 2 c.hyp) 32 = a2 at *
  generalize idxL (supB 2 c.goal) 32 = b2 at *
  simp only [isD, celsD, cndD, go_sem, Tryd.results34]
  refine ac' (ac_frz 3 1 0 [isD a3, isD b3] rfl (lies_map isD (fun _ => ⟨rfl, rfl⟩) [a3, b3]) ?_)
  simp only [go_sem, List.length_cons, List.length_nil, and_self, if_true, List.set_cons_succ, List.set_cons_zero]
  refine place_ac cs hcl [a3, b3] (by simp) hl3 hr3 1 (by omega) (fun i hi => by rw [hm3] at hi; exact E.width (.inr rfl) hi) (by omega) _ (by simp [celsD]) (by simp) _ ?_
  rw [hm3]
  simp only [isD, celsD, cndD, go_sem, List.set_cons_succ, List.set_cons_zero, Tryd.results34]
  refine ac' (ac_frz 4 1 0 [isD a2, isD b2] rfl (lies_map isD (fun _ => ⟨rfl, rfl⟩) [a2, b2]) ?_)
  simp only [go_sem, List.length_cons, List.length_nil, and_self, if_true, List.set_cons_succ, List.set_cons_zero]
  refine place_ac cs hcl [a2, b2] (by simp) hl2 hr2 (layO cs c.hyp c.goal).2 (by omega) (fun i hi => by rw [hm2] at hi; exact E.width (.inl rfl) hi) (by omega) _ (by simp [celsD]) (by simp [layO]) _ ?_
  rw [hm2]
  simp only [isD, celsD, cndD, go_sem, List.set_cons_succ, List.set_cons_zero, Tryd.results34]
  refine aw_plan (.tk 6 0 <| .done) (by kernel_rfl) ?_
  simp only [dL, isD, go_sem, Tryd.results34]
  exact ret_bd hbd rfl h
end Go.Proofs.YtkjlefahpdconaaDoor
end PartE16

section PartB7
/- The builder: products; conditional expressions. -/
set_option linter.unusedSimpArgs false
set_option linter.unusedVariables false
set_option maxRecDepth 100000
namespace Go.Proofs.YtkjlefahpdconaaDoor
open Go Go.Ab

/-- The same part of a product, place by place: k places from j on. -/
def partJ (first : Nat) (x : List Int) (i : Nat) (b : Int) : Nat → Nat → Gm (List Int)
  | 0, _ => retM []
  | k + 1, j => if i ≤ j then bnd (andM first (x.getD (j - i) 0) b) fun r => bnd (partJ first x i b k (j + 1)) fun rs => retM (r :: rs) else bnd (partJ first x i b k (j + 1)) fun rs => retM (-1 :: rs)
theorem partJ_ge (first : Nat) (x : List Int) (i : Nat) (b : Int) : ∀ (k j : Nat), i ≤ j → j - i + k ≤ x.length → partJ first x i b k j = andsM first b ((x.drop (j - i)).take k)
  | 0, j, h, _ => by simp [partJ, andsM]
  | k + 1, j, h, h2 => by
    have ih := partJ_ge first x i b k (j + 1) (by omega) (by omega)
    rw [partJ, if_pos h, ih, drop_getD (j := j - i) 0 (by omega), List.take_succ_cons, andsM, show j + 1 - i = j - i + 1 by omega]
theorem bnd_assoc {α β γ : Type} (m : Gm α) (f : α → Gm β) (g : β → Gm γ) : bnd (bnd m f) g = bnd m fun a => bnd (f a) g := by
  funext gs
  simp only [bnd]
  cases m gs with
  | none => rfl
  | some p => rfl
theorem ret_bnd {α β : Type} (a : α) (f : α → Gm β) : bnd (retM a) f = f a := rfl
theorem bnd_ret {α : Type} (m : Gm α) : bnd m (fun a => retM a) = m := by
  funext gs
  simp only [bnd, retM]
  cases m gs with
  | none => rfl
  | some p => rfl
theorem partJ_lt (first : Nat) (x : List Int) (i : Nat) (b : Int) : ∀ (k j : Nat), j ≤ i → j + k ≤ x.length → partJ first x i b k j = bnd (andsM first b (x.take (k - (i - j)))) fun rs => retM (List.replicate (min (i - j) k) (-1) ++ rs)
  | 0, j, h, _ => by simp [partJ, andsM, ret_bnd]
  | k + 1, j, h, h2 => by
    rcases Nat.lt_or_ge j i with hlt | hge
    · have ih := partJ_lt first x i b k (j + 1) (by omega) (by omega)
      rw [partJ, if_neg (by omega), ih, bnd_assoc]
      simp only [ret_bnd]
      rw [show k + 1 - (i - j) = k - (i - (j + 1)) by omega, show min (i - j) (k + 1) = min (i - (j + 1)) k + 1 by omega, List.replicate_succ]
      rfl
    · obtain rfl : j = i := by omega
      rw [partJ_ge first x j b (k + 1) j (Nat.le_refl _) (by omega)]
      simp only [Nat.sub_self, List.drop_zero, Nat.sub_zero, Nat.zero_min, List.replicate_zero, List.nil_append]
      rw [bnd_ret]
theorem partJ_eq (first : Nat) (x : List Int) (i : Nat) (b : Int) : partJ first x i b x.length 0 = partM first x i b := by
  rw [partJ_lt first x i b x.length 0 (by omega) (by omega), partM]; rfl
theorem repl_succ (n : Nat) (x : Int) : List.replicate (n + 1) x = List.replicate n x ++ [x] := List.replicate_succ'
section
variable {X : Bx} {G : Glob} {ic ic' : Nat} {gs gs' : List Gt} {σ σ' : St}
set_option maxHeartbeats 8000000 in
theorem mul_ac (hs : Bs X G ic gs σ) {x y : List Int} (hx : LitL (X.first + gs.length) x) (hy : LitL (X.first + gs.length) y) (hl : x.length = y.length) (hx8 : x.length ≤ 64) (R : A → St → Prop)
    (h : Cb X G (mulM X.first x y 0 (List.replicate x.length (-1))) (LLR x.length) dL ic gs σ R) : AC Tryd.prog G 75 [.ref X.ib 0, dL x, dL y] σ R := by
  have hiw : X.iw < σ.length := lt_of_some hs.bo.w
  have hic : ic < σ.length := lt_of_some hs.bo.c
  have hib : X.ib < σ.length := lt_of_some hs.b
  have h00 := hs.since.keep.1
  refine ac_enter' mixed Tryd.func75 rfl Tryd.ntmps75 (by simp only [go_sem]) fun hbd => ?_
  simp only [List.length_cons, List.length_nil, Nat.reduceAdd, Nat.reduceSub, List.replicate_succ, List.replicate_zero, List.cons_append, List.nil_append]
  simp only [dL, isD, go_sem, List.length_map, Int.toNat_natCast, zeros_cells]
  refine ⟨⟨by omega, by omega, by omega, by omega⟩, ?_⟩
  refine aw_loop (fun m fr st => ∃ (j : Nat), j ≤ x.length ∧ m = x.length - j ∧ fr = [.ref X.ib 0, .d (.sl 1 (x.map iD)), .d (.sl 1 (y.map iD)), .any, .any, .any, .any, .rs σ.length 1 0 x.length (some 3), .any, .any, .any, .any, .any, .any, .any, .any, dn x.length, dn j, .any, .any, .any, .any, .any, .any, .any, .any, .any, .any, .any, .any, .any, .any, .any, .any, .any, .any, .any, .any, .any, .any, .any, .any, .any, .any, .any, .any, .any, .any, .any, .any, .any, .any, .any, .any, .any, .any, .any, .any, .any, .any, .any, .any, .any, .any, .any] ∧ st = σ ++ [some (.cells ((part (List.replicate j (-1)) x.length).map fun x => A.d (iD x)))]) x.length _
    (Wk.mask [0, 1, 2, 7, 16, 17] ⟨0, by omega, rfl, rfl, rfl⟩) ?_
  rintro m fr st ⟨j, hj, hm, rfl, rfl⟩
  rcases Nat.lt_or_ge j x.length with hlt | hge
  · have hd : decide ((j : Int) < (x.length : Int)) = true := by simp; omega
    have w1 := wrapS j (by omega)
    have hset := part_cells (acc := List.replicate j (-1)) (n := x.length) (j := j) (by simp) hlt (-1)
    have hpl : (part (List.replicate j (-1)) x.length).length = x.length := part_len (by simp; omega)
    rw [← repl_succ] at hset
    simp only [go_sem, hd, w1, List.length_map, Int.toNat_natCast, Nat.mul_one, Nat.zero_add, hset, hpl, Tryd.results75]
    exact ⟨⟨by omega, by omega⟩, hlt, Wk.mask [0, 1, 2, 7, 16, 17] ⟨x.length - (j + 1), by omega, j + 1, hlt, rfl, rfl, rfl⟩⟩
  have hd : decide ((j : Int) < (x.length : Int)) = false := by simp; omega
  obtain rfl : j = x.length := by omega
  rw [part_full (by simp)]
  simp only [go_sem, hd, List.length_map, Tryd.results75]
  refine aw_loop (fun m fr st => ∃ (i : Nat) (acc : List Int) (gs1 : List Gt) (ic1 : Nat), i ≤ y.length ∧ m = y.length - i ∧
    After (mulM X.first x y 0 (List.replicate x.length (-1)) gs) id (mulM X.first x (y.drop i) i acc gs1) ∧ LL x.length acc (X.first + gs1.length) ∧ gs.length ≤ gs1.length ∧
    Bs X G ic1 gs1 st ∧ Stp X.iw ic σ ic1 st ∧
    fr = [.ref X.ib 0, .d (.sl 1 (x.map iD)), .d (.sl 1 (y.map iD)), .any, .any, .any, .any, dL acc, .any, .any, .any, .any, .any, .any, .any, .any, .any, .any, .any, .any, .any, .any, .any, .any, .any, dn y.length, dn i, .any, .any, .any, .any, .any, .any, .any, .any, .any, .any, .any, .any, .any, .any, .any, .any, .any, .any, .any, .any, .any, .any, .any, .any, .any, .any, .any, .any, .any, .any, .any, .any, .any, .any, .any, .any, .any, .any]) y.length _ ?_ ?_
  · refine Wk.frz 0 1 0 ((List.replicate x.length (-1)).map iD) rfl (lies_ints _) ?_
    simp only [go_sem, List.length_map, List.length_replicate, List.set_cons_zero, and_self, if_true]
    exact Wk.mask [0, 1, 2, 7, 25, 26] ⟨0, List.replicate x.length (-1), gs, ic, by omega, rfl, ⟨fun e => e, fun rs gs2 e => e⟩, ⟨by simp, fun z hz => by rw [List.mem_replicate] at hz; rw [hz.2]; exact lit_m1 hs.good.one⟩, Nat.le_refl _, hs.app _, Stp.app _ _, rfl⟩
  rintro m fr st ⟨i, acc, gs1, ic1, hi, hm, heq, hacc, hgl, hs1, hst1, rfl⟩
  have h8 := hs1.small
  rcases Nat.lt_or_ge i y.length with hlt | hge
  · have hd : decide ((i : Int) < (y.length : Int)) = true := by simp; omega
    have w1 := wrapS i (by omega)
    have hyb : Lit (X.first + gs1.length) (y.getD i 0) := (hy _ (getD_mem 0 (by omega))).mono (by omega)
    have e2 := getD_isD (l := y) (j := i) (by omega)
    rw [drop_getD (l := y) 0 (by omega)] at heq
    generalize y.getD i 0 = b at *
    have hpho := part_ho x i b hs1.good (hx.mono (by omega)) hyb
    have hst1l := hst1.keep.1
    simp only [dL, isD, go_sem, hd, List.length_map, Int.toNat_natCast, zeros_cells, Tryd.results75]
    refine ⟨⟨by omega, by omega, by omega, by omega⟩, ?_⟩
    obtain ⟨L, hL⟩ : ∃ L, L = st.length := ⟨_, rfl⟩
    refine aw_loop (fun m fr st2 => ∃ (j : Nat) (p : List Int) (gs2 : List Gt) (ic2 : Nat), j ≤ x.length ∧ m = x.length - j ∧ p.length = j ∧
      After (partJ X.first x i b x.length 0 gs1) (p ++ ·) (partJ X.first x i b (x.length - j) j gs2) ∧ gs1.length ≤ gs2.length ∧
      Bs X G ic2 gs2 st2 ∧ Stp X.iw ic1 st ic2 st2 ∧ Lo L (part p x.length) ic2 st2 ∧
      fr = [.ref X.ib 0, .d (.sl 1 (x.map iD)), .d (.sl 1 (y.map iD)), .any, .any, .any, .any, .d (.sl 1 (acc.map iD)), .any, dn i, .rs L 1 0 x.length (some 3), .any, .any, .any, .any, .any, .any, .any, .any, .any, .any, .any, .any, .any, .any, dn y.length, dn i, .any, .any, .any, .any, .any, .any, dn x.length, dn j, .any, .any, .any, .any, .any, .any, .any, .any, .any, .any, .any, .any, .any, .any, .any, .any, .any, .any, .any, .any, .any, .any, .any, .any, .any, .any, .any, .any, .any, .any]) x.length _ ?_ ?_
    · rw [hL]
      have := lt_of_some hs1.bo.c
      exact Wk.mask [0, 1, 2, 7, 9, 10, 25, 26, 33, 34] ⟨0, [], gs1, ic1, by omega, rfl, rfl, ⟨fun e => e, fun rs gs2 e => e⟩, Nat.le_refl _, hs1.app _, Stp.app _ _, ⟨by simp, by omega⟩, rfl⟩
    rintro m fr st2 ⟨j, p, gs2, ic2, hj, hm, hp, heq2, hgl2, hs2, hst2, hlo, rfl⟩
    have h82 := hs2.small
    have hno : partJ X.first x i b (x.length - j) j gs2 = none → X.Q := fun e => h.no (heq.no (by rw [mulM]; have := heq2.no e; rw [partJ_eq] at this; simp only [bnd, this, Option.bind_none]))
    have hn1 : L ≠ X.iw := by omega
    have hn2 : L ≠ X.ib := by omega
    rcases Nat.lt_or_ge j x.length with hlt2 | hge2
    · have hd2 : decide ((j : Int) < (x.length : Int)) = true := by simp; omega
      have w2 := wrapS j (by omega)
      have hset := part_cells (acc := p) (n := x.length) (j := j) hp hlt2 (-1)
      have hpl : (part p x.length).length = x.length := part_len (by omega)
      have hpl2 : (part (p ++ [-1]) x.length).length = x.length := part_len (by simp; omega)
      have hlo1 : Lo L (part (p ++ [-1]) x.length) ic2 (st2.set L (some (.cells ((part (p ++ [-1]) x.length).map fun x => A.d (iD x))))) := ⟨set_same hlo.at_, hlo.ne⟩
      have hs21 := hs2.set (i := L) (by omega) hlo.ne hn2 hn1 (some (.cells ((part (p ++ [-1]) x.length).map fun x => A.d (iD x))))
      have hst21 := hst2.set (i := L) (by omega) (some (.cells ((part (p ++ [-1]) x.length).map fun x => A.d (iD x))))
      have hpj : ∀ k, x.length - j = k + 1 → partJ X.first x i b (x.length - j) j = if i ≤ j then bnd (andM X.first (x.getD (j - i) 0) b) fun r => bnd (partJ X.first x i b k (j + 1)) fun rs => retM (r :: rs) else bnd (partJ X.first x i b k (j + 1)) fun rs => retM (-1 :: rs) := fun k hk => by rw [hk]; rfl
      have hpj := hpj (x.length - (j + 1)) (by omega)
      simp only [go_sem, hd2, live_of hlo.at_, objK_of hlo.at_, List.length_map, Int.toNat_natCast, Nat.mul_one, Nat.zero_add, hset, hpl, Tryd.results75]
      refine ⟨⟨by omega, by omega⟩, hlt2, ?_⟩
      generalize hσ3 : st2.set L (some (.cells ((part (p ++ [-1]) x.length).map fun x => A.d (iD x)))) = st3 at *
      refine ⟨fun q => ?_, fun q => ?_⟩
      · have q' : i ≤ j := by have q : (i : Int) ≤ (j : Int) := by simpa using q
                              omega
        rw [if_pos q'] at hpj
        have w3 : IntKind.i64.wrap ((j : Int) - i) = ((j - i : Nat) : Int) := by rw [wrap64_id _ (by omega) (by omega)]; omega
        have e1 := getD_isD (l := x) (j := j - i) (by omega)
        have hxa : Lit (X.first + gs2.length) (x.getD (j - i) 0) := (hx _ (getD_mem 0 (by omega))).mono (by omega)
        generalize x.getD (j - i) 0 = a at *
        refine aw_plan (.tk 16 0 <| .done) (by kernel_rfl) ?_
        simp only [go_sem, w3, List.length_map, e1, e2, Int.toNat_natCast, Tryd.results75]
        refine ⟨⟨by omega, by omega⟩, ⟨by omega, by omega⟩, ac' (and_ac hs21 hxa (hyb.mono (by omega)) _ ⟨fun e => hno (by rw [hpj]; simp only [bnd, e, Option.bind_none]), fun r gs4 ic4 σ4 q4 l4 n4 hs4 hst4 => ?_⟩)⟩
        have hlo4 := hlo1.step hn1 hst4
        have hset2 : ((part (p ++ [-1]) x.length).map fun x => A.d (iD x)).take j ++ A.d (iD r) :: ((part (p ++ [-1]) x.length).map fun x => A.d (iD x)).drop (j + 1) = (part (p ++ [r]) x.length).map fun x => A.d (iD x) := by
          rw [splice_intsA r (by omega)]
          have := part_set2 (acc := p) (n := x.length) (by omega) (-1) r
          rw [hp] at this; rw [this]
        simp only [go_sem, live_of hlo4.at_, objK_of hlo4.at_, List.length_map, Int.toNat_natCast, Nat.mul_one, Nat.zero_add, hset2, hpl2, w2, Tryd.results75]
        refine ⟨⟨by omega, by omega⟩, hlt2, Wk.mask [0, 1, 2, 7, 9, 10, 25, 26, 33, 34] ⟨x.length - (j + 1), by omega, j + 1, p ++ [r], gs4, ic4, hlt2, rfl, by simp [hp], ⟨fun e => heq2.no (by rw [hpj]; simp only [bnd, q4, e, Option.bind_some, Option.bind_none]), fun rs gs8 e => ?_⟩, by omega, hs4.set (i := L) (by omega) hlo4.ne hn2 hn1 _, (hst21.trans hst4).set (i := L) (by omega) _, ⟨set_same hlo4.at_, hlo4.ne⟩, rfl⟩⟩
        rw [heq2.yes (r :: rs) gs8]
        · simp
        · rw [hpj]; simp only [bnd, q4, e, Option.bind_some, retM]
      · have q' : ¬ i ≤ j := by have q : ¬ (i : Int) ≤ (j : Int) := by simpa using q
                                omega
        rw [if_neg q'] at hpj
        simp only [go_sem, w2, Tryd.results75]
        refine Wk.mask [0, 1, 2, 7, 9, 10, 25, 26, 33, 34] ⟨x.length - (j + 1), by omega, j + 1, p ++ [-1], gs2, ic2, hlt2, rfl, by simp [hp], ⟨fun e => heq2.no (by rw [hpj]; simp only [bnd, e, Option.bind_none]), fun rs gs8 e => ?_⟩, by omega, hs21, hst21, hlo1, rfl⟩
        rw [heq2.yes (-1 :: rs) gs8]
        · simp
        · rw [hpj]; simp only [bnd, e, Option.bind_some, retM]
    · have hd2 : decide ((j : Int) < (x.length : Int)) = false := by simp; omega
      obtain rfl : j = x.length := by omega
      rw [part_full (by omega)] at hlo
      have e := heq2.yes [] gs2 (by rw [Nat.sub_self]; rfl)
      rw [List.append_nil, partJ_eq] at e
      obtain ⟨-, -, hpl, -⟩ := hpho _ _ e
      simp only [go_sem, hd2, Tryd.results75]
      refine ac' (ac_weak (Weak.freeze L 1 0 (p.map iD) hlo.at_ (lies_ints p)) ?_)
      simp only [frzL, A.frz, List.length_map, hp, and_self, if_true]
      refine sum_ac (hs2.set (i := L) (by omega) hlo.ne hn2 hn1 none) (hacc.2.mono (by omega)) hpl.2 (by rw [hacc.1, hpl.1]) (by rw [hacc.1]; exact hx8) (lit_m1 hs2.good.one) _ ⟨fun e3 => h.no (heq.no (by rw [mulM]; simp only [bnd, e, e3, Option.bind_some, Option.bind_none])), fun acc' gs3 ic3 σ3 q3 l3 n3 hs3 hst3 => ?_⟩
      simp only [go_sem, w1, Tryd.results75]
      refine Wk.mask [0, 1, 2, 7, 25, 26] ⟨y.length - (i + 1), by omega, i + 1, acc', gs3, ic3, hlt, rfl, ⟨fun e8 => heq.no (by rw [mulM]; simp only [bnd, e, q3, e8, Option.bind_some]), fun r gs8 e8 => ?_⟩, ?_, by omega, hs3, ((hst1.trans hst2).set (i := L) (by omega) none).trans hst3, rfl⟩
      · apply heq.yes
        rw [mulM]
        simp only [bnd, e, q3, e8, Option.bind_some]
      · rw [hacc.1] at l3; exact l3
  · have hd : decide ((i : Int) < (y.length : Int)) = false := by simp; omega
    simp only [dL, isD, go_sem, hd, Tryd.results75]
    have e := heq.yes acc gs1 (by rw [List.drop_eq_nil_of_le hge]; rfl)
    exact ⟨_, _, Weak.refl _ _ _ _, h.yes acc gs1 ic1 _ e hacc (by omega) hs1 hst1⟩
end
end Go.Proofs.YtkjlefahpdconaaDoor
end PartB7

section PartB8
/- The builder: conditional expressions. -/
set_option linter.unusedSimpArgs false
set_option linter.unusedVariables false
set_option maxRecDepth 100000
namespace Go.Proofs.YtkjlefahpdconaaDoor
open Go Go.Ab

section
variable {X : Bx} {G : Glob} {ic ic' : Nat} {gs gs' : List Gt} {σ σ' : St}
set_option maxHeartbeats 8000000 in
theorem ite_ac (hs : Bs X G ic gs σ) {o n : Int} {w : Nat} {ks : List D} {c : Int} {x y : List Int} (hc : Lit (X.first + gs.length) c) (hx : LitL (X.first + gs.length) x) (hy : LitL (X.first + gs.length) y) (hxl : x.length = w) (hyl : y.length = w) (hw : w ≤ 64) (R : A → St → Prop)
    (h : Cb X G (zipM (iteM X.first c) x y) (LLR x.length) dL ic gs σ R) : AC Tryd.prog G 79 [.ref X.ib 0, .d (.agg [iD o, iD (w : Nat), iD n, .sl 4 ks]), .d (llD [[c], x, y])] σ R := by
  have hho := zip_ho (first := X.first) (iteM X.first c) (fun v p q => bif val v c then p else q) (X.first + gs.length) (fun hg n ha hb => ite_ho hg (hc.mono n) ha hb) x y hs.good (Nat.le_refl _) hx hy (by omega)
  have hiw : X.iw < σ.length := lt_of_some hs.bo.w
  have hic : ic < σ.length := lt_of_some hs.bo.c
  have hib : X.ib < σ.length := lt_of_some hs.b
  have h00 := hs.since.keep.1
  refine ac_enter' mixed Tryd.func79 rfl Tryd.ntmps79 (by simp only [go_sem]) fun hbd => ?_
  simp only [List.length_cons, List.length_nil, Nat.reduceAdd, Nat.reduceSub, List.replicate_succ, List.replicate_zero, List.cons_append, List.nil_append]
  simp only [llD, isD, go_sem, List.map_cons, List.map_nil, Int.toNat_natCast, zeros_cells]
  refine ⟨⟨by omega, by omega, by omega, by omega⟩, ?_⟩
  obtain ⟨L, hL⟩ : ∃ L, L = σ.length + 1 := ⟨_, rfl⟩
  refine aw_loop (fun m fr st => ∃ (j : Nat) (acc : List Int) (gs1 : List Gt) (ic1 : Nat), j ≤ w ∧ m = w - j ∧ acc.length = j ∧
    After (zipM (iteM X.first c) x y gs) (acc ++ ·) (zipM (iteM X.first c) (x.drop j) (y.drop j) gs1) ∧ gs.length ≤ gs1.length ∧
    Bs X G ic1 gs1 st ∧ Stp X.iw ic σ ic1 st ∧ Lo L (part acc w) ic1 st ∧
    fr = [.ref X.ib 0, .any, .d (.sl 1 [.sl 1 [iD c], .sl 1 (x.map iD), .sl 1 (y.map iD)]), .any, .any, .any, .any, .rs L 1 0 w (some 3), .any, .any, .any, .any, .any, .any, .any, dn w, dn j, .any, .any, .any, .any, .any, .any, .any, .any, .any, .any, .any, .any, .any, .any, .any, .any, .any, .any, .any, .any, .any, .any, .any, .any, .any, .any, .any, .any, .any, .any, .any, .any, .any, .any, .any, .any, .any, .any]) w _ ?_ ?_
  · rw [hL]
    exact Wk.mask [0, 2, 7, 15, 16] ⟨0, [], gs, ic, by omega, rfl, rfl, ⟨fun e => e, fun rs gs2 e => e⟩, Nat.le_refl _, hs.app _, Stp.app _ _, ⟨by simp, by omega⟩, rfl⟩
  rintro m fr st ⟨j, acc, gs1, ic1, hj, hm, hacc, heq, hgl, hs1, hst1, hlo, rfl⟩
  have h8 := hs1.small
  have hn1 : L ≠ X.iw := by omega
  have hn2 : L ≠ X.ib := by omega
  rcases Nat.lt_or_ge j w with hlt | hge
  · have hd : decide ((j : Int) < (w : Int)) = true := by simp; omega
    have e1 := getD_isD (l := x) (j := j) (by omega)
    have e2 := getD_isD (l := y) (j := j) (by omega)
    have w1 := wrapS j (by omega)
    have w2 : IntKind.i64.wrap (0 - c) = -c := by have := hc.2; have := hs.small; rw [wrap64_id _ (by omega) (by omega)]; omega
    have hxa : Lit (X.first + gs1.length) (x.getD j 0) := (hx _ (getD_mem 0 (by omega))).mono (by omega)
    have hyb : Lit (X.first + gs1.length) (y.getD j 0) := (hy _ (getD_mem 0 (by omega))).mono (by omega)
    rw [drop_getD 0 (by omega), drop_getD (l := y) 0 (by omega)] at heq
    generalize x.getD j 0 = a at *
    generalize y.getD j 0 = b at *
    simp only [go_sem, hd, Tryd.results79]
    refine aw_plan (.tk 14 0 <| .done) (by kernel_rfl) ?_
    simp only [go_sem, List.length_map, List.length_cons, List.length_nil, e1, e2, Int.toNat_natCast, List.getD_cons_zero, List.getD_cons_succ, Int.toNat_zero, Int.toNat_one, show Int.toNat 2 = 2 from rfl, Tryd.results79]
    refine ⟨⟨by omega, by omega⟩, ⟨by omega, by omega⟩, ⟨by omega, by omega⟩, ⟨by omega, by omega⟩, ac' (and_ac hs1 (hc.mono (by omega)) hxa _ ⟨fun e => h.no (heq.no (by simp only [zipM, iteM, List.headD_cons, List.tail_cons]; simp only [bnd, e, Option.bind_none])), fun u gs2 ic2 σ2 q2 l2 n2 hs2 hst2 => ?_⟩)⟩
    simp only [go_sem, Tryd.results79]
    refine aw_plan (.tk 15 0 <| .done) (by kernel_rfl) ?_
    simp only [go_sem, w2, List.length_map, List.length_cons, List.length_nil, e1, e2, Int.toNat_natCast, List.getD_cons_zero, List.getD_cons_succ, Int.toNat_zero, Int.toNat_one, show Int.toNat 2 = 2 from rfl, Tryd.results79]
    refine ⟨⟨by omega, by omega⟩, ⟨by omega, by omega⟩, ⟨by omega, by omega⟩, ⟨by omega, by omega⟩, ac' (and_ac hs2 (hc.neg.mono (by omega)) (hyb.mono n2) _ ⟨fun e => h.no (heq.no (by simp only [zipM, iteM, List.headD_cons, List.tail_cons]; simp only [bnd, q2, e, Option.bind_some, Option.bind_none])), fun v gs3 ic3 σ3 q3 l3 n3 hs3 hst3 => ?_⟩)⟩
    simp only [go_sem, Tryd.results79]
    refine ac' (or_ac hs3 (l2.mono n3) l3 _ ⟨fun e => h.no (heq.no (by simp only [zipM, iteM, List.headD_cons, List.tail_cons]; simp only [bnd, q2, q3, e, Option.bind_some, Option.bind_none])), fun r gs4 ic4 σ4 q4 l4 n4 hs4 hst4 => ?_⟩)
    have hlo4 := ((hlo.step hn1 hst2).step hn1 hst3).step hn1 hst4
    have hset := part_cells (acc := acc) (n := w) (j := j) hacc hlt r
    have hpl : (part acc w).length = w := part_len (by omega)
    simp only [go_sem, live_of hlo4.at_, objK_of hlo4.at_, List.length_map, Int.toNat_natCast, Nat.mul_one, Nat.zero_add, hset, hpl, w1, Tryd.results79]
    refine ⟨⟨by omega, by omega⟩, hlt, Wk.mask [0, 2, 7, 15, 16] ⟨w - (j + 1), by omega, j + 1, acc ++ [r], gs4, ic4, hlt, rfl, by simp [hacc], ⟨fun e => heq.no (by simp only [zipM, iteM, List.headD_cons, List.tail_cons]; simp only [bnd, q2, q3, q4, e, Option.bind_some, Option.bind_none]), fun rs gs8 e => ?_⟩, by omega, hs4.set (i := L) (by omega) hlo4.ne hn2 hn1 _, (((hst1.trans hst2).trans hst3).trans hst4).set (i := L) (by omega) _, ⟨set_same hlo4.at_, hlo4.ne⟩, rfl⟩⟩
    rw [heq.yes (r :: rs) gs8]
    · simp
    · simp only [zipM, iteM, List.headD_cons, List.tail_cons]
      simp only [bnd, q2, q3, q4, e, Option.bind_some, retM]
  · have hd : decide ((j : Int) < (w : Int)) = false := by simp; omega
    simp only [go_sem, hd, Tryd.results79]
    have e := heq.yes [] gs1 (by rw [List.drop_eq_nil_of_le (by omega)]; rfl)
    rw [List.append_nil] at e
    obtain ⟨-, -, hll, -⟩ := hho _ _ e
    rw [part_full (by omega)] at hlo
    refine ret_w (a' := dL acc) (τ' := st.set L none) ?_ ⟨_, _, Weak.refl _ _ _ _, h.yes acc gs1 ic1 _ e hll (by omega) (hs1.set (i := L) (by omega) hlo.ne hn2 hn1 none) (hst1.set (by omega) none)⟩
    have := Weak.freeze (G := G) (n0 := σ.length) (fr := [.rs L 1 0 w (some 3)]) L 1 0 (acc.map iD) hlo.at_ (lies_ints acc)
    simp only [frzL, A.frz, List.length_map, hacc, show j = w by omega, and_self, if_true] at this
    exact this
end
end Go.Proofs.YtkjlefahpdconaaDoor
end PartB8
