import Derived.Test.YtmjlhbkgljcnoaaGreatDoorZ32
import Derived.Test.YtmjlhbkgljcnoaaGreatDoorZ31

section PartT9
/- Conjunctions. -/
set_option linter.unusedSimpArgs false
set_option linter.unusedVariables false
set_option maxRecDepth 100000
namespace Go.Proofs.YtmjlhbkgljcnoaaGreatDoor
open Go Go.Ab

theorem objK_old {τ l : St} {i : Nat} {cs : List A} {k : List A → Prop} (h : τ[i]? = some (some (.cells cs))) : objK (τ ++ l) i k = k cs := objK_of (by rw [List.getElem?_append_left (lt_of_some h)]; exact h)
theorem live_old {τ l : St} {i : Nat} {o : Ob} (h : τ[i]? = some (some o)) : liveId (τ ++ l) i = true := live_of (o := o) (by rw [List.getElem?_append_left (lt_of_some h)]; exact h)
def Ex.isC (e : Ex) (n : Int) : Bool := e.op == 1 && e.n == n
theorem isConst_ac (e : Ex) (n : Int) (σ : St) (G : Glob) (R : A → St → Prop) (h : R (db (e.isC n)) σ) : AC Tryz.prog G 78 [.d e.d, di n] σ R := by
  rw [Ex.d_eq]
  refine ac_enter mixed Tryz.func78 rfl Tryz.ntmps78 (by simp only [go_sem]) fun hbd => ?_
  simp only [List.length_cons, List.length_nil, Nat.reduceAdd, Nat.reduceSub, List.replicate_succ, List.replicate_zero, List.cons_append, List.nil_append]
  simp only [go_sem, Tryz.results78]
  exact ret_d hbd h
theorem constant_ac (n w : Int) (σ : St) (G : Glob) (R : A → St → Prop) (h : R (.d (Ex.mk 1 w n []).d) σ) : AC Tryz.prog G 79 [di n, di w] σ R := by
  refine ac_enter mixed Tryz.func79 rfl Tryz.ntmps79 (by simp only [go_sem]) fun hbd => ?_
  simp only [List.length_cons, List.length_nil, Nat.reduceAdd, Nat.reduceSub, List.replicate_succ, List.replicate_zero, List.cons_append, List.nil_append]
  simp only [go_sem, Tryz.results79]
  exact leaf_end hbd h
theorem condition_ac (e : Ex) (hok : e.Ok) (hn : e.nodes ≤ 600) (hw : e.w = 1) (hd : e.deep 40 = true) (σ : St) (G : Glob) (hG : G.g 0 = some masksD) (R : A → St → Prop) (h : R (db true) σ) : AC Tryz.prog G 77 [.d e.d] σ R := by
  rw [Ex.d_eq]
  refine ac_enter' mixed Tryz.func77 rfl Tryz.ntmps77 (by simp only [go_sem]) fun hbd => ?_
  simp only [List.length_cons, List.length_nil, Nat.reduceAdd, Nat.reduceSub, List.replicate_succ, List.replicate_zero, List.cons_append, List.nil_append]
  simp only [go_sem, hw, Int.reduceBEq, Tryz.results77]
  refine exs ⟨fun _ => ?_, fun h => Bool.noConfusion h⟩
  rw [← hw, ← Ex.d_eq e]
  refine ac' (formed_prog e hok hn _ _ hG _ ?_)
  rw [hd]
  simp only [go_sem, Tryz.results77]
  exact ret_d hbd h
theorem formedE_ac (e : Ex) (hok : e.Ok) (hn : e.nodes ≤ 600) (hd : e.deep 40 = true) (σ : St) (G : Glob) (hG : G.g 0 = some masksD) (R : A → St → Prop) (h : R (.d e.d) σ) : AC Tryz.prog G 81 [.d e.d] σ R := by
  rw [Ex.d_eq] at h ⊢
  refine ac_enter' mixed Tryz.func81 rfl Tryz.ntmps81 (by simp only [go_sem]) fun hbd => ?_
  simp only [List.length_cons, List.length_nil, Nat.reduceAdd, Nat.reduceSub, List.replicate_succ, List.replicate_zero, List.cons_append, List.nil_append]
  simp only [go_sem, Tryz.results81]
  rw [← Ex.d_eq e]
  refine ac' (formed_prog e hok hn _ _ hG _ ?_)
  rw [hd, Ex.d_eq e]
  simp only [go_sem, Tryz.results81]
  exact ret_d hbd h
theorem join_ac (a b : Ex) {io : Nat} {o : Int} (σ : St) (ho : σ[io]? = some (some (.cells [di o]))) (G : Glob) (R : A → St → Prop) (h : R (.d (Ex.mk o 1 0 [a, b]).d) σ) : AC Tryz.prog G 83 [.d a.d, .d b.d, .ref io 0] σ R := by
  rw [Ex.d_eq a, Ex.d_eq b]
  refine ac_enter mixed Tryz.func83 rfl Tryz.ntmps83 (by simp only [go_sem]) fun hbd => ?_
  simp only [List.length_cons, List.length_nil, Nat.reduceAdd, Nat.reduceSub, List.replicate_succ, List.replicate_zero, List.cons_append, List.nil_append]
  have ho' := ho
  have hl := lt_of_some ho
  simp only [go_sem, live_old ho, objK_old ho, Tryz.results83]
  refine ret_w (Weak.deep [3] 6) ?_
  simp only [go_sem]
  have e : (Ex.mk o 1 0 [a, b]).d = .agg [iD o, iD 1, iD 0, .sl 4 [.agg [iD a.op, iD a.w, iD a.n, .sl 4 (a.kids.map Ex.d)], .agg [iD b.op, iD b.w, iD b.n, .sl 4 (b.kids.map Ex.d)]]] := by
    rw [← Ex.d_eq a, ← Ex.d_eq b, Ex.d_eq]; rfl
  rw [e] at h
  exact ret_bd hbd rfl h
def foldE (o : Int) : List Ex → Ex
  | [] => .mk 0 0 0 []
  | a :: r => r.foldl (fun x y => .mk o 1 0 [x, y]) a
theorem fold_ac (a : Ex) (r : List Ex) (hr : r.length ≤ 40) {io : Nat} {o : Int} (σ : St) (ho : σ[io]? = some (some (.cells [di o]))) (G : Glob) (R : A → St → Prop) (h : R (.d (foldE o (a :: r)).d) σ) : AC Tryz.prog G 82 [.d (.sl 4 ((a :: r).map Ex.d)), .fn (.func 83) [] [.ref io 0]] σ R := by
  have hl := lt_of_some ho
  obtain ⟨L, hL⟩ : ∃ L, a :: r = L := ⟨_, rfl⟩
  have e0 : List.getD (L.map Ex.d) 0 default = .agg [iD a.op, iD a.w, iD a.n, .sl 4 (a.kids.map Ex.d)] := by rw [← Ex.d_eq, ← hL]; rfl
  have hLl : L.length = r.length + 1 := by rw [← hL]; rfl
  have hLd : L.drop 1 = r := by rw [← hL]; rfl
  rw [hL]
  refine ac_enter' mixed Tryz.func82 rfl Tryz.ntmps82 (by simp only [go_sem]) fun hbd => ?_
  simp only [List.length_cons, List.length_nil, Nat.reduceAdd, Nat.reduceSub, List.replicate_succ, List.replicate_zero, List.cons_append, List.nil_append]
  simp only [go_sem, e0, List.length_map, Int.toNat_zero, Int.toNat_one, Tryz.results82]
  have hdr : List.drop 1 (List.take L.length (L.map Ex.d)) = r.map Ex.d := by rw [List.take_of_length_le (by simp), ← List.map_drop, hLd]
  rw [hdr, List.length_map]
  refine ⟨⟨by omega, by omega⟩, ⟨by omega, by omega, by omega⟩, ?_⟩
  clear hdr e0
  refine aw_loop (fun m fr st => ∃ (j : Nat) (x : Ex), j ≤ r.length ∧ m = r.length - j ∧ R (.d ((r.drop j).foldl (fun x y => Ex.mk o 1 0 [x, y]) x).d) σ ∧
    fr = [.any, .fn (.func 83) [] [.ref io 0], .any, .any, .ref σ.length 0, .ref (σ.length + 1) 0, .any, .any, .any, .any, .any, .any, .d (.sl 4 (r.map Ex.d)), dn r.length, dn j, .any, .any, .any, .any, .any, .any, .any, .any, .any] ∧
    st = σ ++ [some (.cells exZ), some (.cells (exC x))]) r.length _ ?_ ?_
  · exact Wk.mask [1, 4, 5, 12, 13, 14] ⟨0, a, by omega, rfl, h, rfl, rfl⟩
  rintro m fr st ⟨j, x, hj, hm, hR, rfl, rfl⟩
  rcases Nat.lt_or_ge j r.length with hlt | hge
  · have hdd : decide ((j : Int) < (r.length : Int)) = true := by simp; omega
    obtain ⟨k, hkk⟩ : ∃ k, r.getD j (.mk 0 0 0 []) = k := ⟨_, rfl⟩
    have e1 : List.getD (r.map Ex.d) j default = .agg [iD k.op, iD k.w, iD k.n, .sl 4 (k.kids.map Ex.d)] := by rw [getD_mapD (d := .mk 0 0 0 []) hlt, hkk, Ex.d_eq]
    have w2 := wrapS j (by omega)
    rw [drop_getD (.mk 0 0 0 []) hlt, hkk, List.foldl_cons] at hR
    simp only [exC, exZ, go_sem, hdd, List.length_map, e1, w2, Tryz.results82]
    rw [← Ex.d_eq k, ← Ex.d_eq x]
    refine ⟨⟨by omega, by omega⟩, ac' (join_ac x k _ (by rw [List.getElem?_append_left hl]; exact ho) _ _ ?_)⟩
    rw [d_mk] 
    simp only [go_sem, w2, Tryz.results82]
    exact Wk.keep [1, 4, 5, 12, 13, 14] [0, 1] (by decide) (Nat.le_refl _) hbd ⟨r.length - (j + 1), by omega, j + 1, _, hlt, rfl, hR, by simp only [go_sem, newId_old hl], by simp only [go_sem, exC, exZ, Ex.op, Ex.w, Ex.n, Ex.kids]⟩
  · have hdd : decide ((j : Int) < (r.length : Int)) = false := by simp; omega
    simp only [exC, exZ, go_sem, hdd, Tryz.results82]
    rw [List.drop_eq_nil_of_le hge, List.foldl_nil, Ex.d_eq] at hR
    exact ret_d hbd hR
theorem renL_exC (n : Nat) (p : List Nat) : ∀ K : List Ex, renL n p (K.flatMap exC) = K.flatMap exC
  | [] => rfl
  | e :: K => by
    have ih := renL_exC n p K
    rw [List.flatMap_cons]
    show renL n p (_ :: _ :: _ :: _ :: K.flatMap exC) = _
    simp only [go_sem, ih]
    rfl
theorem exC_at {K : List Ex} {j : Nat} (h : j < K.length) : ((K.flatMap exC).drop (j * 4)).take 4 = exC (K.getD j (.mk 0 0 0 [])) ∧ (K.flatMap exC).take (j * 4) ++ (exC (K.getD j (.mk 0 0 0 [])) ++ (K.flatMap exC).drop (j * 4 + 4)) = K.flatMap exC := by
  have e : K = K.take j ++ K.getD j (.mk 0 0 0 []) :: K.drop (j + 1) := by
    conv => lhs; rw [← List.take_append_drop j K, drop_getD (.mk 0 0 0 []) h]
  generalize K.getD j (.mk 0 0 0 []) = k at *
  have hl : ((K.take j).flatMap exC).length = j * 4 := by rw [exC_len, List.length_take]; omega
  have h4 : (exC k).length = 4 := rfl
  have hf : K.flatMap exC = (K.take j).flatMap exC ++ (exC k ++ (K.drop (j + 1)).flatMap exC) := by
    conv => lhs; rw [e]
    rw [List.flatMap_append, List.flatMap_cons]
  generalize (K.take j).flatMap exC = P at *
  generalize (K.drop (j + 1)).flatMap exC = Q at *
  rw [hf]
  constructor
  · rw [← hl, List.drop_left, ← h4, List.take_left]
  · rw [← hl, List.take_left, show P.length + 4 = P.length + (exC k).length by rw [h4], ← List.drop_drop, List.drop_left, List.drop_left]
/-- What a conjunction keeps. -/
def kept (L : List Ex) : List Ex := L.filter fun e => !e.isC 0 && !e.isC 1
theorem kept_snoc (l : List Ex) (e : Ex) : kept (l ++ [e]) = kept l ++ if !e.isC 0 && !e.isC 1 then [e] else [] := by
  unfold kept
  rw [List.filter_append]
  congr 1
  cases h : (!e.isC 0 && !e.isC 1)
  · rw [List.filter_cons, h]; rfl
  · rw [List.filter_cons, h]; rfl
def dec0 (L : List Ex) : Bool := L.any fun e => e.isC 0
def andL (L : List Ex) : Ex := if dec0 L then .mk 1 1 0 [] else if kept L = [] then .mk 1 1 1 [] else foldE 5 (kept L)
set_option maxHeartbeats 8000000 in
theorem and_ac (L : List Ex) (hL : L.length ≤ 40) (hc : ∀ e ∈ L, e.Ok ∧ e.nodes ≤ 600 ∧ e.w = 1 ∧ e.deep 40 = true) (hr : (foldE 5 (kept L)).Ok ∧ (foldE 5 (kept L)).nodes ≤ 600) (hrd : kept L ≠ [] → (foldE 5 (kept L)).deep 40 = true) (σ : St) (G : Glob) (hG : G.g 0 = some masksD) (R : A → St → Prop) (h : R (.d (andL L).d) σ) : AC Tryz.prog G 49 [.d (.sl 4 (L.map Ex.d)), di 5, di 1] σ R := by
  refine ac_enterC' [13, 19] mixed Tryz.func49 rfl Tryz.ntmps49 (by simp only [go_sem]) fun hbd => ?_
  simp only [List.length_cons, List.length_nil, Nat.reduceAdd, Nat.reduceSub, List.replicate_succ, List.replicate_zero, List.cons_append, List.nil_append]
  simp only [go_sem, List.length_map, Tryz.results49]
  refine aw_cut (fun fr st => fr = [.any, .any, di 1, .any, .ref σ.length 0, .any, .ref (σ.length + 1) 0, .rs (σ.length + 2) 4 0 (kept L).length (some 25), db (dec0 L), .any, .any, .any, .any, .any, .any, .any, .any, .any, .any, .any, .any, .any, .any, .any, .any, .any, .any, .any, .any, .any, .any, .any, .any, .any, .any, .any, .any, .any, .any, .any, .any, .any, .any, .any, .any, .any, .any, .any, .any, .any, .any, .any, .any, .any, .any, .any, .any, .any, .any, .any, .any, .any, .any, .any, .any, .any, .any, .any, .any, .any, .any, .any, .any, .any, .any, .any, .any] ∧
    st = σ ++ [some (.cells [di 5]), some (.cells exZ), some (.cells ((kept L).flatMap exC))]) ?_ ?_
  · simp only [go_sem, List.length_map, Tryz.results49]
    refine aw_loop (fun m fr st => ∃ j : Nat, j ≤ L.length ∧ m = L.length - j ∧ fr = [.any, .any, di 1, .any, .ref σ.length 0, .any, .ref (σ.length + 1) 0, .rs (σ.length + 2) 4 0 (kept (L.take j)).length (some 25), db (dec0 (L.take j)), .any, .any, .any, .d (.sl 4 (L.map Ex.d)), dn L.length, dn j, .any, .any, .any, .any, .any, .any, .any, .any, .any, .any, .any, .any, .any, .any, .any, .any, .any, .any, .any, .any, .any, .any, .any, .any, .any, .any, .any, .any, .any, .any, .any, .any, .any, .any, .any, .any, .any, .any, .any, .any, .any, .any, .any, .any, .any, .any, .any, .any, .any, .any, .any, .any, .any, .any, .any, .any, .any, .any, .any, .any, .any, .any] ∧
      st = σ ++ [some (.cells [di 5]), some (.cells exZ), some (.cells ((kept (L.take j)).flatMap exC))]) L.length _ ?_ ?_
    · exact ⟨_, _, (Weak.mask [2, 4, 6, 7, 8, 12, 13, 14]).trans (Weak.empty 7 4 (some 25) rfl), 0, by omega, rfl, by simp [maskN, kept, dec0], by simp [kept, exZ]⟩
    rintro m fr st ⟨j, hj, hm, rfl, rfl⟩
    rcases Nat.lt_or_ge j L.length with hlt | hge
    · have hdd : decide ((j : Int) < (L.length : Int)) = true := by simp; omega
      obtain ⟨k, hkk⟩ : ∃ k, L.getD j (.mk 0 0 0 []) = k := ⟨_, rfl⟩
      have hmem : k ∈ L := hkk ▸ getD_mem _ hlt
      obtain ⟨k1, k2, k3, k4⟩ := hc k hmem
      have e1 : List.getD (L.map Ex.d) j default = .agg [iD k.op, iD k.w, iD k.n, .sl 4 (k.kids.map Ex.d)] := by rw [getD_mapD (d := .mk 0 0 0 []) hlt, hkk, Ex.d_eq]
      have w2 := wrapS j (by omega)
      have htk := take_snoc (.mk 0 0 0 []) hlt
      rw [hkk] at htk
      have hks := kept_snoc (L.take j) k
      rw [← htk] at hks
      have hdk : dec0 (L.take (j + 1)) = (dec0 (L.take j) || k.isC 0) := by rw [htk, dec0, List.any_append]; simp [dec0]
      have hkl : (kept (L.take j)).length ≤ j := Nat.le_trans (List.length_filter_le _ _) (by rw [List.length_take]; omega)
      simp only [exC, exZ, go_sem, hdd, List.length_map, e1, Tryz.results49]
      rw [← Ex.d_eq k]
      refine ⟨⟨by omega, by omega⟩, ac' (condition_ac k k1 k2 k3 k4 _ _ hG _ ?_)⟩
      rw [Ex.d_eq k]
      simp only [go_sem, Tryz.results49]
      rw [← Ex.d_eq k]
      have w0 : IntKind.i64.wrap (1 - 1) = 0 := by decide
      simp only [w0]
      refine ac' (isConst_ac k 0 _ _ _ ?_)
      rw [Ex.d_eq k]
      cases q0 : k.isC 0
      · simp only [go_sem, Tryz.results49]
        rw [← Ex.d_eq k]
        refine ac' (isConst_ac k 1 _ _ _ ?_)
        rw [Ex.d_eq k]
        rw [q0] at hks hdk
        cases q1 : k.isC 1
        · rw [q1] at hks
          have dk : decide (((kept (L.take j)).length : Int) ≤ 40) = true := by simp; omega
          simp only [go_sem, dk, Tryz.results49]
          have hfl := exC_len (kept (L.take j))
          simp only [Bool.not_false, Bool.and_self, if_true] at hks
          simp only [go_sem, w2]
          refine ⟨⟨by omega, by simp only [maxLen]; omega, by omega⟩, Wk.keep [2, 4, 6, 7, 8, 12, 13, 14] [0, 1, 5] (by decide) (Nat.le_refl _) hbd ⟨L.length - (j + 1), by omega, j + 1, hlt, rfl, ?_, ?_⟩⟩
          · rw [hks, hdk, Bool.or_false]; simp only [go_sem, List.length_append, List.length_cons, List.length_nil]
          · rw [hks, List.flatMap_append]; simp only [go_sem, exZ, List.flatMap_cons, List.flatMap_nil, List.append_nil, renL_exC]
            rfl
        · rw [q1] at hks
          simp only [go_sem, w2, Tryz.results49]
          refine Wk.keep [2, 4, 6, 7, 8, 12, 13, 14] [0, 1, 2] (by decide) (Nat.le_refl _) hbd ⟨L.length - (j + 1), by omega, j + 1, hlt, rfl, ?_, ?_⟩
          · rw [hks, hdk, Bool.or_false]; simp only [go_sem, Bool.not_true, Bool.and_false, Bool.false_eq_true, if_false, List.append_nil]
          · rw [hks]; simp only [go_sem, exZ, renL_exC, Bool.not_true, Bool.and_false, Bool.false_eq_true, if_false, List.append_nil]
      · rw [q0] at hks hdk
        simp only [go_sem, w2, Tryz.results49]
        refine Wk.keep [2, 4, 6, 7, 8, 12, 13, 14] [0, 1, 2] (by decide) (Nat.le_refl _) hbd ⟨L.length - (j + 1), by omega, j + 1, hlt, rfl, ?_, ?_⟩
        · rw [hks, hdk, Bool.or_true]; simp only [go_sem, Bool.not_true, Bool.false_and, Bool.false_eq_true, if_false, List.append_nil]
        · rw [hks]; simp only [go_sem, exZ, renL_exC, Bool.not_true, Bool.false_and, Bool.false_eq_true, if_false, List.append_nil]
    · have hdd : decide ((j : Int) < (L.length : Int)) = false := by simp; omega
      obtain rfl : j = L.length := by omega
      simp only [go_sem, hdd, Tryz.results49]
      exact Wk.mask [2, 4, 6, 7, 8] ⟨rfl, rfl⟩
  · rintro fr st ⟨rfl, rfl⟩
    have hkl : (kept L).length ≤ 40 := Nat.le_trans (List.length_filter_le _ _) hL
    have hkm : ∀ e ∈ kept L, e.Ok ∧ e.nodes ≤ 600 ∧ e.w = 1 ∧ e.deep 40 = true := fun e he => hc e (List.mem_filter.1 he).1
    unfold andL at h
    simp only [go_sem]
    refine aw_cut (fun fr st => dec0 L = false ∧ kept L ≠ [] ∧ fr = [.any, .any, di 1, .any, .ref σ.length 0, .any, .ref (σ.length + 1) 0, .rs (σ.length + 2) 4 0 (kept L).length (some 25), .any, .any, .any, .any, .any, .any, .any, .any, .any, .any, .any, .any, .any, .any, .any, .any, .any, .any, .any, .any, .any, .any, .any, .any, .any, .any, .any, .any, .any, .any, .any, .any, .any, .any, .any, .any, .any, .any, .any, .any, .any, .any, .any, .any, .any, .any, .any, .any, .any, .any, .any, .any, .any, .any, .any, .any, .any, .any, .any, .any, .any, .any, .any, .any, .any, .any, .any, .any, .any] ∧
      st = σ ++ [some (.cells [di 5]), some (.cells exZ), some (.cells ((kept L).flatMap exC))]) ?_ ?_
    · cases hdq : dec0 L
      · rw [hdq] at h
        simp only [Bool.false_eq_true, if_false] at h
        simp only [go_sem, exZ, Tryz.results49]
        by_cases hz : kept L = []
        · rw [if_pos hz] at h
          have hz' : (((kept L).length : Int) == 0) = true := by rw [hz]; rfl
          simp only [go_sem, hz', Tryz.results49]
          refine ac' (constant_ac 1 1 _ _ _ ?_)
          rw [d_mk] at h ⊢
          simp only [go_sem, Tryz.results49]
          exact ret_d hbd h
        · have hz' : (((kept L).length : Int) == 0) = false := by
            have : (kept L).length ≠ 0 := fun h => hz (List.eq_nil_of_length_eq_zero h)
            simp; omega
          have h40 : decide (40 < ((kept L).length : Int)) = false := by simp; omega
          simp only [go_sem, hz', h40, Tryz.results49]
          exact Wk.mask [2, 4, 6, 7] ⟨hz, rfl, rfl⟩
      · rw [hdq] at h
        have w0 : IntKind.i64.wrap (1 - 1) = 0 := by decide
        simp only [if_true] at h
        simp only [go_sem, exZ, w0, Tryz.results49]
        refine ac' (constant_ac 0 1 _ _ _ ?_)
        rw [d_mk] at h ⊢
        simp only [go_sem, Tryz.results49]
        exact ret_d hbd h
    rintro fr st ⟨hdq, hz, rfl, rfl⟩
    rw [hdq, if_neg Bool.false_ne_true, if_neg hz] at h
    generalize kept L = K at *
    simp only [go_sem, exZ, Tryz.results49]
    refine aw_loop (fun m fr st => ∃ j : Nat, j ≤ K.length ∧ m = K.length - j ∧ fr = [.any, .any, .any, .any, .ref σ.length 0, .any, .ref (σ.length + 1) 0, .rs (σ.length + 2) 4 0 K.length (some 25), .any, .any, .any, .any, .any, .any, .any, .any, .any, .any, .any, .any, .any, .any, .any, .any, .any, .any, .any, .any, .any, .any, .any, .any, .any, .any, .any, .any, .any, .any, .any, .any, .any, .any, .any, .any, .any, .any, .any, .any, .any, .any, .any, .any, .any, .any, .any, .any, .any, .any, .any, .any, dn K.length, dn j, .any, .any, .any, .any, .any, .any, .any, .any, .any, .any, .any, .any, .any, .any, .any] ∧
      st = σ ++ [some (.cells [di 5]), some (.cells exZ), some (.cells (K.flatMap exC))]) K.length _ ?_ ?_
    · exact Wk.mask [4, 6, 7, 60, 61] ⟨0, by omega, rfl, rfl, rfl⟩
    rintro m fr st ⟨j, hj, hm, rfl, rfl⟩
    rcases Nat.lt_or_ge j K.length with hlt | hge
    · have hdd : decide ((j : Int) < (K.length : Int)) = true := by simp; omega
      have w2 := wrapS j (by omega)
      obtain ⟨x1, x2⟩ := exC_at hlt
      obtain ⟨k, hkk⟩ : ∃ k, K.getD j (.mk 0 0 0 []) = k := ⟨_, rfl⟩
      obtain ⟨k1, k2, k3, k4⟩ := hkm k (hkk ▸ getD_mem _ hlt)
      rw [hkk] at x1 x2
      have hfl := exC_len K
      have hx : exC k = [.d (iD k.op), .d (iD k.w), .d (iD k.n), .d (.sl 4 (k.kids.map Ex.d))] := rfl
      rw [hx] at x1 x2
      simp only [List.cons_append, List.nil_append] at x2
      simp only [go_sem, exZ, hdd, x1, hfl, toDs, Tryz.results49]
      rw [← Ex.d_eq k]
      refine ⟨⟨by omega, by omega⟩, by omega, ac' (clone_ac k k1 k2 k4 _ _ _ ?_)⟩
      rw [Ex.d_eq k]
      simp only [go_sem, w2, x2, hfl, Int.toNat_natCast, Nat.zero_add, Tryz.results49]
      exact ⟨⟨by omega, by omega⟩, by omega, Wk.mask [4, 6, 7, 60, 61] ⟨K.length - (j + 1), by omega, j + 1, hlt, rfl, rfl, rfl⟩⟩
    · have hdd : decide ((j : Int) < (K.length : Int)) = false := by simp; omega
      simp only [go_sem, exZ, hdd, Tryz.results49]
      obtain ⟨a, r, hK⟩ : ∃ a r, K = a :: r := by
        cases K with
        | nil => exact (hz rfl).elim
        | cons a r => exact ⟨a, r, rfl⟩
      refine ac' (ac_frz 2 4 0 (K.map Ex.d) rfl (exC_lies K) ?_)
      simp only [go_sem, List.length_map]
      rw [hK] at h hr hrd hkl ⊢
      refine fold_ac a r (by rw [List.length_cons] at hkl; omega) (o := 5) _ (by simp) _ _ ?_
      generalize foldE 5 (a :: r) = E at *
      refine ac' (formedE_ac E hr.1 hr.2 (hrd (by simp)) _ _ hG _ ?_)
      rw [Ex.d_eq E] at h ⊢
      simp only [go_sem, Tryz.results49]
      exact ret_d hbd h
theorem And_ac (L : List Ex) (hL : L.length ≤ 40) (hc : ∀ e ∈ L, e.Ok ∧ e.nodes ≤ 600 ∧ e.w = 1 ∧ e.deep 40 = true) (hr : (foldE 5 (kept L)).Ok ∧ (foldE 5 (kept L)).nodes ≤ 600) (hrd : kept L ≠ [] → (foldE 5 (kept L)).deep 40 = true) (σ : St) (G : Glob) (hG : G.g 0 = some masksD) (R : A → St → Prop) (h : R (.d (andL L).d) σ) : AC Tryz.prog G 12 [.d (.sl 4 (L.map Ex.d))] σ R := by
  refine ac_enter mixed Tryz.func12 rfl Tryz.ntmps12 (by simp only [go_sem]) fun hbd => ?_
  simp only [List.length_cons, List.length_nil, Nat.reduceAdd, Nat.reduceSub, List.replicate_succ, List.replicate_zero, List.cons_append, List.nil_append]
  simp only [go_sem, Tryz.results12]
  refine ac' (and_ac L hL hc hr hrd _ _ hG _ ?_)
  rw [Ex.d_eq (andL L)] at h ⊢
  simp only [go_sem, Tryz.results12]
  exact ret_d hbd h
end Go.Proofs.YtmjlhbkgljcnoaaGreatDoor
end PartT9

section PartT10
/- The program's Size. -/
set_option linter.unusedSimpArgs false
set_option linter.unusedVariables false
set_option maxRecDepth 100000
namespace Go.Proofs.YtmjlhbkgljcnoaaGreatDoor
open Go Go.Ab

def sumN (l : List Ex) : Nat := (l.map Ex.nodes).sum
def sumW (W : List (List Ex)) : Nat := (W.map sumN).sum
theorem sumN_len : ∀ l : List Ex, l.length ≤ sumN l
  | [] => Nat.le_refl _
  | a :: l => by
    have := sumN_len l
    unfold sumN at *
    rw [List.length_cons, List.map_cons, List.sum_cons]
    have : 1 ≤ a.nodes := by rw [Ex.nodes_eq]; omega
    omega
def wkC (W : List (List Ex)) : List A := W.map fun l => .d (.sl 4 (l.map Ex.d))
theorem wkC_len (W : List (List Ex)) : (wkC W).length = W.length := by simp [wkC]
theorem renL_wkC (n : Nat) (p : List Nat) : ∀ W : List (List Ex), renL n p (wkC W) = wkC W
  | [] => rfl
  | l :: W => by
    have ih := renL_wkC n p W
    unfold wkC at *
    rw [List.map_cons]
    simp only [go_sem, ih]
theorem wkC_snoc (W : List (List Ex)) (l : List Ex) : wkC W ++ [.d (.sl 4 (l.map Ex.d))] = wkC (W ++ [l]) := by simp [wkC]
theorem Wk.via {G : Glob} {n0 : Nat} {fr fr' : Fr} {σ σ' : St} {I : Fr → St → Prop} (hw : Weak G n0 fr σ fr' σ') (h : Wk G n0 I fr' σ') : Wk G n0 I fr σ := by
  obtain ⟨a, b, h1, h2⟩ := h
  exact ⟨a, b, hw.trans h1, h2⟩
theorem sumW_snoc (W : List (List Ex)) (l : List Ex) : sumW (W ++ [l]) = sumW W + sumN l := by simp [sumW]
set_option maxHeartbeats 8000000 in
theorem size_prog (e : Ex) (hn : e.nodes ≤ 600) (σ : St) (G : Glob) (R : A → St → Prop) (h : R (dn e.nodes) σ) : AC Tryz.prog G 47 [.d e.d, di 601] σ R := by
  rw [Ex.d_eq]
  have hnd := e.nodes_eq
  refine ac_enter' mixed Tryz.func47 rfl Tryz.ntmps47 (by simp only [go_sem]) fun hbd => ?_
  simp only [List.length_cons, List.length_nil, Nat.reduceAdd, Nat.reduceSub, List.replicate_succ, List.replicate_zero, List.cons_append, List.nil_append]
  have d0 : decide ((601 : Int) ≤ 0) = false := by decide
  simp only [go_sem, d0, Tryz.results47]
  refine aw_loop (fun m fr st => ∃ (W : List (List Ex)) (c : Nat), m = W.length + 2 * (600 - c) ∧ m ≤ 1199 ∧ c + sumW W = e.nodes ∧
    fr = [.any, di 601, .any, .any, .any, dn c, .rs (σ.length + 1) 1 0 W.length (some 23), .any, .any, .any, .any, .any, .any, .any, .any, .any, .any, .any, .any, .any, .any, .any, .any, .any, .any, .any, .any, .any, .any, .any, .any, .any, .any, .any, .any, .any, .any, .any, .any, .any, .any, .any, .any, .any, .any, .any, .any, .any, .any, .any, .any, .any, .any, .any, .any, .any, .any, .any, .any, .any] ∧ st = σ ++ [some (.cells (exC e)), some (.cells (wkC W))]) (1 + 2 * 599) _ ?_ ?_
  · exact Wk.mask [1, 5, 6] ⟨[e.kids], 1, by simp, by omega, by rw [hnd]; simp [sumW, sumN], rfl, by simp [wkC, exC]⟩
  rintro m fr st ⟨W, c, hm, hm2, hc, rfl, rfl⟩
  have hd2 : decide ((c : Int) < 601) = true := by rw [decide_eq_true_eq]; omega
  have hcl := wkC_len W
  rcases List.eq_nil_or_concat W with rfl | ⟨V, l, hV⟩
  · have hd1 : decide ((0 : Int) < ((0 : Nat) : Int)) = false := by decide
    have q : min (c : Int) 601 = c := by omega
    simp only [sumW, List.map_nil, List.sum_nil, Nat.add_zero] at hc
    simp only [exC, go_sem, List.length_nil, hd1, hd2, q, Tryz.results47]
    rw [← hc] at h
    exact ret_d hbd h
  · rw [List.concat_eq_append] at hV
    subst hV
    have hVl : (V ++ [l]).length = V.length + 1 := by simp
    have hd1 : decide ((0 : Int) < ((V.length + 1 : Nat) : Int)) = true := by rw [decide_eq_true_eq]; omega
    rw [sumW_snoc] at hc
    have hll := sumN_len l
    have w1 : IntKind.i64.wrap (((V.length + 1 : Nat) : Int) - 1) = (V.length : Int) := by rw [wrap64_id _ (by omega) (by omega)]; omega
    have hg : (wkC (V ++ [l])).getD V.length .any = .d (.sl 4 (l.map Ex.d)) := by simp [wkC]
    have w3 : IntKind.i64.wrap ((c : Int) + (l.length : Int)) = ((c + l.length : Nat) : Int) := by rw [wrap64_id _ (by omega) (by omega)]; omega
    have hd3 : decide ((601 : Int) ≤ ((c + l.length : Nat) : Int)) = false := by simp; omega
    rw [hVl]
    rw [hVl] at hm hcl
    simp only [exC, go_sem, hd1, hd2, w1, hcl, hg, w3, hd3, Int.toNat_natCast, List.length_map, Nat.mul_one, Nat.zero_add, Tryz.results47]
    refine ⟨⟨by omega, by omega⟩, ⟨by omega, by omega⟩, ?_⟩
    refine aw_loop (fun mi fr st => ∃ (j : Nat) (X : List (List Ex)), j ≤ l.length ∧ mi = l.length - j ∧ X.length ≤ V.length + j ∧ c + l.length + sumW X + sumN (l.drop j) = e.nodes + (l.length - j) ∧
      fr = [.any, di 601, .any, .any, .any, dn (c + l.length), .rs (σ.length + 1) 1 0 X.length (some 23), .any, .any, .any, .any, .any, .any, .any, .any, .any, .any, .any, .any, .any, .any, .any, .any, .any, .any, .any, .any, .any, .any, .any, .any, .any, .any, .any, .any, .any, .any, .any, .any, .any, .any, .d (.sl 4 (l.map Ex.d)), dn l.length, dn j, .any, .any, .any, .any, .any, .any, .any, .any, .any, .any, .any, .any, .any, .any, .any, .any] ∧ st = σ ++ [some (.cells (exC e)), some (.cells (wkC X))]) l.length _ ?_ ?_
    · refine Wk.via (Weak.short 1 V.length rfl) (Wk.mask [1, 5, 6, 41, 42, 43] ⟨0, V, by omega, rfl, by omega, by rw [List.drop_zero]; omega, rfl, ?_⟩)
      simp [wkC, exC]
    rintro mi fr st ⟨j, X, hj, hmi, hX, hs, rfl, rfl⟩
    have hXl := wkC_len X
    rcases Nat.lt_or_ge j l.length with hlt | hge
    · have hdd : decide ((j : Int) < (l.length : Int)) = true := by simp; omega
      obtain ⟨k, hkk⟩ : ∃ k, l.getD j (.mk 0 0 0 []) = k := ⟨_, rfl⟩
      have e1 : List.getD (l.map Ex.d) j default = .agg [iD k.op, iD k.w, iD k.n, .sl 4 (k.kids.map Ex.d)] := by rw [getD_mapD (d := .mk 0 0 0 []) hlt, hkk, Ex.d_eq]
      have w2 := wrapS j (by omega)
      have hkn := k.nodes_eq
      have hkl := sumN_len k.kids
      rw [drop_getD (.mk 0 0 0 []) hlt, hkk] at hs
      have hs' : sumN (k :: l.drop (j + 1)) = k.nodes + sumN (l.drop (j + 1)) := by simp [sumN]
      rw [hs', hkn] at hs
      have hs2 : (k.kids.map Ex.nodes).sum = sumN k.kids := rfl
      rw [hs2] at hs
      by_cases hz : k.kids = []
      · have hz' : decide ((0 : Int) < (k.kids.length : Int)) = false := by rw [hz]; rfl
        have hz2 : sumN k.kids = 0 := by rw [hz]; rfl
        simp only [exC, go_sem, hdd, List.length_map, e1, hz', w2, Tryz.results47]
        refine ⟨⟨by omega, by omega⟩, Wk.keep [1, 5, 6, 41, 42, 43] [0, 1] (by decide) (Nat.le_refl _) hbd ⟨l.length - (j + 1), by omega, j + 1, X, hlt, rfl, by omega, by omega, by simp only [go_sem], by simp only [go_sem, renL_wkC]⟩⟩
      · have hz' : decide ((0 : Int) < (k.kids.length : Int)) = true := by
          have : k.kids.length ≠ 0 := fun h => hz (List.eq_nil_of_length_eq_zero h)
          simp; omega
        have hsn := sumW_snoc X k.kids
        simp only [exC, go_sem, hdd, List.length_map, e1, hz', w2, hXl, Tryz.results47]
        refine ⟨⟨by omega, by omega⟩, ⟨by omega, by simp only [maxLen]; omega, by omega⟩, Wk.keep [1, 5, 6, 41, 42, 43] [0, 4] (by decide) (Nat.le_refl _) hbd ⟨l.length - (j + 1), by omega, j + 1, X ++ [k.kids], hlt, rfl, by rw [List.length_append]; simp; omega, by omega, by simp only [go_sem, List.length_append, List.length_cons, List.length_nil], by simp only [go_sem, renL_wkC, wkC_snoc]⟩⟩
    · have hdd : decide ((j : Int) < (l.length : Int)) = false := by simp; omega
      rw [List.drop_eq_nil_of_le hge] at hs
      simp only [exC, go_sem, hdd, Tryz.results47]
      have : sumN [] = 0 := rfl
      exact Wk.mask [1, 5, 6] ⟨X.length + 2 * (600 - (c + l.length)), by omega, X, c + l.length, rfl, by omega, by omega, rfl, rfl⟩
end Go.Proofs.YtmjlhbkgljcnoaaGreatDoor
end PartT10

section PartT11
/- slices.Sort of at most twelve integers. -/
set_option linter.unusedSimpArgs false
set_option linter.unusedVariables false
set_option maxRecDepth 100000
namespace Go.Proofs.YtmjlhbkgljcnoaaGreatDoor.Srt
open Go Go.Ab

theorem nan_ac (x : Int) (σ : St) (G : Glob) (R : A → St → Prop) (h : R (db false) σ) : AC Tryz.prog G 117 [di x] σ R := by
  refine ac_enter mixed Tryz.func117 rfl Tryz.ntmps117 (by simp only [go_sem]) fun hbd => ?_
  simp only [List.length_cons, List.length_nil, Nat.reduceAdd, Nat.reduceSub, List.replicate_succ, List.replicate_zero, List.cons_append, List.nil_append]
  simp only [go_sem, Tryz.results117, bne_self_eq_false]
  exact ret_d0 h
theorem less_ac (x y : Int) (σ : St) (G : Glob) (R : A → St → Prop) (h : R (db (decide (x < y))) σ) : AC Tryz.prog G 107 [di x, di y] σ R := by
  refine ac_enter mixed Tryz.func107 rfl Tryz.ntmps107 (by simp only [go_sem]) fun hbd => ?_
  simp only [List.length_cons, List.length_nil, Nat.reduceAdd, Nat.reduceSub, List.replicate_succ, List.replicate_zero, List.cons_append, List.nil_append]
  simp only [go_sem]
  refine ac' (nan_ac _ _ _ _ ?_)
  simp only [go_sem]
  refine ex' (.bool false) ⟨fun hc => Bool.noConfusion hc, ?_⟩
  simp only [go_sem, Tryz.results107]
  exact ret_d0 h
abbrev ints (l : List Int) : Option Ob := some (.cells (l.map fun x => A.d (iD x)))
theorem getD_mapA {l : List Int} {j : Nat} (h : j < l.length) : List.getD (l.map fun x => A.d (iD x)) j .any = A.d (iD (l.getD j 0)) := by
  rw [List.getD_eq_getElem?_getD, List.getElem?_map, List.getD_eq_getElem?_getD, List.getElem?_eq_getElem h]; rfl

theorem objK_set {σ : St} {id : Nat} {cs : List A} {k : List A → Prop} (h : id < σ.length) : objK (σ.set id (some (.cells cs))) id k = k cs := by
  simp only [objK, List.getElem?_set, if_pos h, if_true]
theorem live_set {σ : St} {id : Nat} {o : Ob} (h : id < σ.length) : liveId (σ.set id (some o)) id = true := by
  simp only [liveId, List.getElem?_set, if_pos h, if_true]
theorem set_same {σ : St} {id : Nat} {o : Option Ob} (h : σ[id]? = some o) : σ.set id o = σ := by
  apply List.ext_getElem?
  intro k
  rw [List.getElem?_set]
  split
  · rename_i e; subst e
    rw [if_pos (List.getElem?_eq_some_iff.1 h).1, h]
  · rfl
theorem splice_ints {l : List Int} {j : Nat} (x : Int) (h : j < l.length) : (l.map fun x => A.d (iD x)).take j ++ [A.d (iD x)] ++ (l.map fun x => A.d (iD x)).drop (j + 1) = (l.set j x).map fun x => A.d (iD x) := by
  rw [← List.map_take, ← List.map_drop, List.set_eq_take_append_cons_drop, if_pos h]
  simp
theorem splice_ints' {l : List Int} {j : Nat} (x : Int) (h : j < l.length) : (l.map fun x => A.d (iD x)).take j ++ A.d (iD x) :: (l.map fun x => A.d (iD x)).drop (j + 1) = (l.set j x).map fun x => A.d (iD x) := by
  rw [← splice_ints x h]; simp
theorem set_getD {l : List Int} {j k : Nat} {x : Int} (h : j < l.length) : (l.set j x).getD k 0 = if k = j then x else l.getD k 0 := by
  rw [List.getD_eq_getElem?_getD, List.getElem?_set, List.getD_eq_getElem?_getD]
  split
  · rename_i e; subst e; simp [h]
  · rename_i e; rw [if_neg (fun e' => e e'.symm)]
/-- Neighbours change places. -/
theorem swap_perm : ∀ {l : List Int} {j : Nat}, j + 1 < l.length → ((l.set (j + 1) (l.getD j 0)).set j (l.getD (j + 1) 0)).Perm l
  | [], j, h => by simp at h
  | [x], j, h => by simp at h
  | x :: y :: l, 0, _ => by simpa [List.getD] using List.Perm.swap x y l
  | x :: y :: l, j + 1, h => by
    have := swap_perm (l := y :: l) (j := j) (by simpa using h)
    simpa [List.getD] using this.cons x
/-- Sorting the cells of an object of the caller's, in place. -/
theorem insort_ac (l : List Int) (hl : l.length ≤ 12) (σ : St) (id : Nat) (w : Option TypeId) (hσ : σ[id]? = some (ints l)) (G : Glob) (R : A → St → Prop)
    (h : ∀ (r : A) (l' : List Int), l'.Perm l → (∀ p q, p < q → q < l.length → l'.getD p 0 ≤ l'.getD q 0) → R r (σ.set id (ints l'))) : AC Tryz.prog G 101 [.rs id 1 0 l.length w, dn 0, dn l.length] σ R := by
  refine ac_enter mixed Tryz.func101 rfl Tryz.ntmps101 (by simp only [go_sem]) fun hbd => ?_
  simp only [List.length_cons, List.length_nil, Nat.reduceAdd, Nat.reduceSub, List.replicate_succ, List.replicate_zero, List.cons_append, List.nil_append]
  have w1 : IntKind.i64.wrap (0 + 1) = ((1 : Nat) : Int) := by rw [wrap64_id _ (by omega) (by omega)]; rfl
  have hid : id < σ.length := (List.getElem?_eq_some_iff.1 hσ).1
  simp only [go_sem, w1]
  refine aw_loop (fun m fr st => ∃ (i : Nat) (l' : List Int), 1 ≤ i ∧ m = l.length - i ∧ l'.Perm l ∧ (∀ p q, p < q → q < i → l'.getD p 0 ≤ l'.getD q 0) ∧ st = σ.set id (ints l') ∧ fr = [.rs id 1 0 l.length w, dn 0, dn l.length, .any, .any, .any, dn i, .any, .any, .any, .any, .any, .any, .any, .any, .any, .any, .any, .any, .any, .any, .any, .any, .any, .any, .any, .any, .any, .any, .any, .any, .any, .any, .any, .any, .any, .any, .any, .any, .any, .any, .any, .any, .any, .any, .any, .any, .any, .any]) (l.length - 1) _
    (Wk.mask [0, 1, 2, 6] ⟨1, l, by omega, rfl, .refl _, fun p q h1 h2 => by omega, (set_same hσ).symm, rfl⟩) ?_
  rintro m fr st ⟨i, l', hi, hm, hp, hs, rfl, rfl⟩
  rcases Nat.lt_or_ge i l.length with hlt | hge
  · have hd : decide ((i : Int) < (l.length : Int)) = true := decide_eq_true (by omega)
    have w2 := wrapS i (by omega)
    simp only [go_sem, hd, w2]
    refine aw_loop (fun m fr st => ∃ (j : Nat) (l' : List Int), j ≤ i ∧ m = j ∧ l'.Perm l ∧ (∀ p q, p < q → q ≤ i → q ≠ j → l'.getD p 0 ≤ l'.getD q 0) ∧ st = σ.set id (ints l') ∧ fr = [.rs id 1 0 l.length w, dn 0, dn l.length, .any, .any, .any, dn i, dn j, .any, .any, .any, .any, .any, .any, .any, .any, .any, .any, .any, .any, .any, .any, .any, .any, .any, .any, .any, .any, .any, .any, .any, .any, .any, .any, .any, .any, .any, .any, .any, .any, .any, .any, .any, .any, .any, .any, .any, .any, .any]) i _
      (Wk.mask [0, 1, 2, 6, 7] ⟨i, l', by omega, rfl, hp, fun p q h1 h2 h3 => hs p q h1 (by omega), rfl, rfl⟩) ?_
    clear hs hp
    rintro m' fr st ⟨j, l'', hj, rfl, hp, hs, rfl, rfl⟩
    have hlen : l''.length = l.length := hp.length_eq
    rcases Nat.eq_zero_or_pos m' with h0 | h0
    · subst h0
      have d0 : decide (((0 : Nat) : Int) < ((0 : Nat) : Int)) = false := rfl
      simp only [go_sem, objK_set hid, live_set hid, d0]
      refine ex' (.bool false) ⟨fun hc => Bool.noConfusion hc, ?_⟩
      simp only [go_sem, w2]
      exact Wk.mask [0, 1, 2, 6] ⟨l.length - (i + 1), by omega, i + 1, l'', by omega, rfl, hp, fun p q h1 h2 => hs p q h1 (by omega) (by omega), rfl, rfl⟩
    · have d0 : decide (((0 : Nat) : Int) < (m' : Int)) = true := decide_eq_true (by omega)
      have w3 : IntKind.i64.wrap ((m' : Int) - 1) = ((m' - 1 : Nat) : Int) := by rw [wrap64_id _ (by omega) (by omega)]; omega
      have e1 : List.getD (l''.map fun x => A.d (iD x)) m' .any = A.d (iD (l''.getD m' 0)) := getD_mapA (by omega)
      have e2 : List.getD (l''.map fun x => A.d (iD x)) (m' - 1) .any = A.d (iD (l''.getD (m' - 1) 0)) := getD_mapA (by omega)
      simp only [go_sem, objK_set hid, live_set hid, d0, w3, e1, e2, Nat.mul_one, Nat.zero_add, List.length_map]
      refine ⟨by omega, by omega, by omega, by omega, ex' (.bool (decide (l''.getD m' 0 < l''.getD (m' - 1) 0))) ⟨fun hc => ?_, ?_⟩⟩
      · simp only [go_sem, e1, e2]
        refine ac' (less_ac _ _ _ _ _ ?_)
        exact ⟨rfl, rfl⟩
      simp only [go_sem, objK_set hid, live_set hid, w3, e1, e2, Nat.mul_one, Nat.zero_add, List.length_map, List.set_set]
      refine ⟨fun hc => ⟨⟨by omega, by omega⟩, by omega, ⟨by omega, by omega⟩, by omega, ⟨by omega, by omega⟩, by omega, ⟨by omega, by omega⟩, by simp only [List.length_take, List.length_drop, List.length_map]; omega, ?_⟩, fun hc => ?_⟩
      · obtain ⟨j, rfl⟩ : ∃ j, m' = j + 1 := ⟨m' - 1, by omega⟩
        simp only [decide_eq_true_eq, Nat.add_sub_cancel] at hc
        refine Wk.mask [0, 1, 2, 6, 7] ⟨j, by omega, j, (l''.set (j + 1) (l''.getD j 0)).set j (l''.getD (j + 1) 0), by omega, rfl, (swap_perm (by omega)).trans hp, fun p q h1 h2 h3 => ?_, ?_, rfl⟩
        · have gk : ∀ k, ((l''.set (j + 1) (l''.getD j 0)).set j (l''.getD (j + 1) 0)).getD k 0 = if k = j then l''.getD (j + 1) 0 else if k = j + 1 then l''.getD j 0 else l''.getD k 0 := fun k => by
            rw [set_getD (by simp; omega), set_getD (by omega)]
          rw [gk p, gk q]
          by_cases q1 : q = j + 1
          · rw [if_neg (show ¬ q = j by omega), if_pos q1]
            by_cases p1 : p = j
            · rw [if_pos p1]; omega
            · rw [if_neg p1, if_neg (show ¬ p = j + 1 by omega)]; exact hs p j (by omega) (by omega) (by omega)
          · rw [if_neg (show ¬ q = j from h3), if_neg q1]
            by_cases p1 : p = j
            · rw [if_pos p1]; exact hs (j + 1) q (by omega) h2 q1
            · by_cases p2 : p = j + 1
              · rw [if_neg p1, if_pos p2]; exact hs j q (by omega) h2 q1
              · rw [if_neg p1, if_neg p2]; exact hs p q h1 h2 q1
        · simp only [Nat.add_sub_cancel]
          rw [splice_ints' _ (by omega), splice_ints' _ (by simp; omega)]
      · simp only [w2]
        simp only [decide_eq_false_iff_not] at hc
        refine Wk.mask [0, 1, 2, 6] ⟨l.length - (i + 1), by omega, i + 1, l'', by omega, rfl, hp, fun p q h1 h2 => ?_, rfl, rfl⟩
        by_cases hq : q = m'
        · subst hq
          by_cases hp1 : p = q - 1
          · subst hp1; omega
          · have := hs p (q - 1) (by omega) (by omega) (by omega); omega
        · exact hs p q h1 (by omega) hq
  · have hd : decide ((i : Int) < (l.length : Int)) = false := decide_eq_false (by omega)
    simp only [go_sem, hd, Tryz.results101]
    exact ⟨_, _, Weak.refl _ _ _ _, h _ l' hp fun p q h1 h2 => hs p q h1 (by omega)⟩

theorem len64_ac (x : Nat) (hx : x ≤ 12) (σ : St) (G : Glob) (R : A → St → Prop) (h : ∀ n, R (di n) σ) : AC Tryz.prog G 111 [.d (.int .u64 x)] σ R := by
  refine ac_enter mixed Tryz.func111 rfl Tryz.ntmps111 (by simp only [go_sem]) fun hbd => ?_
  simp only [List.length_cons, List.length_nil, Nat.reduceAdd, Nat.reduceSub, List.replicate_succ, List.replicate_zero, List.cons_append, List.nil_append]
  have d1 : decide ((4294967296 : Int) ≤ (x : Int)) = false := decide_eq_false (by omega)
  have d2 : decide ((65536 : Int) ≤ (x : Int)) = false := decide_eq_false (by omega)
  have d3 : decide ((256 : Int) ≤ (x : Int)) = false := decide_eq_false (by omega)
  have w1 : IntKind.u8.wrap (x : Int) = (x : Int) := by rw [IntKind.wrap_u8]; omega
  simp only [go_sem, d1, d2, d3, w1, Tryz.results111]
  exact ⟨⟨by omega, Int.ofNat_lt.2 (Nat.lt_of_le_of_lt hx (by decide))⟩, ret_d0 (h _)⟩
theorem bitlen_ac (x : Nat) (hx : x ≤ 12) (σ : St) (G : Glob) (R : A → St → Prop) (h : ∀ n, R (di n) σ) : AC Tryz.prog G 100 [.d (.int .u64 x)] σ R := by
  refine ac_enter mixed Tryz.func100 rfl Tryz.ntmps100 (by simp only [go_sem]) fun hbd => ?_
  simp only [List.length_cons, List.length_nil, Nat.reduceAdd, Nat.reduceSub, List.replicate_succ, List.replicate_zero, List.cons_append, List.nil_append]
  simp only [go_sem]
  refine ac' (len64_ac x hx _ _ _ fun n => ?_)
  simp only [go_sem, Tryz.results100]
  exact ret_d0 (h _)
theorem pdq_ac (l : List Int) (hl : l.length ≤ 12) (n : Int) (σ : St) (id : Nat) (w : Option TypeId) (hσ : σ[id]? = some (ints l)) (G : Glob) (R : A → St → Prop)
    (h : ∀ (r : A) (l' : List Int), l'.Perm l → (∀ p q, p < q → q < l.length → l'.getD p 0 ≤ l'.getD q 0) → R r (σ.set id (ints l'))) : AC Tryz.prog G 99 [.rs id 1 0 l.length w, dn 0, dn l.length, di n] σ R := by
  refine ac_enter mixed Tryz.func99 rfl Tryz.ntmps99 (by simp only [go_sem]) fun hbd => ?_
  simp only [List.length_cons, List.length_nil, Nat.reduceAdd, Nat.reduceSub, List.replicate_succ, List.replicate_zero, List.cons_append, List.nil_append]
  have w1 : IntKind.i64.wrap ((l.length : Int) - ((0 : Nat) : Int)) = (l.length : Int) := by rw [wrap64_id _ (by omega) (by omega)]; omega
  have d1 : decide ((l.length : Int) ≤ 12) = true := decide_eq_true (by omega)
  simp only [go_sem]
  refine aw_loop (fun m fr st => st = σ ∧ fr = [.rs id 1 0 l.length w, dn 0, dn l.length, di n, .any, .any, .any, .any, db true, db true, .any, .any, .any, .any, .any, .any, .any, .any, .any, .any, .any, .any, .any, .any, .any, .any, .any, .any, .any, .any, .any, .any, .any, .any, .any, .any, .any, .any, .any, .any, .any, .any, .any, .any, .any, .any, .any, .any, .any, .any, .any, .any, .any, .any, .any, .any, .any, .any, .any, .any, .any, .any, .any, .any, .any, .any, .any, .any, .any, .any, .any, .any, .any, .any, .any, .any, .any, .any, .any, .any, .any, .any, .any, .any, .any, .any, .any, .any, .any, .any, .any, .any, .any, .any, .any, .any, .any, .any, .any, .any, .any, .any, .any, .any, .any, .any, .any, .any, .any, .any, .any, .any, .any, .any, .any, .any, .any, .any, .any, .any, .any, .any, .any, .any, .any, .any, .any, .any, .any, .any, .any, .any, .any, .any]) 0 _ (Wk.mask [0, 1, 2, 3, 8, 9] ⟨rfl, rfl⟩) ?_
  rintro m fr st ⟨rfl, rfl⟩
  simp only [go_sem, w1, d1, Tryz.results99]
  refine ac' (insort_ac l hl _ _ _ hσ _ _ fun r l' hp hs => ?_)
  simp only [go_sem, Tryz.results99]
  exact ⟨_, _, Weak.refl _ _ _ _, h _ l' hp hs⟩
theorem sort_ac (l : List Int) (hl : l.length ≤ 12) (σ : St) (id : Nat) (w : Option TypeId) (hσ : σ[id]? = some (ints l)) (G : Glob) (R : A → St → Prop)
    (h : ∀ (r : A) (l' : List Int), l'.Perm l → (∀ p q, p < q → q < l.length → l'.getD p 0 ≤ l'.getD q 0) → R r (σ.set id (ints l'))) : AC Tryz.prog G 97 [.rs id 1 0 l.length w] σ R := by
  refine ac_enter mixed Tryz.func97 rfl Tryz.ntmps97 (by simp only [go_sem]) fun hbd => ?_
  simp only [List.length_cons, List.length_nil, Nat.reduceAdd, Nat.reduceSub, List.replicate_succ, List.replicate_zero, List.cons_append, List.nil_append]
  have w1 : IntKind.u64.wrap (l.length : Int) = (l.length : Int) := by rw [IntKind.wrap_u64]; omega
  have hlive := live_of hσ
  simp only [go_sem, w1, hlive]
  refine ac' (bitlen_ac l.length hl _ _ _ fun n => ?_)
  simp only [go_sem]
  refine ac' (pdq_ac l hl n _ _ _ hσ _ _ fun r l' hp hs => ?_)
  simp only [go_sem, Tryz.results97]
  exact ⟨_, _, Weak.refl _ _ _ _, h _ l' hp hs⟩
end Go.Proofs.YtmjlhbkgljcnoaaGreatDoor.Srt
end PartT11

section PartT12
/- slices: Clone, Equal, Contains, Concat, Compact; the union of two lists. -/
set_option linter.unusedSimpArgs false
set_option linter.unusedVariables false
set_option maxRecDepth 100000
namespace Go.Proofs.YtmjlhbkgljcnoaaGreatDoor
open Go Go.Ab

@[go_sem, go_sem ↓] theorem rdSlice_nils {P : Program} {σ : St} {k : Prop → A → Prop} (t : TypeId) (lo hi : Option A) : rdSlice P σ t k (.d .nils) lo hi = b2K (boundV lo 0) (boundV hi 0) fun l h => k ((elemT P t).isSome = true ∧ l = 0 ∧ h = 0) (.d .nils) := by
  simp only [rdSlice, b2K]
  rcases boundV lo 0 with _ | _ <;> rcases boundV hi 0 with _ | _ <;> rfl
theorem either_of {p : Prop} {b : Bool} {k : A → St → Prop} {σ : St} (h1 : p → k (.d (.bool (true == b))) σ) (h2 : k (.d (.bool (false == b))) σ) : eitherK p b k σ := fun r hr => by
  cases r
  · exact h2
  · exact h1 (hr rfl)
theorem flat_ints (l : List Int) : flat (l.map iD) = l.map fun x => A.d (iD x) := by
  induction l with
  | nil => rfl
  | cons x l ih => simp only [List.map_cons, flat_cons, ih]; rfl
theorem clone_ints (xs : List Int) (hl : xs.length ≤ 1000000) (σ : St) (G : Glob) (R : A → St → Prop) (h : R (.d (isD xs)) σ) : AC Tryz.prog G 63 [.d (isD xs)] σ R := by
  unfold isD at h ⊢
  refine ac_enter mixed Tryz.func63 rfl Tryz.ntmps63 (by simp only [go_sem]) fun hbd => ?_
  simp only [List.length_cons, List.length_nil, Nat.reduceAdd, Nat.reduceSub, List.replicate_succ, List.replicate_zero, List.cons_append, List.nil_append]
  simp only [go_sem, Tryz.results63]
  refine either_of (fun e => ?_) ?_
  · have hx : xs = [] := by simpa using e
    subst hx
    simp only [go_sem, Tryz.results63]
    refine ret_w (Weak.nils ?_) (ret_d0 h)
    exact NilAL.cons (.d (.nil _)) .nil
  · simp only [go_sem, Tryz.results63]
    rw [flat_ints, List.length_map]
    refine ⟨⟨by simp only [maxLen]; omega, by omega⟩, ?_⟩
    refine ret_frz 1 1 0 (xs.map iD) rfl (lies_ints xs) ?_
    simp only [go_sem, List.length_map]
    exact ret_d hbd h
theorem equal_ints (xs ys : List Int) (hn : xs.length ≤ 1000000) (σ : St) (G : Glob) (R : A → St → Prop) (h : R (db (xs == ys)) σ) : AC Tryz.prog G 70 [.d (isD xs), .d (isD ys)] σ R := by
  unfold isD
  by_cases hl : xs.length = ys.length
  · have e0 : ((xs.length : Int) != (ys.length : Int)) = false := by simp [hl]
    refine ac_enter' mixed Tryz.func70 rfl Tryz.ntmps70 (by simp only [go_sem]) fun hbd => ?_
    simp only [List.length_cons, List.length_nil, Nat.reduceAdd, Nat.reduceSub, List.replicate_succ, List.replicate_zero, List.cons_append, List.nil_append]
    simp only [go_sem, List.length_map, e0, Tryz.results70]
    refine aw_loop (fun m fr st => ∃ j : Nat, j ≤ xs.length ∧ m = xs.length - j ∧ xs.take j = ys.take j ∧ st = σ ∧ fr = [.d (.sl 1 (xs.map iD)), .d (.sl 1 (ys.map iD)), .any, .any, .any, .any, .any, .any, .any, .any, .any, .any, dn xs.length, dn j, .any, .any, .any, .any, .any, .any, .any, .any, .any, .any, .any, .any]) xs.length _ (Wk.mask [0, 1, 12, 13] ⟨0, by omega, by omega, rfl, rfl, rfl⟩) ?_
    rintro m fr st ⟨j, hj, hm, ht, rfl, rfl⟩
    rcases Nat.lt_or_ge j xs.length with hlt | hge
    · have hd : decide ((j : Int) < (xs.length : Int)) = true := by simp; omega
      have w2 := wrapS j (by omega)
      have hlt2 : j < ys.length := by omega
      simp only [go_sem, hd, Tryz.results70]
      refine aw_plan (.tk 9 0 <| .done) (by kernel_rfl) ?_
      simp only [go_sem, List.length_map, getD_isD hlt, getD_isD hlt2, Int.toNat_natCast, w2, Tryz.results70]
      refine ⟨⟨by omega, by omega⟩, ⟨by omega, by omega⟩, fun c => ?_, fun c => ?_⟩
      · have hne : xs.getD j 0 ≠ ys.getD j 0 := by simpa using c
        have e : (xs == ys) = false := by
          rw [Bool.eq_false_iff]; intro e; simp at e; subst e; exact hne rfl
        rw [e] at h
        exact ret_d0 h
      · have he : xs.getD j 0 = ys.getD j 0 := by simpa using c
        exact Wk.mask [0, 1, 12, 13] ⟨xs.length - (j + 1), by omega, j + 1, by omega, rfl, by rw [take_snoc 0 hlt, take_snoc 0 hlt2, ht, he], rfl, rfl⟩
    · have hd : decide ((j : Int) < (xs.length : Int)) = false := by simp; omega
      rw [List.take_of_length_le hge, List.take_of_length_le (by omega)] at ht
      subst ht
      simp only [go_sem, hd, Tryz.results70]
      rw [beq_self_eq_true] at h
      exact ret_d0 h
  · have e0 : ((xs.length : Int) != (ys.length : Int)) = true := by simp; omega
    have e : (xs == ys) = false := by
      rw [Bool.eq_false_iff]; intro e; simp at e; subst e; exact hl rfl
    rw [e] at h
    refine ac_enterC' [3] mixed Tryz.func70 rfl Tryz.ntmps70 (by simp only [go_sem]) fun hbd => ?_
    simp only [List.length_cons, List.length_nil, Nat.reduceAdd, Nat.reduceSub, List.replicate_succ, List.replicate_zero, List.cons_append, List.nil_append]
    simp only [go_sem]
    refine aw_cut (fun _ _ => False) ?_ (fun _ _ h => h.elim)
    simp only [go_sem, List.length_map, e0, Tryz.results70]
    exact ret_d0 h
theorem index_ac (xs : List Int) (hn : xs.length ≤ 1000000) (c : Int) (σ : St) (G : Glob) (R : A → St → Prop) (h : ∀ i : Int, decide (0 ≤ i) = decide (c ∈ xs) → R (di i) σ) : AC Tryz.prog G 62 [.d (isD xs), di c] σ R := by
  unfold isD
  refine ac_enter mixed Tryz.func62 rfl Tryz.ntmps62 (by simp only [go_sem]) fun hbd => ?_
  simp only [List.length_cons, List.length_nil, Nat.reduceAdd, Nat.reduceSub, List.replicate_succ, List.replicate_zero, List.cons_append, List.nil_append]
  simp only [go_sem, List.length_map, Tryz.results62]
  refine aw_loop (fun m fr st => ∃ j : Nat, j ≤ xs.length ∧ m = xs.length - j ∧ (c ∉ xs.take j) ∧ st = σ ∧ fr = [.d (.sl 1 (xs.map iD)), di c, .any, .any, .any, .any, .any, dn xs.length, dn j, .any, .any, .any, .any, .any, .any, .any, .any, .any, .any]) xs.length _ (Wk.mask [0, 1, 7, 8] ⟨0, by omega, by omega, by simp, rfl, rfl⟩) ?_
  rintro m fr st ⟨j, hj, hm, ht, rfl, rfl⟩
  rcases Nat.lt_or_ge j xs.length with hlt | hge
  · have hd : decide ((j : Int) < (xs.length : Int)) = true := by simp; omega
    have w2 := wrapS j (by omega)
    simp only [go_sem, hd, List.length_map, getD_isD hlt, Int.toNat_natCast, w2, Tryz.results62]
    refine ⟨⟨by omega, by omega⟩, fun q => ret_d0 (h _ ?_), fun q => Wk.mask [0, 1, 7, 8] ⟨xs.length - (j + 1), by omega, j + 1, by omega, rfl, ?_, rfl, rfl⟩⟩
    · have q' : c = xs.getD j 0 := by simpa using q
      have : c ∈ xs := q' ▸ getD_mem 0 hlt
      simp [this]
    · have q' : ¬ c = xs.getD j 0 := by simpa using q
      rw [take_snoc 0 hlt, List.mem_append]
      rintro (h1 | h1)
      · exact ht h1
      · exact q' (by simpa using h1)
  · have hd : decide ((j : Int) < (xs.length : Int)) = false := by simp; omega
    simp only [go_sem, hd, Tryz.results62]
    rw [List.take_of_length_le hge] at ht
    exact ret_d0 (h _ (by simp [ht]))
theorem contains_ac (xs : List Int) (hn : xs.length ≤ 1000000) (c : Int) (σ : St) (G : Glob) (R : A → St → Prop) (h : R (db (decide (c ∈ xs))) σ) : AC Tryz.prog G 26 [.d (isD xs), di c] σ R := by
  refine ac_enter mixed Tryz.func26 rfl Tryz.ntmps26 (by simp only [go_sem]) fun hbd => ?_
  simp only [List.length_cons, List.length_nil, Nat.reduceAdd, Nat.reduceSub, List.replicate_succ, List.replicate_zero, List.cons_append, List.nil_append]
  simp only [go_sem, Tryz.results26]
  refine ac' (index_ac xs hn c _ _ _ fun i hi => ?_)
  simp only [go_sem, hi, Tryz.results26]
  exact ret_d0 h
theorem grow_ac (n : Nat) (hn : n ≤ 1000000) (σ : St) (G : Glob) (R : A → St → Prop) (h0 : n = 0 → R (.d .nils) σ) (h : R (.rs σ.length 1 0 0 (some 3)) (σ ++ [some (.cells [])])) : AC Tryz.prog G 67 [.d .nils, dn n] σ R := by
  have d1 : decide ((n : Int) < 0) = false := by simp
  have w0 : IntKind.i64.wrap (0 - 0) = 0 := by decide
  have w1 : IntKind.i64.wrap ((n : Int) - 0) = (n : Int) := by rw [wrap64_id _ (by omega) (by omega)]; omega
  have hk : isIntK Tryz.prog 3 = true := by kernel_rfl
  refine ac_enter mixed Tryz.func67 rfl Tryz.ntmps67 (by simp only [go_sem]) fun hbd => ?_
  simp only [List.length_cons, List.length_nil, Nat.reduceAdd, Nat.reduceSub, List.replicate_succ, List.replicate_zero, List.cons_append, List.nil_append]
  simp only [go_sem, d1, w0, w1, Tryz.results67]
  refine ⟨fun q => ?_, fun q => ret_d0 (h0 (by simpa using q))⟩
  simp only [go_sem, hk]
  have q' : (0 : Int) < n := by simpa using q
  exact ⟨rfl, ⟨q', by simp only [maxLen]; omega, by omega⟩, ⟨by omega, by omega⟩, _, _, Weak.refl _ _ _ _, h⟩
def intsO (l : List Int) : Option Ob := some (.cells (l.map fun x => A.d (iD x)))
theorem concat_ac (xs ys : List Int) (h1 : xs.length ≤ 100000) (h2 : ys.length ≤ 100000) (σ : St) (G : Glob) (R : A → St → Prop) (h : R (.rs σ.length 1 0 (xs.length + ys.length) (some 3)) (σ ++ [intsO (xs ++ ys)])) : AC Tryz.prog G 33 [.d (.sl 1 [isD xs, isD ys])] σ R := by
  obtain ⟨L, hL⟩ : ∃ L, [xs, ys] = L := ⟨_, rfl⟩
  have hLD : [isD xs, isD ys] = L.map isD := by rw [← hL]; rfl
  rw [hLD]
  have hLl : L.length = 2 := by rw [← hL]; rfl
  refine ac_enterC [9, 10] mixed Tryz.func33 rfl Tryz.ntmps33 (by simp only [go_sem]) fun hbd => ?_
  simp only [List.length_cons, List.length_nil, Nat.reduceAdd, Nat.reduceSub, List.replicate_succ, List.replicate_zero, List.cons_append, List.nil_append]
  simp only [go_sem, List.length_map, Tryz.results33]
  refine aw_cut (fun fr st => fr = [.d (.sl 1 (L.map isD)), .any, .any, dn (xs.length + ys.length), .any, .any, .any, .any, .any, .any, .any, .any, .any, .any, .any, .any, .any, .any, .any, .any, .any, .any, .any, .any, .any, .any, .any, .any, .any, .any, .any, .any, .any, .any, .any, .any] ∧ st = σ) ?_ ?_
  · simp only [go_sem, List.length_map, Tryz.results33]
    refine aw_loop (fun m fr st => ∃ j : Nat, j ≤ L.length ∧ m = L.length - j ∧ fr = [.d (.sl 1 (L.map isD)), .any, .any, dn ((L.take j).map List.length).sum, .any, .any, .any, .any, .any, .d (.sl 1 (L.map isD)), dn L.length, dn j, .any, .any, .any, .any, .any, .any, .any, .any, .any, .any, .any, .any, .any, .any, .any, .any, .any, .any, .any, .any, .any, .any, .any, .any] ∧ st = σ) L.length _ (Wk.mask [0, 3, 9, 10, 11] ⟨0, by omega, rfl, rfl, rfl⟩) ?_
    rintro m fr st ⟨j, hj, hm, rfl, rfl⟩
    rcases Nat.lt_or_ge j L.length with hlt | hge
    · have hd : decide ((j : Int) < (L.length : Int)) = true := by simp; omega
      have w2 := wrapS j (by omega)
      have e1 : List.getD (L.map isD) j default = isD (L.getD j []) := getD_mapD hlt
      have hs : ((L.take (j + 1)).map List.length).sum = ((L.take j).map List.length).sum + (L.getD j []).length := by rw [take_snoc [] hlt, List.map_append, List.sum_append]; simp
      have hb : ((L.take (j + 1)).map List.length).sum ≤ 200000 := by
        have : j = 0 ∨ j = 1 := by omega
        rcases this with rfl | rfl <;> rw [← hL] <;> simp <;> omega
      have w1 : IntKind.i64.wrap ((((L.take j).map List.length).sum : Nat) + ((L.getD j []).length : Int)) = (((L.take (j + 1)).map List.length).sum : Nat) := by rw [hs, wrap64_id _ (by omega) (by omega)]; omega
      have d0 : decide (((((L.take (j + 1)).map List.length).sum : Nat) : Int) < 0) = false := by simp
      simp only [go_sem, hd, e1, isD, List.length_map, Int.toNat_natCast, w1, w2, d0, Tryz.results33]
      exact ⟨⟨by omega, by omega⟩, Wk.mask [0, 3, 9, 10, 11] ⟨L.length - (j + 1), by omega, j + 1, by omega, rfl, rfl, rfl⟩⟩
    · have hd : decide ((j : Int) < (L.length : Int)) = false := by simp; omega
      obtain rfl : j = L.length := by omega
      have hs : ((L.take L.length).map List.length).sum = xs.length + ys.length := by rw [List.take_length, ← hL]; simp
      have hs' : (L.map List.length).sum = xs.length + ys.length := by rw [← hL]; simp
      simp only [go_sem, hd, Tryz.results33]
      exact Wk.mask [0, 3] ⟨by rw [hs']; rfl, rfl⟩
  · rintro fr st ⟨rfl, rfl⟩
    simp only [go_sem, Tryz.results33]
    refine aw_cut (fun fr s => fr = [.d (.sl 1 (L.map isD)), .any, .any, .any, .any, .any, .rs st.length 1 0 0 (some 3), .any, .any, .any, .any, .any, .any, .any, .any, .any, .any, .any, .any, .any, .any, .any, .any, .any, .any, .any, .any, .any, .any, .any, .any, .any, .any, .any, .any, .any] ∧ s = st ++ [intsO []]) ?_ ?_
    · simp only [go_sem, Tryz.results33]
      refine ac' (grow_ac (xs.length + ys.length) (by omega) _ _ _ (fun hz => ?_) ?_)
      · simp only [go_sem, List.length_map, Tryz.results33]
        exact ⟨_, _, (Weak.mask [0, 6]).trans (Weak.empty 6 1 (some 3) rfl), rfl, rfl⟩
      · simp only [go_sem, List.length_map, Tryz.results33]
        exact Wk.mask [0, 6] ⟨rfl, rfl⟩
    rintro fr s ⟨rfl, rfl⟩
    simp only [go_sem, List.length_map, Tryz.results33]
    refine aw_loop (fun m fr s => ∃ j : Nat, j ≤ L.length ∧ m = L.length - j ∧ fr = [.any, .any, .any, .any, .any, .any, .rs st.length 1 0 (L.take j).flatten.length (some 3), .any, .any, .any, .any, .any, .any, .any, .any, .any, .any, .any, .any, .any, .any, .any, .any, .any, .any, .d (.sl 1 (L.map isD)), dn L.length, dn j, .any, .any, .any, .any, .any, .any, .any, .any] ∧ s = st ++ [intsO (L.take j).flatten]) L.length _ (Wk.mask [6, 25, 26, 27] ⟨0, by omega, rfl, by simp; rfl, by simp⟩) ?_
    rintro m fr s ⟨j, hj, hm, rfl, rfl⟩
    rcases Nat.lt_or_ge j L.length with hlt | hge
    · have hd : decide ((j : Int) < (L.length : Int)) = true := by simp; omega
      have w2 := wrapS j (by omega)
      have e1 : List.getD (L.map isD) j default = isD (L.getD j []) := getD_mapD hlt
      have hs : (L.take (j + 1)).flatten = (L.take j).flatten ++ L.getD j [] := by rw [take_snoc [] hlt, List.flatten_append]; simp
      have hb : (L.take (j + 1)).flatten.length ≤ 200000 := by
        have : j = 0 ∨ j = 1 := by omega
        rcases this with rfl | rfl <;> rw [← hL] <;> simp <;> omega
      have hb2 : (L.take j).flatten.length + (L.getD j []).length = (L.take (j + 1)).flatten.length := by rw [hs, List.length_append]
      have fl := flat_ints (L.getD j [])
      simp only [intsO, go_sem, hd, e1, isD, List.length_map, Int.toNat_natCast, w2, fl, Tryz.results33]
      refine ⟨⟨by omega, by omega⟩, ⟨by omega, by simp only [maxLen]; omega, by omega⟩, Wk.keep [6, 25, 26, 27] [1] (by decide) (Nat.le_refl _) hbd ⟨L.length - (j + 1), by omega, j + 1, by omega, rfl, ?_, ?_⟩⟩
      · rw [← hb2]; simp only [go_sem]
      · rw [hs, List.map_append]; simp only [go_sem]
    · have hd : decide ((j : Int) < (L.length : Int)) = false := by simp; omega
      obtain rfl : j = L.length := by omega
      have hf : (L.take L.length).flatten = xs ++ ys := by rw [List.take_length, ← hL]; simp
      have hf' : L.flatten = xs ++ ys := by rw [← hL]; simp
      simp only [go_sem, hd, Tryz.results33]
      rw [hf', List.length_append]
      exact ⟨_, _, Weak.refl _ _ _ _, h⟩
end Go.Proofs.YtmjlhbkgljcnoaaGreatDoor
end PartT12

section PartT13
/- slices.Compact of a sorted slice: its elements, each once; the union of two lists. -/
set_option linter.unusedSimpArgs false
set_option linter.unusedVariables false
set_option maxRecDepth 100000
namespace Go.Proofs.YtmjlhbkgljcnoaaGreatDoor.Srt
open Go Go.Ab

/-- What an in-place removal of doubles has done. -/
structure Cpt (l : List Int) (k j n : Nat) (l' : List Int) : Prop where
  len : l'.length = l.length
  lo : 1 ≤ n
  hi : n < k + j
  same : ∀ i, n ≤ i → l'.getD i 0 = l.getD i 0
  str : ∀ p q, p < q → q < n → l'.getD p 0 < l'.getD q 0
  last : l'.getD (n - 1) 0 = l.getD (k + j - 1) 0
  mem : ∀ x, (∃ i, i < n ∧ l'.getD i 0 = x) ↔ ∃ i, i < k + j ∧ l.getD i 0 = x
theorem Cpt.start {l : List Int} {k : Nat} (hk : 1 ≤ k) (hkl : k < l.length) (hs : ∀ p q, p < q → q < l.length → l.getD p 0 ≤ l.getD q 0) (hne : ∀ q, q + 1 < k → l.getD q 0 ≠ l.getD (q + 1) 0) (he : l.getD k 0 = l.getD (k - 1) 0) : Cpt l k 1 k l where
  len := rfl
  lo := hk
  hi := by omega
  same := fun _ _ => rfl
  str := fun p q hpq hq => by
    have h1 := hs p (p + 1) (by omega) (by omega)
    have h2 := hne p (by omega)
    rcases Nat.lt_or_ge (p + 1) q with h | h
    · have := hs (p + 1) q h (by omega); omega
    · obtain rfl : q = p + 1 := by omega
      omega
  last := by rw [Nat.add_sub_cancel]; exact he.symm
  mem := fun x => by
    constructor
    · rintro ⟨i, hi, h⟩; exact ⟨i, by omega, h⟩
    · rintro ⟨i, hi, h⟩
      rcases Nat.lt_or_ge i k with h1 | h1
      · exact ⟨i, h1, h⟩
      · obtain rfl : i = k := by omega
        exact ⟨i - 1, by omega, by rw [← he]; exact h⟩
theorem Cpt.skip {l l' : List Int} {k j n : Nat} (h : Cpt l k j n l') (he : l.getD (k + j) 0 = l.getD (k + j - 1) 0) : Cpt l k (j + 1) n l' where
  len := h.len
  lo := h.lo
  hi := by have := h.hi; omega
  same := h.same
  str := h.str
  last := by rw [h.last, show k + (j + 1) - 1 = k + j by omega, he]
  mem := fun x => by
    rw [h.mem]
    have := h.hi
    constructor
    · rintro ⟨i, hi, h⟩; exact ⟨i, by omega, h⟩
    · rintro ⟨i, hi, h⟩
      rcases Nat.lt_or_ge i (k + j) with h1 | h1
      · exact ⟨i, h1, h⟩
      · obtain rfl : i = k + j := by omega
        exact ⟨k + j - 1, by omega, by rw [← he]; exact h⟩
theorem Cpt.put {l l' : List Int} {k j n : Nat} (h : Cpt l k j n l') (hkj : k + j < l.length) (hs : ∀ p q, p < q → q < l.length → l.getD p 0 ≤ l.getD q 0) (he : l.getD (k + j) 0 ≠ l.getD (k + j - 1) 0) : Cpt l k (j + 1) (n + 1) (l'.set n (l.getD (k + j) 0)) := by
  have h1 := h.hi
  have h2 := h.lo
  have hn : n < l'.length := by rw [h.len]; omega
  have hlt : l.getD (k + j - 1) 0 < l.getD (k + j) 0 := by have := hs (k + j - 1) (k + j) (by omega) hkj; omega
  refine ⟨by rw [List.length_set]; exact h.len, by omega, by omega, fun i hi => ?_, fun p q hpq hq => ?_, ?_, fun x => ?_⟩
  · rw [set_getD hn, if_neg (by omega)]; exact h.same i (by omega)
  · rw [set_getD hn, set_getD hn, if_neg (by omega)]
    by_cases hqn : q = n
    · rw [if_pos hqn]
      have hle : l'.getD p 0 ≤ l'.getD (n - 1) 0 := by
        rcases Nat.lt_or_ge p (n - 1) with hp | hp
        · have := h.str p (n - 1) hp (by omega); omega
        · obtain rfl : p = n - 1 := by omega
          omega
      rw [h.last] at hle; omega
    · rw [if_neg hqn]; exact h.str p q hpq (by omega)
  · rw [Nat.add_sub_cancel, set_getD hn, if_pos rfl]; rfl
  · constructor
    · rintro ⟨i, hi, hx⟩
      rw [set_getD hn] at hx
      by_cases hin : i = n
      · rw [if_pos hin] at hx; exact ⟨k + j, by omega, hx⟩
      · rw [if_neg hin] at hx
        obtain ⟨i', hi', hx'⟩ := (h.mem x).1 ⟨i, by omega, hx⟩
        exact ⟨i', by omega, hx'⟩
    · rintro ⟨i, hi, hx⟩
      rcases Nat.lt_or_ge i (k + j) with h3 | h3
      · obtain ⟨i', hi', hx'⟩ := (h.mem x).2 ⟨i, h3, hx⟩
        exact ⟨i', by omega, by rw [set_getD hn, if_neg (by omega)]; exact hx'⟩
      · obtain rfl : i = k + j := by omega
        exact ⟨n, by omega, by rw [set_getD hn, if_pos rfl]; exact hx⟩
theorem mem_getD {l : List Int} {x : Int} : x ∈ l ↔ ∃ i, i < l.length ∧ l.getD i 0 = x := by
  rw [List.mem_iff_getElem]
  constructor
  · rintro ⟨i, hi, h⟩; exact ⟨i, hi, by rw [List.getD_eq_getElem?_getD, List.getElem?_eq_getElem hi]; exact h⟩
  · rintro ⟨i, hi, h⟩; exact ⟨i, hi, by rw [List.getD_eq_getElem?_getD, List.getElem?_eq_getElem hi] at h; exact h⟩
theorem take_getD' {l : List Int} {n i : Nat} (h : i < n) : (l.take n).getD i 0 = l.getD i 0 := by
  rw [List.getD_eq_getElem?_getD, List.getElem?_take_of_lt h, List.getD_eq_getElem?_getD]
theorem nodup_str {l : List Int} (h : ∀ p q, p < q → q < l.length → l.getD p 0 < l.getD q 0) : l.Nodup := by
  unfold List.Nodup
  rw [List.pairwise_iff_getElem]
  intro p q hp hq hpq e
  have h1 := h p q hpq hq
  rw [List.getD_eq_getElem?_getD, List.getD_eq_getElem?_getD, List.getElem?_eq_getElem hp, List.getElem?_eq_getElem hq, e] at h1
  omega
theorem compact_ac (l : List Int) (hl : l.length ≤ 12) (hs : ∀ p q, p < q → q < l.length → l.getD p 0 ≤ l.getD q 0) (σ : St) (id : Nat) (w : Option TypeId) (hσ : σ[id]? = some (ints l)) (G : Glob) (R : A → St → Prop)
    (h : ∀ (cs : List A) (l2 : List Int), cs.take l2.length = (l2.map fun x => A.d (iD x)) → l2.Nodup → (∀ x, x ∈ l2 ↔ x ∈ l) → R (.rs id 1 0 l2.length w) (σ.set id (some (.cells cs)))) : AC Tryz.prog G 98 [.rs id 1 0 l.length w] σ R := by
  have h1 : (∀ k, k + 1 < l.length → l.getD k 0 ≠ l.getD (k + 1) 0) → R (.rs id 1 0 l.length w) σ := fun hn => by
    have := h (l.map fun x => A.d (iD x)) l (List.take_of_length_le (by simp)) (nodup_str fun p q hpq hq => by
      have h1 := hs p (p + 1) (by omega) (by omega)
      have h2 := hn p (by omega)
      rcases Nat.lt_or_ge (p + 1) q with h | h
      · have := hs (p + 1) q h (by omega); omega
      · obtain rfl : q = p + 1 := by omega
        omega) (fun x => Iff.rfl)
    rw [set_same hσ] at this
    exact this
  refine ac_enter mixed Tryz.func98 rfl Tryz.ntmps98 (by simp only [go_sem]) fun hbd => ?_
  simp only [List.length_cons, List.length_nil, Nat.reduceAdd, Nat.reduceSub, List.replicate_succ, List.replicate_zero, List.cons_append, List.nil_append]
  have hlive := live_of hσ
  rcases Nat.lt_or_ge l.length 2 with hlt | hge
  · have d1 : decide ((l.length : Int) < 2) = true := decide_eq_true (by omega)
    simp only [go_sem, hlive, d1, Tryz.results98]
    exact ⟨_, _, Weak.refl _ _ _ _, h1 fun k hk => by omega⟩
  · have d1 : decide ((l.length : Int) < 2) = false := decide_eq_false (by omega)
    simp only [go_sem, hlive, d1, Tryz.results98]
    refine aw_loop (fun m fr st => ∃ k : Nat, 1 ≤ k ∧ k ≤ l.length ∧ m = l.length - k ∧ (∀ q, q + 1 < k → l.getD q 0 ≠ l.getD (q + 1) 0) ∧ st = σ ∧ fr = [.rs id 1 0 l.length w, .any, .any, dn k, .any, .any, .any, .any, .any, .any, .any, .any, .any, .any, .any, .any, .any, .any, .any, .any, .any, .any, .any, .any, .any, .any, .any, .any, .any, .any, .any, .any, .any, .any, .any, .any, .any, .any, .any, .any, .any, .any, .any, .any, .any, .any, .any, .any, .any, .any, .any, .any, .any, .any, .any, .any, .any, .any, .any, .any, .any]) (l.length - 1) _
      (Wk.mask [0, 3] ⟨1, by omega, by omega, rfl, fun q hq => by omega, rfl, rfl⟩) ?_
    rintro m fr st ⟨k, hk, hk2, hm, hne, rfl, rfl⟩
    rcases Nat.lt_or_ge k l.length with klt | kge
    · have kd : decide ((k : Int) < (l.length : Int)) = true := decide_eq_true (by omega)
      have w2 := wrapS k (by omega)
      have w3 : IntKind.i64.wrap ((k : Int) - 1) = ((k - 1 : Nat) : Int) := by rw [wrap64_id _ (by omega) (by omega)]; omega
      have e1 : List.getD (l.map fun x => A.d (iD x)) k .any = A.d (iD (l.getD k 0)) := getD_mapA (by omega)
      have e2 : List.getD (l.map fun x => A.d (iD x)) (k - 1) .any = A.d (iD (l.getD (k - 1) 0)) := getD_mapA (by omega)
      have w4 : ((l.length : Int) - (k : Int)).toNat = l.length - k := by omega
      have hid : id < st.length := (List.getElem?_eq_some_iff.1 hσ).1
      simp only [go_sem, hlive, objK_of hσ, kd, w2, w3, w4, e1, e2, Nat.mul_one, Nat.zero_add, List.length_map]
      refine ⟨⟨by omega, by omega⟩, klt, ⟨by omega, by omega⟩, by omega, fun he => ⟨⟨by omega, by omega, by omega⟩, ?_⟩, fun hn => ?_⟩
      · have he' : l.getD k 0 = l.getD (k - 1) 0 := by simpa using he
        refine aw_loop (fun m fr s => ∃ (j n : Nat) (l' : List Int), 1 ≤ j ∧ j ≤ l.length - k ∧ m = l.length - k - j ∧ k ≤ n ∧ Cpt l k j n l' ∧ s = st.set id (ints l') ∧
          fr = [.rs id 1 0 l.length w, .any, .any, dn n, .rs id 1 k (l.length - k) none, dn j, .any, .any, .any, .any, .any, .any, .any, .any, .any, .any, .any, .any, .any, .any, .any, .any, .any, .any, .any, .any, .any, .any, .any, .any, .any, .any, .any, .any, .any, .any, .any, .any, .any, .any, .any, .any, .any, .any, .any, .any, .any, .any, .any, .any, .any, .any, .any, .any, .any, .any, .any, .any, .any, .any, .any]) (l.length - k - 1) _
          (Wk.mask [0, 3, 4, 5] ⟨1, k, l, by omega, by omega, rfl, by omega, Cpt.start hk klt hs hne he', (set_same hσ).symm, rfl⟩) ?_
        rintro m' fr s ⟨j, n, l', hj, hj2, hm', hn1, hC, rfl, rfl⟩
        have hl' := hC.len
        have hn2 := hC.hi
        rcases Nat.lt_or_ge j (l.length - k) with jlt | jge
        · have jd : decide ((j : Int) < ((l.length - k : Nat) : Int)) = true := decide_eq_true (by omega)
          have w5 : IntKind.i64.wrap ((j : Int) - 1) = ((j - 1 : Nat) : Int) := by rw [wrap64_id _ (by omega) (by omega)]; omega
          have w6 := wrapS j (by omega)
          have w7 := wrapS n (by omega)
          have e3 : List.getD (l'.map fun x => A.d (iD x)) (k + j) .any = A.d (iD (l.getD (k + j) 0)) := by rw [getD_mapA (by omega), hC.same _ (by omega)]
          have e4 : List.getD (l'.map fun x => A.d (iD x)) (k + (j - 1)) .any = A.d (iD (l.getD (k + j - 1) 0)) := by rw [getD_mapA (by omega), hC.same _ (by omega), show k + (j - 1) = k + j - 1 by omega]
          simp only [go_sem, live_set hid, objK_set hid, jd, w5, w6, w7, e3, e4, Nat.mul_one, Nat.zero_add, List.length_map, List.set_set]
          refine ⟨⟨by omega, by omega⟩, by omega, ⟨by omega, by omega⟩, by omega, fun hne => ⟨⟨by omega, by omega⟩, by omega, ⟨by omega, by omega⟩, by omega, ?_⟩, fun heq => ?_⟩
          · rw [splice_ints' _ (by omega)]
            exact Wk.mask [0, 3, 4, 5] ⟨l.length - k - (j + 1), by omega, j + 1, n + 1, _, by omega, by omega, rfl, by omega, hC.put (by omega) hs (by simpa using hne), rfl, rfl⟩
          · exact Wk.mask [0, 3, 4, 5] ⟨l.length - k - (j + 1), by omega, j + 1, n, l', by omega, by omega, rfl, by omega, hC.skip (by simpa using heq), rfl, rfl⟩
        · have jd : decide ((j : Int) < ((l.length - k : Nat) : Int)) = false := decide_eq_false (by omega)
          have w8 : ((l.length : Int) - (n : Int)).toNat = l.length - n := by omega
          have hll : k + j = l.length := by omega
          simp only [go_sem, live_set hid, objK_set hid, jd, w8, Nat.mul_one, Nat.zero_add, List.length_map, List.set_set, Tryz.results98]
          have hln : (l'.take n).length = n := by rw [List.length_take]; omega
          have hend := fun cs hcs => h cs (l'.take n) hcs (nodup_str fun p q hpq hq => by
            rw [hln] at hq
            rw [take_getD' (by omega), take_getD' hq]; exact hC.str p q hpq hq) (fun x => by
            rw [mem_getD, mem_getD, hln, ← hll, ← hC.mem x]
            constructor
            · rintro ⟨i, hi, hx⟩; exact ⟨i, hi, by rw [take_getD' hi] at hx; exact hx⟩
            · rintro ⟨i, hi, hx⟩; exact ⟨i, hi, by rw [take_getD' hi]; exact hx⟩)
          rw [hln] at hend
          refine ⟨⟨by omega, by omega, by omega⟩, ⟨by omega, by omega⟩, ⟨by omega, by omega⟩, _, _, Weak.refl _ _ _ _, hend _ ?_⟩
          rw [List.take_append_of_le_length (by simp; omega), List.take_take, Nat.min_self, List.map_take]
      · refine Wk.mask [0, 3] ⟨l.length - (k + 1), by omega, k + 1, by omega, by omega, rfl, fun q hq => ?_, rfl, rfl⟩
        by_cases hq' : q + 1 = k
        · subst hq'
          simp only [Nat.add_sub_cancel] at hn
          intro e; rw [e] at hn; simp at hn
        · exact hne q (by omega)
    · have kd : decide ((k : Int) < (l.length : Int)) = false := decide_eq_false (by omega)
      simp only [go_sem, hlive, kd, Tryz.results98]
      exact ⟨_, _, Weak.refl _ _ _ _, h1 fun q hq => hne q (by omega)⟩
end Go.Proofs.YtmjlhbkgljcnoaaGreatDoor.Srt
namespace Go.Proofs.YtmjlhbkgljcnoaaGreatDoor
open Go Go.Ab
theorem union_ac (xs ys : List Int) (hn : xs.length + ys.length ≤ 12) (σ : St) (G : Glob) (R : A → St → Prop) (h : ∀ l : List Int, l.Nodup → (∀ x, x ∈ l ↔ x ∈ xs ∨ x ∈ ys) → R (.d (isD l)) σ) : AC Tryz.prog G 93 [.d (isD xs), .d (isD ys)] σ R := by
  refine ac_enter' mixed Tryz.func93 rfl Tryz.ntmps93 (by simp only [go_sem]) fun hbd => ?_
  simp only [List.length_cons, List.length_nil, Nat.reduceAdd, Nat.reduceSub, List.replicate_succ, List.replicate_zero, List.cons_append, List.nil_append]
  simp only [isD, go_sem, Tryz.results93]
  refine ac' (ac_weak (Weak.deep [0] 4) ?_)
  simp only [go_sem]
  refine concat_ac xs ys (by omega) (by omega) _ _ _ ?_
  simp only [go_sem, intsO, Tryz.results93]
  have hlen : (xs ++ ys).length = xs.length + ys.length := List.length_append
  rw [← hlen]
  refine ac' (Srt.sort_ac (xs ++ ys) (by omega) _ _ _ (by simp [Srt.ints]) _ _ fun r l' hp hs => ?_)
  have hpl := hp.length_eq
  simp only [go_sem, List.set_cons_succ, List.set_cons_zero, Tryz.results93]
  rw [← hlen, ← hpl]
  rw [← hpl] at hs
  refine ac' (Srt.compact_ac l' (by omega) hs _ _ _ (by simp [Srt.ints]) _ _ fun cs l2 hcs hnd hm => ?_)
  simp only [go_sem, List.set_cons_succ, List.set_cons_zero, Tryz.results93]
  refine ret_w (Weak.short 1 l2.length (cs := cs) rfl) ?_
  simp only [List.set_cons_succ, List.set_cons_zero]
  rw [hcs]
  refine ret_frz 1 1 0 (l2.map iD) rfl (lies_ints l2) ?_
  simp only [go_sem, List.length_map]
  exact ret_d hbd (h l2 hnd fun x => by rw [hm, hp.mem_iff, List.mem_append])
end Go.Proofs.YtmjlhbkgljcnoaaGreatDoor
end PartT13

section PartS9
/- TopStablePart, plain: words and lists of words as sets of numbers. -/
set_option linter.unusedVariables false
namespace Go.Proofs.YtmjlhbkgljcnoaaGreatDoor

/-- The numbers below 64 that a word holds. -/
def bitsW (x : Nat) : List Nat := (List.range 64).filter x.testBit
theorem odd_form : ∀ (n x : Nat), x ≤ n → 0 < x → ∃ k m, x = 2 ^ k * (2 * m + 1)
  | 0, x, h, h0 => by omega
  | n + 1, x, h, h0 => by
    rcases Nat.mod_two_eq_zero_or_one x with e | e
    · obtain ⟨k, m, hk⟩ := odd_form n (x / 2) (by omega) (by omega)
      exact ⟨k + 1, m, by rw [Nat.pow_succ, Nat.mul_right_comm, ← hk]; omega⟩
    · exact ⟨0, x / 2, by rw [Nat.pow_zero]; omega⟩
theorem odd_bit (k m i : Nat) : (2 ^ k * (2 * m + 1)).testBit i = (decide (k ≤ i) && (2 * m + 1).testBit (i - k)) := Nat.testBit_two_pow_mul ..
theorem odd_zero (m : Nat) : (2 * m + 1).testBit 0 = true := by simp [Nat.testBit]
theorem odd_succ (m i : Nat) : (2 * m + 1).testBit (i + 1) = m.testBit i := by
  rw [Nat.testBit_succ]; congr 1; omega
theorem odd_pred (k m i : Nat) : (2 ^ k * (2 * m + 1) - 1).testBit i = if i < k then true else (2 * m).testBit (i - k) := by
  have h := Nat.pow_pos (a := 2) (n := k) (by decide)
  have e : 2 ^ k * (2 * m + 1) - 1 = 2 ^ k * (2 * m) + (2 ^ k - 1) := by rw [Nat.mul_add, Nat.mul_one]; omega
  rw [e, Nat.testBit_two_pow_mul_add _ (by omega)]
  split
  · rename_i hi
    rw [Nat.testBit_two_pow_sub_one]; simp [hi]
  · rfl
/-- The least number of a word goes. -/
theorem and_pred (k m i : Nat) : (2 ^ k * (2 * m + 1) &&& (2 ^ k * (2 * m + 1) - 1)).testBit i = ((2 ^ k * (2 * m + 1)).testBit i && decide (i ≠ k)) := by
  rw [Nat.testBit_and, odd_pred, odd_bit]
  by_cases h1 : i < k
  · rw [if_pos h1]
    have : decide (k ≤ i) = false := by simp; omega
    rw [this]; rfl
  · rw [if_neg h1]
    have hk : decide (k ≤ i) = true := by simp; omega
    rw [hk, Bool.true_and]
    by_cases h2 : i = k
    · subst h2
      have e0 : (2 * m).testBit 0 = false := by simp [Nat.testBit]
      rw [Nat.sub_self, odd_zero, e0]; simp
    · obtain ⟨j, hj⟩ : ∃ j, i - k = j + 1 := ⟨i - k - 1, by omega⟩
      rw [hj, odd_succ]
      have e1 : (2 * m).testBit (j + 1) = m.testBit j := by rw [Nat.testBit_succ]; congr 1; omega
      rw [e1]; simp [h2]
theorem odd_le {k m : Nat} (h : U64 (2 ^ k * (2 * m + 1))) : k < 64 := by
  rcases Nat.lt_or_ge k 64 with hk | hk
  · exact hk
  · exfalso
    have := Nat.pow_le_pow_right (n := 2) (by decide) hk
    have h2 : 2 ^ k * 1 ≤ 2 ^ k * (2 * m + 1) := Nat.mul_le_mul_left _ (by omega)
    rw [Nat.mul_one] at h2
    have : (2 : Nat) ^ 64 = 18446744073709551616 := by decide
    unfold U64 at h
    omega
theorem range_split {n k : Nat} (h : k < n) : List.range n = List.range k ++ k :: (List.range (n - k - 1)).map fun i => k + 1 + i := by
  apply List.ext_getElem?
  intro i
  rcases Nat.lt_trichotomy i k with h1 | h1 | h1
  · rw [List.getElem?_append_left (by simpa using h1), List.getElem?_range (by omega), List.getElem?_range h1]
  · subst h1
    rw [List.getElem?_append_right (by simp), List.length_range, Nat.sub_self, List.getElem?_range h]; rfl
  · rw [List.getElem?_append_right (by simp; omega), List.length_range]
    obtain ⟨j, hj⟩ : ∃ j, i - k = j + 1 := ⟨i - k - 1, by omega⟩
    rw [hj, List.getElem?_cons_succ, List.getElem?_map]
    rcases Nat.lt_or_ge i n with h2 | h2
    · rw [List.getElem?_range h2, List.getElem?_range (by omega)]
      show some i = some (k + 1 + j)
      congr 1; omega
    · rw [List.getElem?_eq_none (by simpa using h2), List.getElem?_eq_none (by simp; omega)]; rfl
theorem bitsW_cons {k m : Nat} (h : U64 (2 ^ k * (2 * m + 1))) : bitsW (2 ^ k * (2 * m + 1)) = k :: bitsW (2 ^ k * (2 * m + 1) &&& (2 ^ k * (2 * m + 1) - 1)) := by
  have hk := odd_le h
  unfold bitsW
  rw [range_split hk, List.filter_append, List.filter_append, List.filter_cons, List.filter_cons]
  have e1 : (2 ^ k * (2 * m + 1)).testBit k = true := by rw [odd_bit, Nat.sub_self, odd_zero]; simp
  have e2 : (2 ^ k * (2 * m + 1) &&& (2 ^ k * (2 * m + 1) - 1)).testBit k = false := by rw [and_pred, e1]; simp
  rw [e1, e2]
  have n1 : ∀ x : Nat, (∀ i < k, x.testBit i = false) → (List.range k).filter x.testBit = [] := fun x hx => by
    rw [List.filter_eq_nil_iff]
    intro i hi
    rw [hx i (List.mem_range.1 hi)]; simp
  rw [n1 _ (fun i hi => by rw [odd_bit]; have : decide (k ≤ i) = false := by simp; omega
                           rw [this]; rfl), n1 _ (fun i hi => by rw [and_pred, odd_bit]; have : decide (k ≤ i) = false := by simp; omega
                                                                 rw [this]; rfl)]
  simp only [if_true, Bool.false_eq_true, if_false, List.nil_append]
  congr 1
  apply List.filter_congr
  intro i hi
  obtain ⟨j, -, rfl⟩ := List.mem_map.1 hi
  rw [and_pred]
  have : decide (k + 1 + j ≠ k) = true := by simp; omega
  rw [this, Bool.and_true]
theorem bitsW_zero : bitsW 0 = [] := by
  unfold bitsW
  rw [List.filter_eq_nil_iff]
  intro i _
  simp
/-- x & -x is the least bit alone. -/
theorem and_neg {k m : Nat} (h : U64 (2 ^ k * (2 * m + 1))) : 2 ^ k * (2 * m + 1) &&& (18446744073709551616 - 2 ^ k * (2 * m + 1)) = 2 ^ k := by
  have hk := odd_le h
  have h64 : (18446744073709551616 : Nat) = 2 ^ k * 2 ^ (64 - k) := by rw [← Nat.pow_add, show k + (64 - k) = 64 by omega]
  have hp : 2 ^ (64 - k) = 2 * 2 ^ (63 - k) := by rw [← Nat.pow_succ', show (63 - k).succ = 64 - k by omega]
  have hm : m < 2 ^ (63 - k) := by
    unfold U64 at h
    rw [h64] at h
    have := Nat.lt_of_mul_lt_mul_left h
    omega
  have e : 18446744073709551616 - 2 ^ k * (2 * m + 1) = 2 ^ k * (2 * (2 ^ (63 - k) - (m + 1)) + 1) := by
    rw [h64, ← Nat.mul_sub, hp]
    congr 1; omega
  rw [e]
  apply Nat.eq_of_testBit_eq
  intro i
  rw [Nat.testBit_and, odd_bit, odd_bit, Nat.testBit_two_pow]
  by_cases h1 : k ≤ i
  · rw [decide_eq_true h1, Bool.true_and, Bool.true_and]
    by_cases h2 : k = i
    · subst h2
      rw [Nat.sub_self, odd_zero, odd_zero]; simp
    · obtain ⟨j, hj⟩ : ∃ j, i - k = j + 1 := ⟨i - k - 1, by omega⟩
      rw [hj, odd_succ, odd_succ, Nat.testBit_two_pow_sub_succ hm]
      simp only [h2, decide_false]
      cases m.testBit j <;> simp
  · have : decide (k ≤ i) = false := by simp; omega
    rw [this, Bool.false_and, Bool.false_and]
    simp; omega
/-- Is a number in a list of words? -/
def bitW (W : List Nat) (n : Nat) : Bool := (W.getD (n / 64) 0).testBit (n % 64)
def addW (W : List Nat) (n : Nat) : List Nat := W.set (n / 64) (W.getD (n / 64) 0 ||| 2 ^ (n % 64))
/-- 64 words. -/
def Words (W : List Nat) : Prop := W.length = 64 ∧ ∀ x ∈ W, U64 x
theorem Words.at_ {W : List Nat} (h : Words W) (i : Nat) : U64 (W.getD i 0) := by
  rw [List.getD_eq_getElem?_getD]
  cases e : W[i]? with
  | none => exact (by decide : U64 0)
  | some x => exact h.2 x (List.mem_of_getElem? e)
theorem addW_words {W : List Nat} (h : Words W) (n : Nat) : Words (addW W n) := by
  refine ⟨by unfold addW; rw [List.length_set, h.1], fun x hx => ?_⟩
  rcases List.mem_or_eq_of_mem_set hx with hx | rfl
  · exact h.2 x hx
  · exact uOr_lt (h.at_ _) (pow_lt64 (Nat.mod_lt _ (by decide)))
theorem addW_bit {W : List Nat} (h : Words W) {n : Nat} (hn : n < 4096) (m : Nat) : bitW (addW W n) m = (bitW W m || m == n) := by
  unfold bitW addW
  rw [List.getD_eq_getElem?_getD, List.getElem?_set]
  by_cases e : n / 64 = m / 64
  · rw [if_pos e, if_pos (by rw [h.1]; omega)]
    show (W.getD (n / 64) 0 ||| 2 ^ (n % 64)).testBit (m % 64) = _
    rw [Nat.testBit_or, Nat.testBit_two_pow, e]
    congr 1
    rw [Bool.eq_iff_iff, decide_eq_true_eq, beq_iff_eq]
    constructor
    · intro h; have := Nat.div_add_mod n 64; have := Nat.div_add_mod m 64; omega
    · intro h; rw [h]
  · rw [if_neg e, ← List.getD_eq_getElem?_getD]
    have : (m == n) = false := by simp; intro h; exact e (by rw [h])
    rw [this, Bool.or_false]
def zeroW : List Nat := List.replicate 64 0
theorem zeroW_words : Words zeroW := ⟨rfl, fun x hx => by rw [List.eq_of_mem_replicate hx]; decide⟩
theorem zeroW_bit (n : Nat) : bitW zeroW n = false := by
  unfold bitW zeroW
  rw [List.getD_eq_getElem?_getD, List.getElem?_replicate]
  split <;> simp
/-- The numbers of the first words. -/
def listW (W : List Nat) (j : Nat) : List Nat := (List.range (64 * j)).filter (bitW W)
theorem listW_succ (W : List Nat) (j : Nat) : listW W (j + 1) = listW W j ++ (bitsW (W.getD j 0)).map fun k => 64 * j + k := by
  unfold listW bitsW
  have e : List.range (64 * (j + 1)) = List.range (64 * j) ++ (List.range 64).map fun k => 64 * j + k := by
    apply List.ext_getElem?
    intro i
    rcases Nat.lt_or_ge i (64 * j) with h1 | h1
    · rw [List.getElem?_append_left (by simpa using h1), List.getElem?_range (by omega), List.getElem?_range h1]
    · rw [List.getElem?_append_right (by simpa using h1), List.length_range, List.getElem?_map]
      rcases Nat.lt_or_ge i (64 * (j + 1)) with h2 | h2
      · rw [List.getElem?_range h2, List.getElem?_range (by omega)]
        show some i = some (64 * j + (i - 64 * j))
        congr 1; omega
      · rw [List.getElem?_eq_none (by simpa using h2), List.getElem?_eq_none (by simp; omega)]; rfl
  rw [e, List.filter_append, List.filter_map]
  congr 1
  congr 1
  apply List.filter_congr
  intro k hk
  have hk := List.mem_range.1 hk
  show bitW W (64 * j + k) = _
  unfold bitW
  rw [show (64 * j + k) / 64 = j by omega, show (64 * j + k) % 64 = k by omega]
theorem bitsW_len (x : Nat) : (bitsW x).length ≤ 64 := Nat.le_trans (List.length_filter_le _ _) (by simp)
theorem listW_len (W : List Nat) (j : Nat) : (listW W j).length ≤ 64 * j := Nat.le_trans (List.length_filter_le _ _) (by simp)
theorem listW_full (W : List Nat) : listW W 64 = (List.range 4096).filter (bitW W) := rfl
end Go.Proofs.YtmjlhbkgljcnoaaGreatDoor
end PartS9
