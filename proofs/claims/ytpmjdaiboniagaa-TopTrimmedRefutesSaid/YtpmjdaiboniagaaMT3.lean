import Derived.Test.YtpmjdaiboniagaaMT2

section PartU4
/- assign. -/
set_option linter.unusedSimpArgs false
set_option linter.unusedVariables false
set_option maxRecDepth 100000
namespace Go.Proofs.Ytpmjdaiboniagaa
open Go Go.Ab

/-- The same propagator, its growing slices elsewhere. -/
structure Sub (d d' : Ids) (n : Nat) : Prop where
  ip : d'.ip = d.ip
  it : d'.it = d.it
  io : d'.io = d.io
  is : d'.is = d.is
  iq : d'.iq = d.iq ∨ n ≤ d'.iq
  iT : d'.iT = d.iT ∨ n ≤ d'.iT
  iR : d'.iR = d.iR ∨ n ≤ d'.iR
theorem Sub.refl (d : Ids) (n : Nat) : Sub d d n := ⟨rfl, rfl, rfl, rfl, .inl rfl, .inl rfl, .inl rfl⟩
theorem Sub.trans {d d' d'' : Ids} {n m : Nat} (h : Sub d d' n) (k : Sub d' d'' m) (hm : n ≤ m) : Sub d d'' n :=
  ⟨k.ip.trans h.ip, k.it.trans h.it, k.io.trans h.io, k.is.trans h.is, by have := h.iq; have := k.iq; omega, by have := h.iT; have := k.iT; omega, by have := h.iR; have := k.iR; omega⟩
theorem Sub.keeps {d d' : Ids} {σ τ υ : St} (h : Keeps d.all σ τ) (s : Sub d d' σ.length) (k : Keeps d'.all τ υ) : Keeps d.all σ υ :=
  h.trans k (fun i hi _ => hi) fun i hi hlt => by
    obtain ⟨a, b, c, e, f, g, j⟩ := s
    simp only [Ids.all, List.mem_cons, List.not_mem_nil, or_false] at hi ⊢
    omega
def setAll : List Bool → List Nat → List Bool
  | sa, [] => sa
  | sa, i :: is => setAll (sa.set i true) is
theorem setAll_len : ∀ (is : List Nat) (sa : List Bool), (setAll sa is).length = sa.length
  | [], _ => rfl
  | i :: is, sa => by rw [setAll, setAll_len is]; simp
/-- The numbers of open literals, the queue, behind a literal's assignment. -/
def decS (sa : List Bool) : List Nat → List Int → List Int → List Int × List Int
  | [], op, q => (op, q)
  | i :: is, op, q => decS sa is (op.set i (op.getD i 0 - 1)) (exS sa (op.set i (op.getD i 0 - 1)) q i)
theorem exS_perm {sa : List Bool} {op q q' : List Int} {i : Nat} (h : q'.Perm q) : (exS sa op q' i).Perm (exS sa op q i) := by
  unfold exS; split
  · exact h.cons _
  · exact h
theorem decS_perm {sa : List Bool} : ∀ {is : List Nat} {op q q' : List Int}, q'.Perm q → (decS sa is op q').1 = (decS sa is op q).1 ∧ (decS sa is op q').2.Perm (decS sa is op q).2
  | [], _, _, _, h => ⟨rfl, h⟩
  | i :: is, op, q, q', h => decS_perm (is := is) (exS_perm h)
theorem exS_len {sa : List Bool} {op q : List Int} {i : Nat} : (exS sa op q i).length ≤ q.length + 1 := by
  unfold exS; split <;> simp
theorem natD_getD {l : List Nat} {j : Nat} (h : j < l.length) : List.getD (l.map fun n : Nat => iD n) j default = iD ((l.getD j 0 : Nat) : Int) := getD_mapD (f := fun n : Nat => iD n) (d := 0) h
theorem occD_getD {occ : List (List Nat)} {j : Nat} (h : j < occ.length) : List.getD (occ.map natD) j default = .sl 1 ((occ.getD j []).map fun n : Nat => iD n) := getD_mapD (f := natD) (d := []) h
theorem splice_bools {l : List Bool} {j : Nat} (x : Bool) (h : j < l.length) : (l.map fun x => A.d (.bool x)).take j ++ A.d (.bool x) :: (l.map fun x => A.d (.bool x)).drop (j + 1) = (l.set j x).map fun x => A.d (.bool x) := by
  rw [← List.map_take, ← List.map_drop, List.set_eq_take_append_cons_drop, if_pos h]
  simp
theorem keep2 {σ : St} {a b id : Nat} {x y : Option Ob} {l : St} {o : Option Ob} (h : σ[id]? = some o) (h1 : id ≠ a) (h2 : id ≠ b) : ((σ.set a x).set b y ++ l)[id]? = some o := by
  rw [List.getElem?_append_left (by simpa using lt_of_some h), List.getElem?_set_ne (fun e => h2 e.symm), List.getElem?_set_ne (fun e => h1 e.symm)]; exact h
theorem keeps2 {σ : St} {a b : Nat} {x y : Option Ob} {l : St} (X : List Nat) (ha : a ∈ X) (hb : b ∈ X) : Keeps X σ ((σ.set a x).set b y ++ l) :=
  ⟨by simp, fun id hid hn => by
    rw [List.getElem?_append_left (by simpa using hid), List.getElem?_set_ne (fun e => hn (by rw [← e]; exact hb)), List.getElem?_set_ne (fun e => hn (by rw [← e]; exact ha))]⟩
theorem Pg.appT {σ : St} {d : Ids} {f : Cnf} {occ : List (List Nat)} {tr : List Bool} {op : List Int} {sa : List Bool} {q T Rs : List Int} (h : Pg σ d f occ tr op sa q T Rs) (l : Int) (tmp : Option Ob) :
    Pg ((σ.set d.iT none).set d.ip (some (.cells (pgCells { d with iT := σ.length + 1 } f occ tr.length f.cls.length q.length (T.length + 1) Rs.length))) ++ [tmp, some (.cells (T.map (fun x => A.d (iD x)) ++ [A.d (iD l)]))]) { d with iT := σ.length + 1 } f occ tr op sa q (T ++ [l]) Rs := by
  obtain ⟨c, t, o, s, hq, hT, hR, lo, ls, hd⟩ := h
  have l1 := lt_of_some t
  have l2 := lt_of_some o
  have l3 := lt_of_some s
  have l4 := lt_of_some hq
  have l5 := lt_of_some hR
  have l6 := lt_of_some c
  obtain ⟨⟨a1, a2, a3, a4, a5, a6⟩, ⟨b2, b3, b4, b5, b6⟩, ⟨c3, c4, c5, c6⟩, ⟨d4, d5, d6⟩, ⟨e5, e6⟩, f6⟩ := hd
  refine ⟨?_, keep2 t b5 a1.symm, keep2 o c5 a2.symm, keep2 s d5 a3.symm, keep2 hq e5 a4.symm, ?_, keep2 hR f6.symm a6.symm, lo, ls, ?_⟩
  · rw [List.getElem?_append_left (by simpa using l6), List.getElem?_set, if_pos rfl, if_pos (by simpa using l6), List.length_append, List.length_singleton]
  · rw [List.getElem?_append_right (by simp)]; simp
  · clear hT hq hR t o s c
    exact ⟨⟨a1, a2, a3, a4, (by simp only; omega), a6⟩, ⟨b2, b3, b4, (by simp only; omega), b6⟩, ⟨c3, c4, (by simp only; omega), c6⟩, ⟨d4, (by simp only; omega), d6⟩, ⟨(by simp only; omega), e6⟩, (by simp only; omega)⟩
theorem Pg.appR {σ : St} {d : Ids} {f : Cnf} {occ : List (List Nat)} {tr : List Bool} {op : List Int} {sa : List Bool} {q T Rs : List Int} (h : Pg σ d f occ tr op sa q T Rs) (l : Int) (tmp : Option Ob) :
    Pg ((σ.set d.iR none).set d.ip (some (.cells (pgCells { d with iR := σ.length + 1 } f occ tr.length f.cls.length q.length T.length (Rs.length + 1)))) ++ [tmp, some (.cells (Rs.map (fun x => A.d (iD x)) ++ [A.d (iD l)]))]) { d with iR := σ.length + 1 } f occ tr op sa q T (Rs ++ [l]) := by
  obtain ⟨c, t, o, s, hq, hT, hR, lo, ls, hd⟩ := h
  have l1 := lt_of_some t
  have l2 := lt_of_some o
  have l3 := lt_of_some s
  have l4 := lt_of_some hq
  have l5 := lt_of_some hT
  have l6 := lt_of_some c
  obtain ⟨⟨a1, a2, a3, a4, a5, a6⟩, ⟨b2, b3, b4, b5, b6⟩, ⟨c3, c4, c5, c6⟩, ⟨d4, d5, d6⟩, ⟨e5, e6⟩, f6⟩ := hd
  refine ⟨?_, keep2 t b6 a1.symm, keep2 o c6 a2.symm, keep2 s d6 a3.symm, keep2 hq e6 a4.symm, keep2 hT f6 a5.symm, ?_, lo, ls, ?_⟩
  · rw [List.getElem?_append_left (by simpa using l6), List.getElem?_set, if_pos rfl, if_pos (by simpa using l6), List.length_append, List.length_singleton]
  · rw [List.getElem?_append_right (by simp)]; simp
  · clear hT hq hR t o s c
    exact ⟨⟨a1, a2, a3, a4, a5, (by simp only; omega)⟩, ⟨b2, b3, b4, b5, (by simp only; omega)⟩, ⟨c3, c4, c5, (by simp only; omega)⟩, ⟨d4, d5, (by simp only; omega)⟩, ⟨e5, (by simp only; omega)⟩, (by simp only; omega)⟩
theorem keeps_le {σ τ : St} {X : List Nat} (h : Keeps X σ τ) : σ.length ≤ τ.length := h.1
set_option maxHeartbeats 4000000 in
theorem assign_ac {d : Ids} {f : Cnf} {occ : List (List Nat)} {tr : List Bool} {op : List Int} {sa : List Bool} {q T Rs : List Int} (l r : Int) (hv : 0 ≤ f.vars ∧ f.vars ≤ 8000) (hl : -f.vars ≤ l ∧ l ≤ f.vars) (ht : tr.length = (2 * f.vars + 2).toNat) (ho : occ.length = (2 * f.vars + 2).toNat) (hoc : ∀ is ∈ occ, is.length ≤ 100000 ∧ ∀ i ∈ is, i < f.cls.length)
    (hop : ∀ x ∈ op, -1000000 ≤ x ∧ x ≤ 1000000) (hq : q.length + (occ.getD (codeN (-l)) []).length < 800000) (hh : HeapN q q.length) (hT : T.length < 1000000) (hR' : Rs.length < 1000000) (σ : St) (hP : Pg σ d f occ tr op sa q T Rs) (G : Glob) (R : A → St → Prop)
    (h : ∀ w σ' d' q', Sub d d' σ.length → q'.Perm (decS (setAll sa (occ.getD (codeN l) [])) (occ.getD (codeN (-l)) []) op q).2 → HeapN q' q'.length →
      Pg σ' d' f occ (tr.set (codeN l) true) (decS (setAll sa (occ.getD (codeN l) [])) (occ.getD (codeN (-l)) []) op q).1 (setAll sa (occ.getD (codeN l) [])) q' (T ++ [l]) (Rs ++ [r]) → Keeps d.all σ σ' → R w σ') : AC Try.prog G 78 [.ref d.ip 0, di l, di r] σ R := by
  refine ac_enterC' [1, 2, 3, 8] mixed Try.func78 rfl Try.ntmps78 (by simp only [go_sem]) fun hbd => ?_
  simp only [List.length_cons, List.length_nil, Nat.reduceAdd, Nat.reduceSub, List.replicate_succ, List.replicate_zero, List.cons_append, List.nil_append]
  have hcl : codeN l < tr.length := by rw [ht]; exact codeN_lt (by omega) (by omega)
  have hcn : codeN (-l) < tr.length := by rw [ht]; exact codeN_lt (by omega) (by omega)
  have w4 : IntKind.i64.wrap (0 - l) = -l := by rw [wrap64_id _ (by omega) (by omega)]; omega
  obtain ⟨tr', htr⟩ : ∃ tr', tr.set (codeN l) true = tr' := ⟨_, rfl⟩
  have htl : tr'.length = tr.length := by rw [← htr]; simp
  rw [htr] at h
  obtain ⟨T1, hT1⟩ : ∃ T1, T ++ [l] = T1 := ⟨_, rfl⟩
  have hTl : T1.length = T.length + 1 := by rw [← hT1]; simp
  obtain ⟨R1, hR1⟩ : ∃ R1, Rs ++ [r] = R1 := ⟨_, rfl⟩
  have hRl : R1.length = Rs.length + 1 := by rw [← hR1]; simp
  rw [hT1, hR1] at h
  -- the literal is true
  refine aw_cut (fun fr st => Pg st d f occ tr' op sa q T Rs ∧ Keeps d.all σ st ∧ fr = [.ref d.ip 0, di l, di r, .any, .any, .any, .any, .any, .any, .any, .any, .any, .any, .any, .any, .any, .any, .any, .any, .any, .any, .any, .any, .any, .any, .any, .any, .any, .any, .any, .any, .any, .any, .any, .any, .any, .any, .any, .any, .any, .any, .any, .any, .any, .any, .any, .any, .any, .any, .any, .any, .any, .any, .any, .any, .any, .any, .any, .any, .any, .any, .any, .any, .any, .any, .any, .any, .any, .any, .any, .any, .any, .any, .any, .any, .any, .any, .any, .any, .any, .any, .any, .any, .any]) ?_ ?_
  · have hc := hP.c
    simp only [pgCells] at hc
    refine aw_plan (.take 0 <| .take 4 <| .pure 5 <| .tk 3 1 <| .tk 2 6 <| .done) (by kernel_rfl) ?_
    simp only [go_sem]
    refine exP (dn (codeN l)) ⟨fun σ' => ?_, ?_⟩
    · simp only [go_sem]
      exact ac' (code_ac _ (by omega) _ _ _ ⟨rfl, rfl⟩)
    simp only [go_sem, objK_of hc, live_of hc, objK_of hP.t, live_of hP.t, Nat.mul_one, Nat.zero_add, List.length_map]
    refine ⟨⟨by omega, by omega⟩, by omega, Wk.mask [0, 1, 2] ⟨?_, ⟨by simp, fun id hid hn => ?_⟩, rfl⟩⟩
    · rw [splice_bools true hcl, htr]
      exact hP.setT htl
    · simp only [Ids.all, List.mem_cons, List.not_mem_nil, or_false, not_or] at hn
      rw [List.getElem?_set_ne (by omega)]
  -- the trail grows
  rintro fr st ⟨hP1, hK1, rfl⟩
  refine aw_cut (fun fr st => ∃ d', Sub d d' σ.length ∧ Pg st d' f occ tr' op sa q T1 Rs ∧ Keeps d.all σ st ∧ fr = [.ref d.ip 0, di l, di r, .any, .any, .any, .any, .any, .any, .any, .any, .any, .any, .any, .any, .any, .any, .any, .any, .any, .any, .any, .any, .any, .any, .any, .any, .any, .any, .any, .any, .any, .any, .any, .any, .any, .any, .any, .any, .any, .any, .any, .any, .any, .any, .any, .any, .any, .any, .any, .any, .any, .any, .any, .any, .any, .any, .any, .any, .any, .any, .any, .any, .any, .any, .any, .any, .any, .any, .any, .any, .any, .any, .any, .any, .any, .any, .any, .any, .any, .any, .any, .any, .any]) ?_ ?_
  · have hc := hP1.c
    have hd := hP1.d
    have l6 := lt_of_some hP1.c
    have l4 := lt_of_some hP1.T
    simp only [pgCells] at hc
    have hne : d.iT ≠ d.ip := by omega
    simp only [go_sem, objK_of hc, live_of hc, objK_of hP1.T, live_of hP1.T, objK_ne hne, live_ne hne, objK_apl, live_apl, set_apl, List.length_set, l6, l4, List.length_map, objK_apr, live_apr, Nat.le_refl, Nat.le_add_right, Nat.sub_self, Nat.add_sub_cancel_left]
    refine ⟨⟨by omega, by simp only [maxLen]; omega, by omega⟩, Wk.mask [0, 1, 2] ⟨{ d with iT := st.length + 1 }, ⟨rfl, rfl, rfl, rfl, .inl rfl, .inr (by have := hK1.1; simp only; omega), .inl rfl⟩, hT1 ▸ hP1.appT l _, Sub.keeps hK1 (Sub.refl _ _) (keeps2 _ (by simp [Ids.all]) (by simp [Ids.all])), rfl⟩⟩
  -- the reasons grow
  clear hP1 hK1 st
  rintro fr st ⟨d1, hS1, hP1, hK1, rfl⟩
  refine aw_cut (fun fr st => ∃ d', Sub d d' σ.length ∧ Pg st d' f occ tr' op sa q T1 R1 ∧ Keeps d.all σ st ∧ fr = [.ref d.ip 0, di l, .any, .any, .any, .any, .any, .any, .any, .any, .any, .any, .any, .any, .any, .any, .any, .any, .any, .any, .any, .any, .any, .any, .any, .any, .any, .any, .any, .any, .any, .any, .any, .any, .any, .any, .any, .any, .any, .any, .any, .any, .any, .any, .any, .any, .any, .any, .any, .any, .any, .any, .any, .any, .any, .any, .any, .any, .any, .any, .any, .any, .any, .any, .any, .any, .any, .any, .any, .any, .any, .any, .any, .any, .any, .any, .any, .any, .any, .any, .any, .any, .any, .any]) ?_ ?_
  · have hc := hP1.c
    have hd := hP1.d
    have l6 := lt_of_some hP1.c
    have l4 := lt_of_some hP1.R
    simp only [pgCells] at hc
    have hne : d1.iR ≠ d1.ip := by omega
    rw [← hS1.ip]
    simp only [go_sem, objK_of hc, live_of hc, objK_of hP1.R, live_of hP1.R, objK_ne hne, live_ne hne, objK_apl, live_apl, set_apl, List.length_set, l6, l4, List.length_map, objK_apr, live_apr, Nat.le_refl, Nat.le_add_right, Nat.sub_self, Nat.add_sub_cancel_left]
    refine ⟨⟨by omega, by simp only [maxLen]; omega, by omega⟩, Wk.mask [0, 1] ⟨{ d1 with iR := st.length + 1 }, hS1.trans (m := σ.length) ⟨rfl, rfl, rfl, rfl, .inl rfl, .inl rfl, .inr (by have := hK1.1; simp only; omega)⟩ (Nat.le_refl _), hR1 ▸ hP1.appR r _, Sub.keeps hK1 hS1 (keeps2 _ (by simp [Ids.all]) (by simp [Ids.all])), rfl⟩⟩
  -- the clauses that are satisfied
  clear hP1 hK1 hS1 d1 st
  rintro fr st ⟨d1, hS1, hP1, hK1, rfl⟩
  obtain ⟨s1, hs1⟩ : ∃ s1, occ.getD (codeN l) [] = s1 := ⟨_, rfl⟩
  obtain ⟨s2, hs2⟩ : ∃ s2, occ.getD (codeN (-l)) [] = s2 := ⟨_, rfl⟩
  have e1 := occD_getD (occ := occ) (j := codeN l) (by omega)
  have e2 := occD_getD (occ := occ) (j := codeN (-l)) (by omega)
  have ho1 := hoc _ (getD_mem [] (show codeN l < occ.length by omega))
  have ho2 := hoc _ (getD_mem [] (show codeN (-l) < occ.length by omega))
  rw [hs1] at h e1 ho1
  rw [hs2] at h hq e2 ho2
  refine aw_cut (fun fr st => Pg st d1 f occ tr' op (setAll sa s1) q T1 R1 ∧ Keeps d.all σ st ∧ fr = [.ref d.ip 0, di l, .any, .any, .any, .any, .any, .any, .any, .any, .any, .any, .any, .any, .any, .any, .any, .any, .any, .any, .any, .any, .any, .any, .any, .any, .any, .any, .any, .any, .any, .any, .any, .any, .any, .any, .any, .any, .any, .any, .any, .any, .any, .any, .any, .any, .any, .any, .any, .any, .any, .any, .any, .any, .any, .any, .any, .any, .any, .any, .any, .any, .any, .any, .any, .any, .any, .any, .any, .any, .any, .any, .any, .any, .any, .any, .any, .any, .any, .any, .any, .any, .any, .any]) ?_ ?_
  · have hc := hP1.c
    simp only [pgCells] at hc
    simp only [go_sem]
    refine aw_plan (.take 0 <| .take 4 <| .take 9 <| .pure 5 <| .tk 3 1 <| .tk 3 6 <| .done) (by kernel_rfl) ?_
    simp only [go_sem]
    refine exP (dn (codeN l)) ⟨fun σ' => ?_, ?_⟩
    · simp only [go_sem]
      exact ac' (code_ac _ (by omega) _ _ _ ⟨rfl, rfl⟩)
    rw [← hS1.ip]
    simp only [go_sem, objK_of hc, live_of hc, occD, List.length_map, e1]
    refine ⟨⟨by omega, by omega⟩, ?_⟩
    refine aw_loop (fun m fr st => ∃ (j : Nat) (sa' : List Bool), j ≤ s1.length ∧ m = s1.length - j ∧ Pg st d1 f occ tr' op sa' q T1 R1 ∧ setAll sa' (s1.drop j) = setAll sa s1 ∧ Keeps d.all σ st ∧
      fr = [.ref d1.ip 0, di l, .any, .any, .any, .any, .any, .any, .any, .any, .any, .any, .any, .any, .any, .any, .any, .any, .any, .any, .any, .any, .any, .any, .any, .any, .any, .any, .any, .any, .any, .any, .any, .any, .any, .any, .any, .any, .any, .any, .any, .any, .any, .any, .d (.sl 1 (s1.map fun n : Nat => iD n)), dn s1.length, dn j, .any, .any, .any, .any, .any, .any, .any, .any, .any, .any, .any, .any, .any, .any, .any, .any, .any, .any, .any, .any, .any, .any, .any, .any, .any, .any, .any, .any, .any, .any, .any, .any, .any, .any, .any, .any, .any]) s1.length _
      (Wk.mask [0, 1, 44, 45, 46] ⟨0, sa, by omega, rfl, hP1, rfl, hK1, rfl⟩) ?_
    clear hc hP1 hK1 st
    rintro m fr st ⟨j, sa', hj, hm, hP1, hsa, hK1, rfl⟩
    have hc := hP1.c
    simp only [pgCells] at hc
    rcases Nat.lt_or_ge j s1.length with hlt | hge
    · have hd : decide ((j : Int) < (s1.length : Int)) = true := decide_eq_true (by omega)
      have e3 := natD_getD hlt
      have w2 := wrapS j (by omega)
      have hi := ho1.2 _ (getD_mem 0 hlt)
      rw [drop_getD 0 hlt, setAll] at hsa
      generalize s1.getD j 0 = i at e3 hi hsa
      have ls := hP1.ls
      simp only [go_sem, List.length_map, hd, e3, w2, objK_of hc, live_of hc, objK_of hP1.s, live_of hP1.s, Nat.mul_one, Nat.zero_add]
      refine ⟨⟨by omega, by omega⟩, ⟨by omega, by omega⟩, by omega, Wk.mask [0, 1, 44, 45, 46] ⟨s1.length - (j + 1), by omega, j + 1, sa'.set i true, hlt, rfl, ?_, hsa, ?_, rfl⟩⟩
      · rw [splice_bools true (by omega)]
        exact hP1.setS (by simp)
      · refine ⟨by rw [List.length_set]; exact hK1.1, fun id hid hn => ?_⟩
        rw [List.getElem?_set_ne, hK1.2 id hid hn]
        simp only [Ids.all, List.mem_cons, List.not_mem_nil, or_false, not_or] at hn
        have := hS1.is
        omega
    · have hd : decide ((j : Int) < (s1.length : Int)) = false := decide_eq_false (by omega)
      rw [List.drop_eq_nil_of_le hge, setAll] at hsa
      simp only [go_sem, List.length_map, hd]
      exact Wk.mask [0, 1] ⟨hsa ▸ hP1, hK1, rfl⟩
  -- the clauses that lose a literal
  obtain ⟨sa1, hsa1⟩ : ∃ sa1, setAll sa s1 = sa1 := ⟨_, rfl⟩
  rw [hsa1] at h ⊢
  clear hP1 hK1 st
  rintro fr st ⟨hP1, hK1, rfl⟩
  have hc := hP1.c
  simp only [pgCells] at hc
  simp only [go_sem]
  refine aw_plan (.take 0 <| .tk 2 4 <| .take 10 <| .pure 6 <| .tk 3 1 <| .tk 3 7 <| .done) (by kernel_rfl) ?_
  simp only [go_sem, w4]
  refine exP (dn (codeN (-l))) ⟨fun σ' => ?_, ?_⟩
  · simp only [go_sem]
    exact ac' (code_ac _ (by omega) _ _ _ ⟨rfl, rfl⟩)
  rw [← hS1.ip]
  simp only [go_sem, objK_of hc, live_of hc, occD, List.length_map, e2]
  refine ⟨⟨by omega, by omega⟩, ?_⟩
  refine aw_loop (fun m fr st => ∃ (j : Nat) (d2 : Ids) (op' q0 q' : List Int), j ≤ s2.length ∧ m = s2.length - j ∧ Sub d d2 σ.length ∧ Pg st d2 f occ tr' op' sa1 q' T1 R1 ∧ decS sa1 (s2.drop j) op' q0 = decS sa1 s2 op q ∧ q'.Perm q0 ∧ HeapN q' q'.length ∧ q'.length ≤ q.length + j ∧
      (∀ x ∈ op', -1000000 - (j : Int) ≤ x ∧ x ≤ 1000000) ∧ Keeps d.all σ st ∧ fr = [.ref d1.ip 0, .any, .any, .any, .any, .any, .any, .any, .any, .any, .any, .any, .any, .any, .any, .any, .any, .any, .any, .any, .any, .any, .any, .any, .any, .any, .any, .any, .any, .any, .any, .any, .any, .any, .any, .any, .any, .any, .any, .any, .any, .any, .any, .any, .any, .any, .any, .any, .any, .any, .any, .any, .any, .any, .any, .any, .any, .any, .any, .any, .any, .any, .any, .any, .any, .d (.sl 1 (s2.map fun n : Nat => iD n)), dn s2.length, dn j, .any, .any, .any, .any, .any, .any, .any, .any, .any, .any, .any, .any, .any, .any, .any, .any]) s2.length _
    (Wk.mask [0, 65, 66, 67] ⟨0, d1, op, q, q, by omega, rfl, hS1, hP1, rfl, .refl _, hh, by omega, fun x hx => by have := hop x hx; omega, hK1, rfl⟩) ?_
  clear hc hP1 hK1 st
  rintro m fr st ⟨j, d2, op', q0, q', hj, hm, hS2, hP1, hde, hpq, hh', hql, hop', hK1, rfl⟩
  have hc := hP1.c
  simp only [pgCells] at hc
  have hip : d1.ip = d2.ip := by rw [hS1.ip, hS2.ip]
  rcases Nat.lt_or_ge j s2.length with hlt | hge
  · have hd : decide ((j : Int) < (s2.length : Int)) = true := decide_eq_true (by omega)
    have e3 := natD_getD hlt
    have w2 := wrapS j (by omega)
    have hi := ho2.2 _ (getD_mem 0 hlt)
    rw [drop_getD 0 hlt, decS] at hde
    generalize s2.getD j 0 = i at e3 hi hde
    have lo := hP1.lo
    have e5 : List.getD (op'.map fun x => A.d (iD x)) i .any = A.d (iD (op'.getD i 0)) := getD_mapA (by omega)
    have hx := hop' _ (getD_mem 0 (show i < op'.length by omega))
    have w3 : IntKind.i64.wrap (op'.getD i 0 - 1) = op'.getD i 0 - 1 := wrap64_id _ (by omega) (by omega)
    have hP3 := hP1.setO (op' := op'.set i (op'.getD i 0 - 1)) (by simp)
    have hst : st.set d2.io (some (.cells (((op'.set i (op'.getD i 0 - 1)).map fun x => A.d (iD x))))) = st.set d2.io (ints (op'.set i (op'.getD i 0 - 1))) := rfl
    rw [hip]
    simp only [go_sem, List.length_map, hd, e3, w2, w3, e5, objK_of hc, live_of hc, objK_of hP1.o, live_of hP1.o, Nat.mul_one, Nat.zero_add]
    refine ⟨⟨by omega, by omega⟩, ⟨by omega, by omega⟩, by omega, ⟨by omega, by omega⟩, by omega, ?_⟩
    rw [splice_ints' _ (by omega)]
    refine ac' (examine_ac i hi (by omega) hh' _ hP3 _ _ fun r' st' iq' q3 hp3 hh3 hP4 hK4 hiq => ?_)
    simp only [go_sem, w2]
    have hK5 : Keeps d.all σ (st.set d2.io (ints (op'.set i (op'.getD i 0 - 1)))) := by
      refine ⟨by rw [List.length_set]; exact hK1.1, fun id hid hn => ?_⟩
      rw [List.getElem?_set_ne, hK1.2 id hid hn]
      simp only [Ids.all, List.mem_cons, List.not_mem_nil, or_false, not_or] at hn
      have := hS2.io
      omega
    refine Wk.mask [0, 65, 66, 67] ⟨s2.length - (j + 1), by omega, j + 1, { d2 with iq := iq' }, op'.set i (op'.getD i 0 - 1), _, q3, hlt, rfl, hS2.trans (m := σ.length) ⟨rfl, rfl, rfl, rfl, ?_, .inl rfl, .inl rfl⟩ (Nat.le_refl _), hP4, hde, hp3.trans (exS_perm hpq), hh3, ?_, fun x hx' => ?_, Sub.keeps hK5 hS2 hK4, ?_⟩
    · rcases hiq with h1 | h1
      · exact .inl h1
      · have := hK5.1; exact .inr (by simp only at h1 ⊢; omega)
    · have := hp3.length_eq
      have := exS_len (sa := sa1) (op := op'.set i (op'.getD i 0 - 1)) (q := q') (i := i)
      omega
    · rcases List.mem_or_eq_of_mem_set hx' with h1 | h1
      · have := hop' x h1; omega
      · omega
    · simp only [go_sem, hip]
  · have hd : decide ((j : Int) < (s2.length : Int)) = false := decide_eq_false (by omega)
    rw [List.drop_eq_nil_of_le hge, decS] at hde
    simp only [go_sem, List.length_map, hd, Try.results78]
    refine ⟨_, _, Weak.refl _ _ _ _, h _ _ d2 q' hS2 ?_ hh' ?_ hK1⟩
    · rw [← hde]; exact hpq
    · rw [← hde]; exact hP1
end Go.Proofs.Ytpmjdaiboniagaa
end PartU4

section PartU5
/- Unit propagation, plain: the reference's steps; the program's queue finds the same. -/
set_option linter.unusedSimpArgs false
set_option linter.unusedVariables false
namespace Go.Proofs.Ytpmjdaiboniagaa
open Go Go.Ab

/-- A clause's status under a trail: 1 falsified, 2 unit (and the literal), 0 otherwise. -/
def statS (T : List Int) : List Int → Int → Int × Int
  | [], o => if o = 0 then (1, 0) else (2, o)
  | l :: c, o => if l ∈ T ∨ (-l ∉ T ∧ o ≠ 0 ∧ o ≠ l) then (0, 0) else statS T c (if -l ∈ T then o else l)
/-- The first clause that is falsified or unit. -/
def findS (T : List Int) : List (List Int) → Nat → Option (Nat × Int × Int)
  | [], _ => none
  | c :: cs, i => if (statS T c 0).1 = 0 then findS T cs (i + 1) else some (i, statS T c 0)
def runS (cls : List (List Int)) : Nat → List Int → List Int → List Int × List Int × Int
  | 0, T, Rs => (T, Rs, -1)
  | k + 1, T, Rs => match findS T cls 0 with
    | none => (T, Rs, -1)
    | some (i, s, x) => if s = 1 then (T, Rs, (i : Int)) else runS cls k (T ++ [x]) (Rs ++ [(i : Int)])
def initT : List Int → List Int → List Int
  | T, [] => T
  | T, l :: ls => initT (if l ∈ T then T else T ++ [l]) ls
/-- The literals of a clause that are not false, each once. -/
def opL (T : List Int) : List Int → List Int
  | [] => []
  | l :: c => if -l ∈ T ∨ l ∈ c then opL T c else l :: opL T c
def satB (T c : List Int) : Bool := c.any fun l => decide (l ∈ T)
theorem mem_opL {T : List Int} : ∀ {c : List Int} {x : Int}, x ∈ opL T c ↔ x ∈ c ∧ -x ∉ T
  | [], x => by simp [opL]
  | l :: c, x => by
    unfold opL
    split
    · rename_i h
      rw [mem_opL]
      constructor
      · exact fun ⟨a, b⟩ => ⟨List.mem_cons_of_mem _ a, b⟩
      · rintro ⟨a, b⟩
        rcases List.mem_cons.1 a with rfl | a
        · rcases h with h | h
          · exact absurd h b
          · exact ⟨h, b⟩
        · exact ⟨a, b⟩
    · rename_i h
      rw [List.mem_cons, mem_opL]
      constructor
      · rintro (rfl | ⟨a, b⟩)
        · exact ⟨by simp, fun hn => h (.inl hn)⟩
        · exact ⟨List.mem_cons_of_mem _ a, b⟩
      · rintro ⟨a, b⟩
        rcases List.mem_cons.1 a with rfl | a
        · exact .inl rfl
        · exact .inr ⟨a, b⟩
theorem opL_nodup {T : List Int} : ∀ {c : List Int}, (opL T c).Nodup
  | [] => by simp [opL]
  | l :: c => by
    unfold opL
    split
    · exact opL_nodup
    · rename_i h
      exact List.nodup_cons.2 ⟨fun hm => h (.inr (mem_opL.1 hm).1), opL_nodup⟩
/-- A literal more: its negative's clauses lose one. -/
theorem opL_snoc {T : List Int} {l : Int} (h1 : l ∉ T) : ∀ {c : List Int}, opL (T ++ [l]) c = (opL T c).erase (-l)
  | [] => rfl
  | m :: c => by
    unfold opL
    by_cases hm : -m ∈ T
    · rw [if_pos (.inl (by simp [hm])), if_pos (.inl hm)]; exact opL_snoc h1
    by_cases hc : m ∈ c
    · rw [if_pos (.inr hc), if_pos (.inr hc)]; exact opL_snoc h1
    rw [if_neg (c := -m ∈ T ∨ m ∈ c) (by simp [hm, hc])]
    by_cases e : -m = l
    · rw [if_pos (.inl (by simp [e])), opL_snoc h1, show -l = m by omega, List.erase_cons_head, List.erase_of_not_mem (fun hx => hc (mem_opL.1 hx).1)]
    · rw [if_neg (by simp [hm, hc, e]), opL_snoc h1, List.erase_cons_tail (by simp; omega)]
theorem opL_snoc_len {T : List Int} {l : Int} (h1 : l ∉ T) (c : List Int) : ((opL (T ++ [l]) c).length : Int) = (opL T c).length - (if -l ∈ c then 1 else 0) := by
  rw [opL_snoc h1]
  by_cases hc : -l ∈ c
  · have hm : -l ∈ opL T c := mem_opL.2 ⟨hc, by rw [Int.neg_neg]; exact h1⟩
    rw [if_pos hc, List.length_erase_of_mem hm]
    have := List.length_pos_of_mem hm
    omega
  · rw [if_neg hc, List.erase_of_not_mem (fun hm => hc (mem_opL.1 hm).1)]; omega
theorem satB_snoc {T : List Int} {l : Int} (c : List Int) : satB (T ++ [l]) c = (satB T c || decide (l ∈ c)) := by
  rw [Bool.eq_iff_iff]
  simp only [satB, List.any_eq_true, Bool.or_eq_true, decide_eq_true_eq, List.mem_append, List.mem_singleton]
  constructor
  · rintro ⟨x, hx, h | rfl⟩
    · exact .inl ⟨x, hx, h⟩
    · exact .inr hx
  · rintro (⟨x, hx, h⟩ | h)
    · exact ⟨x, hx, .inl h⟩
    · exact ⟨l, h, .inr rfl⟩
theorem statS_spec {T : List Int} : ∀ {c : List Int} {o : Int}, (∀ x ∈ c, x ≠ 0) → (o = 0 ∨ o ≠ 0 ∧ -o ∉ T ∧ o ∉ T) →
    (satB T c = true → (statS T c o).1 = 0) ∧
    (satB T c = false → ((∃ x ∈ opL T c, o ≠ 0 ∧ x ≠ o) → (statS T c o).1 = 0) ∧
      ((∀ x ∈ opL T c, o = 0 ∨ x = o) → o ≠ 0 → statS T c o = (2, o)) ∧
      (o = 0 → opL T c = [] → statS T c o = (1, 0)) ∧ (∀ x, o = 0 → opL T c = [x] → statS T c o = (2, x)) ∧ (∀ x y r, o = 0 → opL T c = x :: y :: r → (statS T c o).1 = 0))
  | [], o, _, ho => by
    refine ⟨fun h => by simp [satB] at h, fun _ => ⟨fun ⟨x, hx, _⟩ => by simp [opL] at hx, fun _ h0 => by simp [statS, h0], fun h0 _ => by simp [statS, h0], fun x _ h => by simp [opL] at h, fun x y r _ h => by simp [opL] at h⟩⟩
  | l :: c, o, hc, ho => by
    have hl : l ≠ 0 := hc l (by simp)
    have hc' : ∀ x ∈ c, x ≠ 0 := fun x hx => hc x (by simp [hx])
    by_cases h1 : l ∈ T
    · have e : statS T (l :: c) o = (0, 0) := by rw [statS, if_pos (.inl h1)]
      exact ⟨fun _ => by rw [e], fun h => by simp [satB, h1] at h⟩
    have hs : satB T (l :: c) = satB T c := by simp [satB, h1]
    rw [hs]
    by_cases h2 : -l ∈ T
    · have e : statS T (l :: c) o = statS T c o := by rw [statS, if_neg (by simp [h1, h2]), if_pos h2]
      have eo : opL T (l :: c) = opL T c := by rw [opL, if_pos (.inl h2)]
      rw [e, eo]; exact statS_spec hc' ho
    by_cases h3 : o ≠ 0 ∧ o ≠ l
    · have e : statS T (l :: c) o = (0, 0) := by rw [statS, if_pos (.inr ⟨h2, h3⟩)]
      have hm : l ∈ opL T (l :: c) := mem_opL.2 ⟨by simp, h2⟩
      refine ⟨fun _ => by rw [e], fun _ => ⟨fun _ => by rw [e], fun h h0 => ?_, fun h0 => absurd h0 h3.1, fun x h0 => absurd h0 h3.1, fun x y r h0 => absurd h0 h3.1⟩⟩
      rcases h l hm with h | h
      · exact absurd h h0
      · exact absurd h.symm h3.2
    have e : statS T (l :: c) o = statS T c l := by rw [statS, if_neg (fun h => h.elim h1 fun h => h3 h.2), if_neg h2]
    obtain ⟨g1, g2⟩ := statS_spec (T := T) (c := c) (o := l) hc' (.inr ⟨hl, h2, h1⟩)
    have hm : l ∈ opL T (l :: c) := mem_opL.2 ⟨by simp, h2⟩
    have hsub : ∀ x, x ∈ opL T (l :: c) ↔ x = l ∨ x ∈ opL T c := fun x => by
      rw [mem_opL, mem_opL, List.mem_cons]
      constructor
      · rintro ⟨a | a, b⟩
        · exact .inl a
        · exact .inr ⟨a, b⟩
      · rintro (rfl | ⟨a, b⟩)
        · exact ⟨.inl rfl, h2⟩
        · exact ⟨.inr a, b⟩
    rw [e]
    refine ⟨g1, fun hsat => ?_⟩
    obtain ⟨k1, k2, k3, k4, k5⟩ := g2 hsat
    refine ⟨fun ⟨x, hx, h0, hne⟩ => ?_, fun h h0 => ?_, fun h0 h => by rw [h] at hm; simp at hm, fun x h0 h => ?_, fun x y r h0 h => ?_⟩
    · have ho' : o = l := by
        by_cases q : o = l
        · exact q
        · exact absurd ⟨h0, q⟩ h3
      rcases (hsub x).1 hx with rfl | hx
      · exact absurd ho'.symm hne
      · exact k1 ⟨x, hx, hl, ho' ▸ hne⟩
    · have ho' : o = l := by
        by_cases q : o = l
        · exact q
        · exact absurd ⟨h0, q⟩ h3
      rw [ho']
      exact k2 (fun x hx => .inr (by rcases h x ((hsub x).2 (.inr hx)) with h | h; exact absurd h h0; rw [h, ho'])) hl
    · have hxl : l = x := by rw [h] at hm; simpa using hm
      subst hxl
      refine k2 (fun x hx => .inr ?_) hl
      have := (hsub x).2 (.inr hx)
      rw [h] at this; simpa using this
    · have hd := opL_nodup (T := T) (c := l :: c)
      rw [h] at hd
      obtain ⟨z, hz, hne⟩ : ∃ z ∈ opL T c, z ≠ l := by
        by_cases q : x = l
        · have : y ∈ opL T (l :: c) := by rw [h]; simp
          have hyl : y ≠ l := fun e => by subst q; subst e; simp at hd
          rcases (hsub y).1 this with e | e
          · exact absurd e hyl
          · exact ⟨y, e, hyl⟩
        · have : x ∈ opL T (l :: c) := by rw [h]; simp
          rcases (hsub x).1 this with e | e
          · exact absurd e q
          · exact ⟨x, e, q⟩
      exact k1 ⟨z, hz, hl, hne⟩
theorem stat_zero {T c : List Int} (hc : ∀ x ∈ c, x ≠ 0) (h : satB T c = true ∨ 2 ≤ (opL T c).length) : (statS T c 0).1 = 0 := by
  obtain ⟨g1, g2⟩ := statS_spec (T := T) (c := c) (o := 0) hc (.inl rfl)
  cases hs : satB T c with
  | true => exact g1 hs
  | false =>
    rw [hs] at h
    rcases h with h | h
    · cases h
    · match hop : opL T c, h with
      | x :: y :: r, _ => exact (g2 hs).2.2.2.2 x y r rfl hop
theorem stat_one {T c : List Int} (hc : ∀ x ∈ c, x ≠ 0) (hs : satB T c = false) (h : (opL T c).length = 0) : statS T c 0 = (1, 0) :=
  ((statS_spec (T := T) (c := c) (o := 0) hc (.inl rfl)).2 hs).2.2.1 rfl (List.eq_nil_of_length_eq_zero h)
theorem stat_two {T c : List Int} (hc : ∀ x ∈ c, x ≠ 0) (hs : satB T c = false) {x : Int} (h : opL T c = [x]) : statS T c 0 = (2, x) :=
  ((statS_spec (T := T) (c := c) (o := 0) hc (.inl rfl)).2 hs).2.2.2.1 x rfl h
theorem findS_none {T : List Int} : ∀ {cs : List (List Int)} {i : Nat}, (∀ c ∈ cs, (statS T c 0).1 = 0) → findS T cs i = none
  | [], _, _ => rfl
  | c :: cs, i, h => by rw [findS, if_pos (h c (by simp))]; exact findS_none fun d hd => h d (by simp [hd])
theorem findS_at {T : List Int} : ∀ {cs : List (List Int)} {i k : Nat}, k < cs.length → (∀ j, j < k → (statS T (cs.getD j []) 0).1 = 0) → (statS T (cs.getD k []) 0).1 ≠ 0 → findS T cs i = some (i + k, statS T (cs.getD k []) 0)
  | [], i, k, hk, _, _ => by simp at hk
  | c :: cs, i, 0, hk, _, h => by rw [findS, if_neg (by simpa using h)]; rfl
  | c :: cs, i, k + 1, hk, h0, h => by
    rw [findS, if_pos (by simpa using h0 0 (by omega))]
    have := findS_at (cs := cs) (i := i + 1) (k := k) (by simpa using hk) (fun j hj => by simpa using h0 (j + 1) (by omega)) (by simpa using h)
    rw [this, show i + 1 + k = i + (k + 1) by omega]; rfl
/-- What the program's arrays hold; the queue has every clause that is falsified or unit. -/
structure Ok (f : Cnf) (T : List Int) (tr : List Bool) (op : List Int) (sa : List Bool) (q : List Int) : Prop where
  tr : ∀ l, -f.vars ≤ l → l ≤ f.vars → l ≠ 0 → tr.getD (codeN l) false = decide (l ∈ T)
  op : op = f.cls.map fun c => ((opL T c).length : Int)
  sa : sa = f.cls.map (satB T)
  has : ∀ i, i < f.cls.length → satB T (f.cls.getD i []) = false → (opL T (f.cls.getD i [])).length ≤ 1 → (i : Int) ∈ q
  few : ∀ x ∈ q, ∃ i : Nat, x = i ∧ i < f.cls.length ∧ (opL T (f.cls.getD i [])).length ≤ 1
end Go.Proofs.Ytpmjdaiboniagaa
end PartU5

section PartU6
/- Unit propagation, plain: one step of the program's queue is one step of the reference's. -/
set_option linter.unusedSimpArgs false
set_option linter.unusedVariables false
namespace Go.Proofs.Ytpmjdaiboniagaa
open Go Go.Ab

theorem satB_getD {f : Cnf} {T : List Int} {i : Nat} (h : i < f.cls.length) : (f.cls.map (satB T)).getD i false = satB T (f.cls.getD i []) := by
  simp [List.getD_eq_getElem?_getD, h]
theorem opL_getD {f : Cnf} {T : List Int} {i : Nat} (h : i < f.cls.length) : (f.cls.map fun c => ((opL T c).length : Int)).getD i 0 = (opL T (f.cls.getD i [])).length := by
  simp [List.getD_eq_getElem?_getD, h]
/-- The occurrences: of each literal's number, the clauses. -/
def OccOk (f : Cnf) (occ : List (List Nat)) : Prop := occ.length = (2 * f.vars + 2).toNat ∧ ∀ l, -f.vars ≤ l → l ≤ f.vars → l ≠ 0 → (occ.getD (codeN l) []).Nodup ∧ ∀ i, i ∈ occ.getD (codeN l) [] ↔ i < f.cls.length ∧ l ∈ f.cls.getD i []
theorem setAll_getD : ∀ {is : List Nat} {sa : List Bool} {i : Nat}, i < sa.length → (setAll sa is).getD i false = (sa.getD i false || decide (i ∈ is))
  | [], sa, i, h => by simp [setAll]
  | j :: is, sa, i, h => by
    rw [setAll, setAll_getD (by simpa using h)]
    simp only [List.getD_eq_getElem?_getD, List.getElem?_set, List.mem_cons]
    by_cases e : j = i
    · subst e; simp [h]
    · have e' : ¬ i = j := fun x => e x.symm
      simp [e, e']
theorem getD_ext {α : Type} {l m : List α} (d : α) (hl : l.length = m.length) (h : ∀ i, i < l.length → l.getD i d = m.getD i d) : l = m := by
  apply List.ext_getElem? fun k => ?_
  rcases Nat.lt_or_ge k l.length with hk | hk
  · have := h k hk
    rw [List.getD_eq_getElem?_getD, List.getD_eq_getElem?_getD, List.getElem?_eq_getElem hk, List.getElem?_eq_getElem (by omega)] at this
    rw [List.getElem?_eq_getElem hk, List.getElem?_eq_getElem (by omega)]
    simpa using this
  · rw [List.getElem?_eq_none hk, List.getElem?_eq_none (by omega)]
/-- What the counts come to. -/
theorem decS_fst : ∀ {is : List Nat} {sa : List Bool} {op q : List Int}, is.Nodup → (∀ i ∈ is, i < op.length) → (decS sa is op q).1.length = op.length ∧ ∀ i, i < op.length → (decS sa is op q).1.getD i 0 = op.getD i 0 - (if i ∈ is then 1 else 0)
  | [], sa, op, q, _, _ => ⟨rfl, fun i _ => by simp [decS]⟩
  | j :: is, sa, op, q, hn, hi => by
    obtain ⟨h1, h2⟩ := List.nodup_cons.1 hn
    obtain ⟨g1, g2⟩ := decS_fst (is := is) (sa := sa) (op := op.set j (op.getD j 0 - 1)) (q := exS sa (op.set j (op.getD j 0 - 1)) q j) h2 (fun i hi' => by simpa using hi i (by simp [hi']))
    refine ⟨by rw [decS, g1]; simp, fun i hil => ?_⟩
    rw [decS, g2 i (by simpa using hil)]
    have hj := hi j (by simp)
    rw [set_getD hj]
    by_cases e : i = j
    · subst e; simp [h1]
    · simp [e]
theorem decS_snd : ∀ {is : List Nat} {sa : List Bool} {op q : List Int}, is.Nodup → (∀ i ∈ is, i < op.length) → ∀ x, x ∈ (decS sa is op q).2 ↔ x ∈ q ∨ ∃ i : Nat, x = i ∧ i ∈ is ∧ sa.getD i false = false ∧ op.getD i 0 - 1 ≤ 1
  | [], sa, op, q, _, _, x => by simp [decS]
  | j :: is, sa, op, q, hn, hi, x => by
    obtain ⟨h1, h2⟩ := List.nodup_cons.1 hn
    have hj := hi j (by simp)
    rw [decS, decS_snd h2 (fun i hi' => by simpa using hi i (by simp [hi']))]
    have key : ∀ i, i ∈ is → (op.set j (op.getD j 0 - 1)).getD i 0 = op.getD i 0 := fun i hm => by
      rw [set_getD hj, if_neg (fun e : i = j => h1 (e ▸ hm))]
    have hex : x ∈ exS sa (op.set j (op.getD j 0 - 1)) q j ↔ x ∈ q ∨ (x = j ∧ sa.getD j false = false ∧ op.getD j 0 - 1 ≤ 1) := by
      unfold exS
      rw [set_getD hj, if_pos rfl]
      split
      · rename_i h
        simp only [Bool.and_eq_true, Bool.not_eq_true', decide_eq_true_eq] at h
        rw [List.mem_cons]
        exact ⟨fun k => k.elim (fun e => .inr ⟨e, h⟩) .inl, fun k => k.elim .inr (fun e => .inl e.1)⟩
      · rename_i h
        simp only [Bool.and_eq_true, Bool.not_eq_true', decide_eq_true_eq] at h
        exact ⟨.inl, fun k => k.elim id fun e => absurd e.2 h⟩
    rw [hex]
    constructor
    · rintro ((h | ⟨a, b, c⟩) | ⟨i, a, b, c, d⟩)
      · exact .inl h
      · exact .inr ⟨j, a, by simp, b, c⟩
      · exact .inr ⟨i, a, by simp [b], c, by rw [key i b] at d; exact d⟩
    · rintro (h | ⟨i, a, b, c, d⟩)
      · exact .inl (.inl h)
      · rcases List.mem_cons.1 b with rfl | b
        · exact .inl (.inr ⟨a, c, d⟩)
        · exact .inr ⟨i, a, b, c, by rw [key i b]; exact d⟩
/-- The arrays behind an assignment. -/
theorem Ok.assign {f : Cnf} {occ : List (List Nat)} {T : List Int} {tr : List Bool} {op : List Int} {sa : List Bool} {q q0 q' : List Int} {l : Int} (hv : 0 ≤ f.vars) (ho : OccOk f occ) (ht : tr.length = (2 * f.vars + 2).toNat) (h : Ok f T tr op sa q0) (hq : ∀ x, x ∈ q → x ∈ q0) (hq2 : ∀ x, x ∈ q0 → x ∈ q ∨ ∃ i : Nat, x = i ∧ (l ∈ f.cls.getD i [] ∨ satB T (f.cls.getD i []) = true))
    (h0 : l ≠ 0) (h1 : -f.vars ≤ l ∧ l ≤ f.vars) (h2 : l ∉ T) (h3 : -l ∉ T) (hp : q'.Perm (decS (setAll sa (occ.getD (codeN l) [])) (occ.getD (codeN (-l)) []) op q).2) :
    Ok f (T ++ [l]) (tr.set (codeN l) true) (decS (setAll sa (occ.getD (codeN l) [])) (occ.getD (codeN (-l)) []) op q).1 (setAll sa (occ.getD (codeN l) [])) q' := by
  obtain ⟨ho0, ho⟩ := ho
  obtain ⟨n1, m1⟩ := ho l h1.1 h1.2 h0
  obtain ⟨n2, m2⟩ := ho (-l) (by omega) (by omega) (by omega)
  have hop := h.op
  have hsa := h.sa
  have lop : op.length = f.cls.length := by rw [hop]; simp
  have lsa : sa.length = f.cls.length := by rw [hsa]; simp
  have hi2 : ∀ i ∈ occ.getD (codeN (-l)) [], i < op.length := fun i hi => by rw [lop]; exact ((m2 i).1 hi).1
  have hsa' : setAll sa (occ.getD (codeN l) []) = f.cls.map (satB (T ++ [l])) := by
    refine getD_ext false (by rw [setAll_len, lsa]; simp) fun i hi => ?_
    rw [setAll_len, lsa] at hi
    rw [setAll_getD (by omega), satB_getD hi, hsa, satB_getD hi, satB_snoc]
    congr 1
    rw [decide_eq_decide, m1]
    exact ⟨fun h => h.2, fun h => ⟨hi, h⟩⟩
  obtain ⟨g1, g2⟩ := decS_fst (sa := setAll sa (occ.getD (codeN l) [])) (q := q) n2 hi2
  have hop' : (decS (setAll sa (occ.getD (codeN l) [])) (occ.getD (codeN (-l)) []) op q).1 = f.cls.map fun c => ((opL (T ++ [l]) c).length : Int) := by
    refine getD_ext 0 (by rw [g1, lop]; simp) fun i hi => ?_
    rw [g1, lop] at hi
    rw [g2 i (by omega), opL_getD hi, hop, opL_getD hi, opL_snoc_len h2]
    by_cases hm : -l ∈ f.cls.getD i []
    · rw [if_pos ((m2 i).2 ⟨hi, hm⟩), if_pos hm]
    · rw [if_neg (fun k => hm ((m2 i).1 k).2), if_neg hm]
  have hmem := fun x => (hp.mem_iff (a := x)).trans (decS_snd (sa := setAll sa (occ.getD (codeN l) [])) (q := q) n2 hi2 x)
  refine ⟨fun m k1 k2 k3 => ?_, hop', hsa', fun i hi hs ho' => ?_, fun x hx => ?_⟩
  · have hc : codeN l < tr.length := by rw [ht]; exact codeN_lt hv h1
    rw [List.getD_eq_getElem?_getD, List.getElem?_set]
    by_cases e : m = l
    · subst e; simp [hc]
    · rw [if_neg (fun k => e (codeN_inj k.symm (.inr trivial))), ← List.getD_eq_getElem?_getD, h.tr m k1 k2 k3, decide_eq_decide]
      simp [e]
  · rw [satB_snoc, Bool.or_eq_false_iff] at hs
    rw [hmem]
    by_cases hm : -l ∈ f.cls.getD i []
    · refine .inr ⟨i, rfl, (m2 i).2 ⟨hi, hm⟩, ?_, ?_⟩
      · rw [hsa', satB_getD hi, satB_snoc, hs.1, hs.2]; rfl
      · rw [hop, opL_getD hi]
        have := opL_snoc_len h2 (f.cls.getD i [])
        rw [if_pos hm] at this
        omega
    · have := opL_snoc_len h2 (f.cls.getD i [])
      rw [if_neg hm] at this
      rcases hq2 _ (h.has i hi hs.1 (by omega)) with k | ⟨j, e, k | k⟩
      · exact .inl k
      · have : i = j := by omega
        subst this
        have := of_decide_eq_false hs.2
        exact absurd k this
      · have : i = j := by omega
        subst this
        rw [hs.1] at k; cases k
  · rcases (hmem x).1 hx with k | ⟨i, rfl, k1, k2, k3⟩
    · obtain ⟨i, e, hi, hl⟩ := h.few x (hq x k)
      refine ⟨i, e, hi, ?_⟩
      have := opL_snoc_len h2 (f.cls.getD i [])
      split at this <;> omega
    · obtain ⟨hi, hm⟩ := (m2 i).1 k1
      refine ⟨i, rfl, hi, ?_⟩
      rw [hop, opL_getD hi] at k3
      have := opL_snoc_len h2 (f.cls.getD i [])
      rw [if_pos hm] at this
      omega
end Go.Proofs.Ytpmjdaiboniagaa
end PartU6

section PartU7
/- Unit propagation, plain: trails; what the least number of the queue tells. -/
set_option linter.unusedSimpArgs false
set_option linter.unusedVariables false
namespace Go.Proofs.Ytpmjdaiboniagaa
open Go Go.Ab

theorem nodup_len : ∀ {n : Nat} {l : List Nat}, l.Nodup → (∀ x ∈ l, x < n) → l.length ≤ n
  | 0, l, _, h => by
    cases l with
    | nil => simp
    | cons x l => have := h x (by simp); omega
  | n + 1, l, hn, h => by
    have h1 : (l.erase n).length ≤ n := nodup_len (hn.erase n) fun x hx => by
      have := (List.Nodup.mem_erase_iff hn).1 hx
      have := h x this.2
      omega
    by_cases hm : n ∈ l
    · rw [List.length_erase_of_mem hm] at h1; omega
    · rw [List.erase_of_not_mem hm] at h1; omega
/-- A trail: no literal twice, none with its negative. -/
structure TOk (v : Int) (T : List Int) : Prop where
  nodup : T.Nodup
  rng : ∀ x ∈ T, x ≠ 0 ∧ -v ≤ x ∧ x ≤ v ∧ -x ∉ T
theorem TOk.len {v : Int} {T : List Int} (hv : 0 ≤ v) (h : TOk v T) : (T.length : Int) ≤ v := by
  have h1 : (T.map fun x => x.natAbs - 1).Nodup := by
    refine List.pairwise_map.2 (List.Pairwise.imp_of_mem (fun {x y} hx hy hne e => ?_) h.nodup)
    have hx' := h.rng x hx
    have hy' := h.rng y hy
    have : x = y ∨ x = -y := by omega
    rcases this with e1 | e1
    · exact hne e1
    · exact hy'.2.2.2 (e1 ▸ hx)
  have := nodup_len (n := v.toNat) h1 fun x hx => by
    obtain ⟨y, hy, rfl⟩ := List.mem_map.1 hx
    have := h.rng y hy
    omega
  rw [List.length_map] at this
  omega
theorem TOk.nil (v : Int) : TOk v [] := ⟨by simp, fun x hx => by cases hx⟩
theorem TOk.snoc {v : Int} {T : List Int} {l : Int} (h : TOk v T) (h0 : l ≠ 0) (h1 : -v ≤ l ∧ l ≤ v) (h2 : l ∉ T) (h3 : -l ∉ T) : TOk v (T ++ [l]) := by
  refine ⟨List.nodup_append.2 ⟨h.nodup, by simp, fun a ha b hb => by simp at hb; subst hb; exact fun e => h2 (e ▸ ha)⟩, fun x hx => ?_⟩
  rcases List.mem_append.1 hx with hx | hx
  · have := h.rng x hx
    refine ⟨this.1, this.2.1, this.2.2.1, fun hm => ?_⟩
    rcases List.mem_append.1 hm with hm | hm
    · exact this.2.2.2 hm
    · rw [List.mem_singleton] at hm
      exact h3 (by rw [← hm, Int.neg_neg]; exact hx)
  · rw [List.mem_singleton] at hx
    subst hx
    refine ⟨h0, h1.1, h1.2, fun hm => ?_⟩
    rcases List.mem_append.1 hm with hm | hm
    · exact h3 hm
    · rw [List.mem_singleton] at hm; omega
theorem Ok.skip {f : Cnf} {T : List Int} {tr : List Bool} {op : List Int} {sa : List Bool} {q q0 : List Int} {i : Nat} (h : Ok f T tr op sa q0) (hp : ((i : Int) :: q).Perm q0) (hs : satB T (f.cls.getD i []) = true) : Ok f T tr op sa q := by
  refine ⟨h.tr, h.op, h.sa, fun j hj h1 h2 => ?_, fun x hx => h.few x (hp.mem_iff.1 (List.mem_cons_of_mem _ hx))⟩
  rcases List.mem_cons.1 (hp.mem_iff.2 (h.has j hj h1 h2)) with e | e
  · have : j = i := by omega
    subst this
    rw [hs] at h1; cases h1
  · exact e
theorem Ok.perm {f : Cnf} {T : List Int} {tr : List Bool} {op : List Int} {sa : List Bool} {q q0 : List Int} (h : Ok f T tr op sa q0) (hp : q.Perm q0) : Ok f T tr op sa q :=
  ⟨h.tr, h.op, h.sa, fun j hj h1 h2 => hp.mem_iff.2 (h.has j hj h1 h2), fun x hx => h.few x (hp.mem_iff.1 hx)⟩
theorem Ok.first {f : Cnf} {T : List Int} {tr : List Bool} {op : List Int} {sa : List Bool} {q0 : List Int} {i : Nat} (hc : ∀ c ∈ f.cls, ∀ x ∈ c, x ≠ 0) (h : Ok f T tr op sa q0) (hi : i < f.cls.length) (hmin : ∀ y ∈ q0, (i : Int) ≤ y) (hs : satB T (f.cls.getD i []) = false) (hl : (opL T (f.cls.getD i [])).length ≤ 1) :
    findS T f.cls 0 = some (i, statS T (f.cls.getD i []) 0) := by
  have hci := hc _ (getD_mem [] hi)
  have := findS_at (T := T) (cs := f.cls) (i := 0) (k := i) hi (fun j hj => ?_) ?_
  · simpa using this
  · refine stat_zero (hc _ (getD_mem [] (by omega))) ?_
    cases hsj : satB T (f.cls.getD j []) with
    | true => exact .inl rfl
    | false =>
      refine .inr ?_
      rcases Nat.lt_or_ge 1 (opL T (f.cls.getD j [])).length with h1 | h1
      · exact h1
      · have := hmin _ (h.has j (by omega) hsj h1); omega
  · match ho : opL T (f.cls.getD i []), hl with
    | [], _ => rw [stat_one hci hs (by rw [ho]; rfl)]; simp
    | [x], _ => rw [stat_two hci hs ho]; simp
theorem Ok.none {f : Cnf} {T : List Int} {tr : List Bool} {op : List Int} {sa : List Bool} (hc : ∀ c ∈ f.cls, ∀ x ∈ c, x ≠ 0) (h : Ok f T tr op sa []) : findS T f.cls 0 = none := by
  refine findS_none fun c hm => stat_zero (hc c hm) ?_
  obtain ⟨j, hj, rfl⟩ := List.getElem_of_mem hm
  have e : f.cls.getD j [] = f.cls[j] := by rw [List.getD_eq_getElem?_getD, List.getElem?_eq_getElem hj]; rfl
  rw [← e]
  cases hsj : satB T (f.cls.getD j []) with
  | true => exact .inl rfl
  | false =>
    refine .inr ?_
    rcases Nat.lt_or_ge 1 (opL T (f.cls.getD j [])).length with h1 | h1
    · exact h1
    · have := h.has j hj hsj h1; cases this
/-- The open literal of a unit clause, as the program finds it. -/
theorem find_open {f : Cnf} {T : List Int} {tr : List Bool} {c : List Int} {x : Int} (ht : ∀ l, -f.vars ≤ l → l ≤ f.vars → l ≠ 0 → tr.getD (codeN l) false = decide (l ∈ T)) (hc : ∀ l ∈ c, l ≠ 0 ∧ -f.vars ≤ l ∧ l ≤ f.vars) (h : opL T c = [x]) : (c.find? fun l => !tr.getD (codeN (-l)) false) = some x := by
  have hx : x ∈ c ∧ -x ∉ T := mem_opL.1 (by rw [h]; simp)
  have key : ∀ l ∈ c, (!tr.getD (codeN (-l)) false) = true ↔ l = x := fun l hl => by
    have := hc l hl
    rw [ht (-l) (by omega) (by omega) (by omega)]
    simp only [Bool.not_eq_true', decide_eq_false_iff_not]
    constructor
    · intro hn
      have : l ∈ opL T c := mem_opL.2 ⟨hl, hn⟩
      rw [h] at this; simpa using this
    · rintro rfl; exact hx.2
  cases hf : c.find? fun l => !tr.getD (codeN (-l)) false with
  | none =>
    have := List.find?_eq_none.1 hf x hx.1
    exact absurd ((key x hx.1).2 rfl) this
  | some y =>
    have h1 := List.find?_some hf
    have h2 := List.mem_of_find?_eq_some hf
    rw [(key y h2).1 h1]
theorem occ_len {f : Cnf} {occ : List (List Nat)} (ho : OccOk f occ) {l : Int} (h0 : l ≠ 0) (h1 : -f.vars ≤ l ∧ l ≤ f.vars) : (occ.getD (codeN l) []).length ≤ f.cls.length := by
  obtain ⟨n1, m1⟩ := ho.2 l h1.1 h1.2 h0
  exact nodup_len n1 fun x hx => ((m1 x).1 hx).1
theorem initT_ok {v : Int} : ∀ {ls T : List Int}, TOk v T → (∀ l ∈ ls, l ≠ 0 ∧ -v ≤ l ∧ l ≤ v ∧ -l ∉ ls ∧ -l ∉ T) → TOk v (initT T ls)
  | [], T, h, _ => h
  | l :: ls, T, h, hl => by
    rw [initT]
    obtain ⟨a, b, c, d, e⟩ := hl l (by simp)
    split
    · exact initT_ok h fun m hm => by
        obtain ⟨a, b, c, d, e⟩ := hl m (by simp [hm])
        exact ⟨a, b, c, fun k => d (by simp [k]), e⟩
    · rename_i hT
      refine initT_ok (h.snoc a ⟨b, c⟩ hT e) fun m hm => ?_
      obtain ⟨a', b', c', d', e'⟩ := hl m (by simp [hm])
      refine ⟨a', b', c', fun k => d' (by simp [k]), fun k => ?_⟩
      rcases List.mem_append.1 k with k | k
      · exact e' k
      · rw [List.mem_singleton] at k; exact d' (by simp [k])
end Go.Proofs.Ytpmjdaiboniagaa
end PartU7

section PartU8
/- each; run. -/
set_option linter.unusedSimpArgs false
set_option linter.unusedVariables false
set_option maxRecDepth 100000
namespace Go.Proofs.Ytpmjdaiboniagaa
open Go Go.Ab

@[go_sem ↓] theorem headId_rangeFunc (g : Operand) (ps : Array Tmp) (a b : Code) : headId (.rangeFunc g ps a b) = none := (rfl)
theorem each_ac {f : Cnf} (hn : f.cls.length ≤ 100000) {ip l : Nat} {cs : List A} (I : Nat → St → Prop) (X : St → Prop) (σ : St) (hc : σ[ip]? = some (some (.cells cs))) (h1 : cs[1]? = some (.d (clsD f.cls))) (h0 : I 0 σ) (G : Glob)
    (hY : ∀ j st, j < f.cls.length → I j st → YC Try.prog G l [dn j, .d (isD (f.cls.getD j []))] st fun r st' => r = db true ∧ I (j + 1) st' ∨ r = db false ∧ X st') (R : A → St → Prop) (h : ∀ r st, I f.cls.length st ∨ X st → R r st) : AC Try.prog G 76 [.ref ip 0, .fn (.yield l) [] []] σ R := by
  refine ac_enter mixed Try.func76 rfl Try.ntmps76 (by simp only [go_sem]) fun hbd => ?_
  simp only [List.length_cons, List.length_nil, Nat.reduceAdd, Nat.reduceSub, List.replicate_succ, List.replicate_zero, List.cons_append, List.nil_append]
  have e0 : List.getD cs 1 .any = .d (.sl 1 (f.cls.map isD)) := getD_opt h1
  have hl1 : 1 < cs.length := (List.getElem?_eq_some_iff.1 h1).1
  simp only [go_sem, live_of hc, objK_of hc, e0, List.length_map]
  refine ⟨by omega, ?_⟩
  refine aw_loop (fun m fr st => ∃ j : Nat, j ≤ f.cls.length ∧ m = f.cls.length - j ∧ I j st ∧ fr = [.any, .fn (.yield l) [] [], .any, .any, .any, .any, .any, .any, .any, .any, .d (.sl 1 (f.cls.map isD)), dn f.cls.length, dn j, .any, .any, .any, .any, .any, .any, .any, .any, .any, .any]) f.cls.length _
    (Wk.mask [1, 10, 11, 12] ⟨0, by omega, rfl, h0, rfl⟩) ?_
  rintro m fr st ⟨j, hj, hm, hI, rfl⟩
  rcases Nat.lt_or_ge j f.cls.length with hlt | hge
  · have hd : decide ((j : Int) < (f.cls.length : Int)) = true := decide_eq_true (by omega)
    have e1 := isD_getD hlt
    have w2 := wrapS j (by omega)
    simp only [go_sem, List.length_map, hd, e1]
    refine ⟨⟨by omega, by omega⟩, yc' ((hY j st hlt hI).mono fun r st' hr => ?_)⟩
    rcases hr with ⟨rfl, hI'⟩ | ⟨rfl, hX⟩
    · simp only [go_sem, w2]
      exact Wk.mask [1, 10, 11, 12] ⟨f.cls.length - (j + 1), by omega, j + 1, hlt, rfl, hI', rfl⟩
    · simp only [go_sem, Try.results76]
      exact ⟨_, _, Weak.refl _ _ _ _, h _ _ (.inr hX)⟩
  · have hd : decide ((j : Int) < (f.cls.length : Int)) = false := decide_eq_false (by omega)
    simp only [go_sem, List.length_map, hd, Try.results76]
    exact ⟨_, _, Weak.refl _ _ _ _, h _ _ (.inl ((show j = f.cls.length by omega) ▸ hI))⟩
theorem Pg.of_keeps {σ σ' : St} {d : Ids} {f : Cnf} {occ : List (List Nat)} {tr : List Bool} {op : List Int} {sa : List Bool} {q T Rs : List Int} (h : Pg σ d f occ tr op sa q T Rs) (hk : ∀ i ∈ d.all, σ'[i]? = σ[i]?) : Pg σ' d f occ tr op sa q T Rs :=
  ⟨(hk _ (by simp [Ids.all])).trans h.c, (hk _ (by simp [Ids.all])).trans h.t, (hk _ (by simp [Ids.all])).trans h.o, (hk _ (by simp [Ids.all])).trans h.s, (hk _ (by simp [Ids.all])).trans h.q, (hk _ (by simp [Ids.all])).trans h.T, (hk _ (by simp [Ids.all])).trans h.R, h.lo, h.ls, h.d⟩
theorem Pg.lt {σ : St} {d : Ids} {f : Cnf} {occ : List (List Nat)} {tr : List Bool} {op : List Int} {sa : List Bool} {q T Rs : List Int} (h : Pg σ d f occ tr op sa q T Rs) : ∀ i ∈ d.all, i < σ.length := by
  intro i hi
  simp only [Ids.all, List.mem_cons, List.not_mem_nil, or_false] at hi
  rcases hi with rfl | rfl | rfl | rfl | rfl | rfl | rfl
  · exact lt_of_some h.c
  · exact lt_of_some h.t
  · exact lt_of_some h.o
  · exact lt_of_some h.s
  · exact lt_of_some h.q
  · exact lt_of_some h.T
  · exact lt_of_some h.R
/-- What the examination of all clauses leaves. -/
def cand (sa : List Bool) (op : List Int) (j : Nat) (x : Int) : Prop := ∃ i : Nat, x = i ∧ i < j ∧ sa.getD i false = false ∧ op.getD i 0 ≤ 1
theorem cand_succ {sa : List Bool} {op q : List Int} {j : Nat} (h : ∀ x, x ∈ q ↔ cand sa op j x) : ∀ x, x ∈ exS sa op q j ↔ cand sa op (j + 1) x := fun x => by
  unfold exS cand
  split
  · rename_i hc
    simp only [Bool.and_eq_true, Bool.not_eq_true', decide_eq_true_eq] at hc
    rw [List.mem_cons, h]
    constructor
    · rintro (rfl | ⟨i, a, b, c⟩)
      · exact ⟨j, rfl, by omega, hc⟩
      · exact ⟨i, a, by omega, c⟩
    · rintro ⟨i, a, b, c⟩
      by_cases e : i = j
      · subst e; exact .inl a
      · exact .inr ⟨i, a, by omega, c⟩
  · rename_i hc
    simp only [Bool.and_eq_true, Bool.not_eq_true', decide_eq_true_eq] at hc
    rw [h]
    constructor
    · rintro ⟨i, a, b, c⟩; exact ⟨i, a, by omega, c⟩
    · rintro ⟨i, a, b, c⟩
      by_cases e : i = j
      · subst e; exact absurd c hc
      · exact ⟨i, a, by omega, c⟩
theorem Sub.less {d d' : Ids} {n m : Nat} (h : Sub d d' n) (hm : m ≤ n) : Sub d d' m :=
  ⟨h.ip, h.it, h.io, h.is, h.iq.imp id (by omega), h.iT.imp id (by omega), h.iR.imp id (by omega)⟩
theorem away {d d' : Ids} {n m k : Nat} (hS : Sub d d' n) (h : ∀ i ∈ d.all, i < m) (h1 : m ≤ k) (h2 : k < n) : k ∉ d'.all := fun hi => by
  obtain ⟨a1, a2, a3, a4, a5, a6, a7⟩ := hS
  simp only [Ids.all, List.mem_cons, List.not_mem_nil, or_false] at hi h
  have h2 := h d.ip (by simp)
  have h3 := h d.it (by simp)
  have h4 := h d.io (by simp)
  have h5 := h d.is (by simp)
  have h6 := h d.iq (by simp)
  have h7 := h d.iT (by simp)
  have h8 := h d.iR (by simp)
  omega
theorem decS_len {sa : List Bool} : ∀ {is : List Nat} {op q : List Int}, (decS sa is op q).2.length ≤ q.length + is.length
  | [], op, q => by simp [decS]
  | i :: is, op, q => by
    rw [decS]
    have := decS_len (sa := sa) (is := is) (op := op.set i (op.getD i 0 - 1)) (q := exS sa (op.set i (op.getD i 0 - 1)) q i)
    have := exS_len (sa := sa) (op := op.set i (op.getD i 0 - 1)) (q := q) (i := i)
    rw [List.length_cons]; omega
theorem opL_len {T : List Int} : ∀ {c : List Int}, (opL T c).length ≤ c.length
  | [] => by simp [opL]
  | l :: c => by
    have := opL_len (T := T) (c := c)
    unfold opL; split
    · rw [List.length_cons]; omega
    · simp only [List.length_cons]; omega
theorem Ok.bound {f : Cnf} {T : List Int} {tr : List Bool} {op : List Int} {sa : List Bool} {q : List Int} (h : Ok f T tr op sa q) (hw : ∀ c ∈ f.cls, c.length ≤ 1000) : ∀ x ∈ op, -1000000 ≤ x ∧ x ≤ 1000000 := fun x hx => by
  rw [h.op] at hx
  obtain ⟨c, hc, rfl⟩ := List.mem_map.1 hx
  have := hw c hc
  have := opL_len (T := T) (c := c)
  omega
set_option maxHeartbeats 4000000 in
theorem run_ac {d : Ids} {f : Cnf} {occ : List (List Nat)} {tr : List Bool} {op : List Int} {sa : List Bool} (lits : List Int) (hn : f.cls.length ≤ 40) (hw : ∀ c ∈ f.cls, c.length ≤ 1000) (hv : 0 ≤ f.vars ∧ f.vars ≤ 8000) (hc : ∀ c ∈ f.cls, ∀ l ∈ c, l ≠ 0 ∧ -f.vars ≤ l ∧ l ≤ f.vars) (hll : lits.length ≤ reachBytes) (hl : ∀ l ∈ lits, l ≠ 0 ∧ -f.vars ≤ l ∧ l ≤ f.vars ∧ -l ∉ lits)
    (ht : tr.length = (2 * f.vars + 2).toNat) (ho : OccOk f occ) (hoa : ∀ is ∈ occ, is.length ≤ 100000 ∧ ∀ i ∈ is, i < f.cls.length) (htr : ∀ l, -f.vars ≤ l → l ≤ f.vars → l ≠ 0 → tr.getD (codeN l) false = false) (hop : op = f.cls.map fun c => ((opL [] c).length : Int)) (hsa : sa = f.cls.map (satB [])) (σ : St) (hP : Pg σ d f occ tr op sa [] [] []) (G : Glob) (R : A → St → Prop)
    (h : ∀ σ' d' tr' op' sa' q', Sub d d' σ.length → Pg σ' d' f occ tr' op' sa' q' (runS f.cls (f.vars + 1).toNat (initT [] lits) ((initT [] lits).map fun _ => -1)).1 (runS f.cls (f.vars + 1).toNat (initT [] lits) ((initT [] lits).map fun _ => -1)).2.1 → tr'.length = tr.length → Keeps d.all σ σ' → R (di (runS f.cls (f.vars + 1).toNat (initT [] lits) ((initT [] lits).map fun _ => -1)).2.2) σ') :
    AC Try.prog G 57 [.ref d.ip 0, .d (isD lits)] σ R := by
  refine ac_enterC' [4, 10] mixed Try.func57 rfl Try.ntmps57 (by simp only [go_sem]) fun hbd => ?_
  simp only [List.length_cons, List.length_nil, Nat.reduceAdd, Nat.reduceSub, List.replicate_succ, List.replicate_zero, List.cons_append, List.nil_append]
  have hipl := hP.lt d.ip (by simp [Ids.all])
  simp only [go_sem]
  refine ⟨live_of hP.c, ?_⟩
  refine aw_cut (fun fr st => ∃ d' q', Sub d d' (σ.length + 1) ∧ Pg st d' f occ tr op sa q' [] [] ∧ (∀ x, x ∈ q' ↔ cand sa op f.cls.length x) ∧ HeapN q' q'.length ∧ q'.length ≤ f.cls.length ∧ st[σ.length]? = some (some (.cells [.ref d.ip 0])) ∧ Keeps d.all σ st ∧ fr = [.any, .d (isD lits), .ref σ.length 0, .any, .any, .any, .any, .any, .any, .any, .any, .any, .any, .any, .any, .any, .any, .any, .any, .any, .any, .any, .any, .any, .any, .any, .any, .any, .any, .any, .any, .any, .any, .any, .any, .any, .any, .any, .any, .any, .any, .any, .any, .any, .any, .any, .any, .any, .any, .any, .any, .any, .any, .any, .any, .any, .any, .any, .any, .any, .any, .any, .any, .any, .any, .any, .any, .any, .any, .any, .any]) ?_ ?_
  · simp only [go_sem]
    obtain ⟨fr0, hfr0⟩ : ∃ fr0 : Fr, fr0 = [.any, .d (isD lits), .ref σ.length 0, .any, .any, .any, .any, .any, .any, .any, .fn (.func 76) [.ref d.ip 0] [], .any, .any, .any, .any, .any, .any, .any, .any, .any, .any, .any, .any, .any, .any, .any, .any, .any, .any, .any, .any, .any, .any, .any, .any, .any, .any, .any, .any, .any, .any, .any, .any, .any, .any, .any, .any, .any, .any, .any, .any, .any, .any, .any, .any, .any, .any, .any, .any, .any, .any, .any, .any, .any, .any, .any, .any, .any, .any, .any, .any] := ⟨_, rfl⟩
    refine aw_range ⟨fr0, _, by rw [hfr0]; exact Weak.mask [1, 2, 10], by rw [hfr0]; simp [bdL, A.bd]; omega, 76, [.ref d.ip 0], [], by rw [hfr0]; rfl, fun l r hY => ?_⟩
    have hlen : (σ ++ [some (Ob.cells [A.ref d.ip 0])]).length = σ.length + 1 := by simp
    rw [hlen] at hY ⊢
    obtain ⟨s0, hs0⟩ : ∃ s0, (σ ++ [some (Ob.cells [A.ref d.ip 0])]) ++ [some (.lp l r fr0)] = s0 := ⟨_, rfl⟩
    have hsl : s0.length = σ.length + 2 := by rw [← hs0]; simp
    have hk0 : Keeps d.all σ s0 := by rw [← hs0]; exact ⟨by simp, fun id hid _ => by rw [List.append_assoc, List.getElem?_append_left hid]⟩
    have hP0 : Pg s0 d f occ tr op sa [] [] [] := hP.of_keeps fun i hi => by rw [← hs0, List.append_assoc, List.getElem?_append_left (hP.lt i hi)]
    have hb0 : s0[σ.length]? = some (some (.cells [.ref d.ip 0])) := by rw [← hs0, List.append_assoc, List.getElem?_append_right (Nat.le_refl _)]; simp
    have hr0 : s0[σ.length + 1]? = some (some (.lp l r fr0)) := by rw [← hs0, List.append_assoc, List.getElem?_append_right (by omega)]; simp
    have hnot : σ.length ∉ d.all ∧ σ.length + 1 ∉ d.all := ⟨fun hm => by have := hP.lt _ hm; omega, fun hm => by have := hP.lt _ hm; omega⟩
    rw [hs0]
    refine each_ac (by omega) (fun j st => ∃ d' q', Sub d d' s0.length ∧ Pg st d' f occ tr op sa q' [] [] ∧ (∀ x, x ∈ q' ↔ cand sa op j x) ∧ HeapN q' q'.length ∧ q'.length ≤ j ∧ Keeps d.all s0 st) (fun _ => False) s0 hP0.c rfl ⟨d, [], Sub.refl _ _, hP0, fun x => ?_, fun k _ hk => by simp at hk, by simp, Keeps.refl _ _⟩ G (fun j st hj ⟨d', q', hS, hP', hq, hh, hql, hK⟩ => ?_) _ (fun r' st hst => ?_)
    · exact ⟨(fun hx => by cases hx), fun ⟨i, _, hi, _⟩ => by omega⟩
    · have hbox : st[σ.length]? = some (some (.cells [.ref d.ip 0])) := (hK.2 _ (by omega) hnot.1).trans hb0
      have hrec : st[σ.length + 1]? = some (some (.lp l r fr0)) := (hK.2 _ (by omega) hnot.2).trans hr0
      refine hY _ _ _ ⟨hrec, rfl, ?_⟩
      have hset : setPs fr0 [11, 12] [dn j, .d (isD (f.cls.getD j []))] = [.any, .d (isD lits), .ref σ.length 0, .any, .any, .any, .any, .any, .any, .any, .fn (.func 76) [.ref d.ip 0] [], dn j, .d (isD (f.cls.getD j [])), .any, .any, .any, .any, .any, .any, .any, .any, .any, .any, .any, .any, .any, .any, .any, .any, .any, .any, .any, .any, .any, .any, .any, .any, .any, .any, .any, .any, .any, .any, .any, .any, .any, .any, .any, .any, .any, .any, .any, .any, .any, .any, .any, .any, .any, .any, .any, .any, .any, .any, .any, .any, .any, .any, .any, .any, .any, .any] := by rw [hfr0]; rfl
      rw [hset]
      simp only [go_sem]
      refine ⟨hrec, ?_⟩
      obtain ⟨s1, hs1⟩ : ∃ s1, st.set (σ.length + 1) (some (.lp l { r with state := .busy } fr0)) = s1 := ⟨_, rfl⟩
      have hip : d'.ip = d.ip := hS.ip
      have hdl : ∀ i ∈ d'.all, i ≠ σ.length ∧ i ≠ σ.length + 1 := fun i hi => by
        have h1 := hP.lt
        obtain ⟨a1, a2, a3, a4, a5, a6, a7⟩ := hS
        simp only [Ids.all, List.mem_cons, List.not_mem_nil, or_false] at hi h1
        have h2 := h1 d.ip (by simp)
        have h3 := h1 d.it (by simp)
        have h4 := h1 d.io (by simp)
        have h5 := h1 d.is (by simp)
        have h6 := h1 d.iq (by simp)
        have h7 := h1 d.iT (by simp)
        have h8 := h1 d.iR (by simp)
        omega
      have hP1 : Pg s1 d' f occ tr op sa q' [] [] := hP'.of_keeps fun i hi => by rw [← hs1, List.getElem?_set_ne (fun e => (hdl i hi).2 e.symm)]
      have hb1 : s1[σ.length]? = some (some (.cells [.ref d.ip 0])) := by rw [← hs1, List.getElem?_set_ne (by omega)]; exact hbox
      have hr1 : s1[σ.length + 1]? = some (some (.lp l { r with state := .busy } fr0)) := by rw [← hs1, List.getElem?_set, if_pos rfl, if_pos (lt_of_some hrec)]
      rw [hs1, objK_of hb1]
      refine ⟨by simp, ?_⟩
      rw [show List.getD [A.ref d.ip 0] 0 .any = .ref d.ip 0 from rfl, ← hip]
      refine ac' (examine_ac j hj (by omega) hh _ hP1 _ _ fun r' st2 iq' q2 hp2 hh2 hP2 hK2 hiq => ?_)
      simp only [go_sem]
      have hnd : ∀ i, i = σ.length ∨ i = σ.length + 1 → i ∉ d'.all := fun i hi hm => by have := hdl i hm; omega
      have hr2 : st2[σ.length + 1]? = some (some (.lp l { r with state := .busy } fr0)) := (hK2.2 _ (lt_of_some hr1) (hnd _ (.inr rfl))).trans hr1
      refine ⟨st2, Weak.refl _ _ _ _, hr2, .inl ⟨rfl, { d' with iq := iq' }, q2, ?_, ?_, ?_, hh2, ?_, ?_⟩⟩
      · have hl1 : s1.length = st.length := by rw [← hs1, List.length_set]
        have := hK.1
        exact hS.trans (m := s0.length) ⟨rfl, rfl, rfl, rfl, hiq.elim .inl (fun k => .inr (by simp only at k ⊢; omega)), .inl rfl, .inl rfl⟩ (Nat.le_refl _)
      · refine hP2.of_keeps fun i hi => ?_
        rw [List.getElem?_set_ne]
        rintro rfl
        have := hP2.lt
        rcases hiq with k | k
        · have e : ({ d' with iq := iq' } : Ids) = d' := by rw [k]
          rw [e] at hi
          exact (hdl _ hi).2 rfl
        · have hl1 : s1.length = st.length := by rw [← hs1, List.length_set]
          have := hK.1
          have hx := hdl
          simp only [Ids.all, List.mem_cons, List.not_mem_nil, or_false] at hi hx
          have h2 := hx d'.ip (by simp)
          have h3 := hx d'.it (by simp)
          have h4 := hx d'.io (by simp)
          have h5 := hx d'.is (by simp)
          have h7 := hx d'.iT (by simp)
          have h8 := hx d'.iR (by simp)
          omega
      · intro x
        rw [hp2.mem_iff]
        exact cand_succ hq x
      · have := hp2.length_eq
        have := exS_len (sa := sa) (op := op) (q := q') (i := j)
        omega
      · have hl1 : s1.length = st.length := by rw [← hs1, List.length_set]
        refine ⟨by rw [List.length_set]; have := hK2.1; have := hK.1; omega, fun id hid hn => ?_⟩
        by_cases e : id = σ.length + 1
        · subst e
          rw [List.getElem?_set, if_pos rfl, if_pos (lt_of_some hr2), hr0]
        · have hid' : id ∉ d'.all := fun hm => by
            obtain ⟨a1, a2, a3, a4, a5, a6, a7⟩ := hS
            simp only [Ids.all, List.mem_cons, List.not_mem_nil, or_false] at hm hn
            omega
          rw [List.getElem?_set_ne (fun k => e k.symm), hK2.2 id (by have := hK.1; omega) hid', ← hs1, List.getElem?_set_ne (fun k => e k.symm), hK.2 id hid hn]
    · rcases hst with ⟨d', q', hS, hP', hq, hh, hql, hK⟩ | hst
      · have hbox : st[σ.length]? = some (some (.cells [.ref d.ip 0])) := (hK.2 _ (by omega) hnot.1).trans hb0
        have hrec : st[σ.length + 1]? = some (some (.lp l r fr0)) := (hK.2 _ (by omega) hnot.2).trans hr0
        refine .inl ⟨hrec, fr0, _, Weak.refl _ _ _ _, ?_⟩
        rw [hfr0]
        simp only [go_sem]
        have hset : ∀ i, i ≠ σ.length + 1 → (st.set (σ.length + 1) none)[i]? = st[i]? := fun i hi => List.getElem?_set_ne (fun e => hi e.symm)
        refine Wk.mask [1, 2] ⟨d', q', hS.less (by omega), hP'.of_keeps fun i hi => hset i fun e => away hS (fun i hi => hP.lt i hi) (Nat.le_add_right _ 1) (by omega) (e ▸ hi), hq, hh, hql, by rw [hset _ (by omega)]; exact hbox, ⟨by rw [List.length_set]; have := hK.1; omega, fun id hid hn => ?_⟩, rfl⟩
        rw [hset _ (by omega), hK.2 id (by omega) hn, hk0.2 id hid hn]
      · exact hst.elim
  rintro fr st ⟨d1, q1, hS, hP1, hq, hh, hql, hbox, hK, rfl⟩
  have hOk : Ok f [] tr op sa q1 := by
    refine ⟨fun l k1 k2 k3 => by rw [htr l k1 k2 k3]; simp, hop, hsa, fun i hi h1 h2 => ?_, fun x hx => ?_⟩
    · rw [hq]
      exact ⟨i, rfl, hi, by rw [hsa, satB_getD hi]; exact h1, by rw [hop, opL_getD hi]; omega⟩
    · obtain ⟨i, e, hi, h1, h2⟩ := (hq x).1 hx
      rw [hop, opL_getD hi] at h2
      exact ⟨i, e, hi, by omega⟩
  -- the assumed literals
  refine aw_cut (fun fr st => ∃ d' T' tr' op' sa' q', Sub d d' (σ.length + 1) ∧ Pg st d' f occ tr' op' sa' q' T' (T'.map fun _ => -1) ∧ Ok f T' tr' op' sa' q' ∧ HeapN q' q'.length ∧ tr'.length = tr.length ∧ TOk f.vars T' ∧ q'.length ≤ f.cls.length * (T'.length + 1) ∧ T' = initT [] lits ∧
    st[σ.length]? = some (some (.cells [.ref d.ip 0])) ∧ Keeps d.all σ st ∧ fr = [.any, .any, .ref σ.length 0, .any, .any, .any, .any, .any, .any, .any, .any, .any, .any, .any, .any, .any, .any, .any, .any, .any, .any, .any, .any, .any, .any, .any, .any, .any, .any, .any, .any, .any, .any, .any, .any, .any, .any, .any, .any, .any, .any, .any, .any, .any, .any, .any, .any, .any, .any, .any, .any, .any, .any, .any, .any, .any, .any, .any, .any, .any, .any, .any, .any, .any, .any, .any, .any, .any, .any, .any, .any]) ?_ ?_
  · simp only [isD, go_sem, List.length_map]
    refine aw_loop (fun m fr st => ∃ (j : Nat) (d' : Ids) (T' : List Int) (tr' : List Bool) (op' : List Int) (sa' : List Bool) (q' : List Int), j ≤ lits.length ∧ m = lits.length - j ∧ Sub d d' (σ.length + 1) ∧ Pg st d' f occ tr' op' sa' q' T' (T'.map fun _ => -1) ∧ Ok f T' tr' op' sa' q' ∧ HeapN q' q'.length ∧ tr'.length = tr.length ∧ TOk f.vars T' ∧ q'.length ≤ f.cls.length * (T'.length + 1) ∧ (∀ x ∈ T', x ∈ lits) ∧ initT T' (lits.drop j) = initT [] lits ∧
      st[σ.length]? = some (some (.cells [.ref d.ip 0])) ∧ Keeps d.all σ st ∧ fr = [.any, .any, .ref σ.length 0, .any, .any, .any, .any, .any, .any, .any, .any, .any, .any, .any, .any, .any, .d (.sl 1 (lits.map iD)), dn lits.length, dn j, .any, .any, .any, .any, .any, .any, .any, .any, .any, .any, .any, .any, .any, .any, .any, .any, .any, .any, .any, .any, .any, .any, .any, .any, .any, .any, .any, .any, .any, .any, .any, .any, .any, .any, .any, .any, .any, .any, .any, .any, .any, .any, .any, .any, .any, .any, .any, .any, .any, .any, .any, .any]) lits.length _
      (Wk.mask [2, 16, 17, 18] ⟨0, d1, [], tr, op, sa, q1, by omega, rfl, hS, hP1, hOk, hh, rfl, TOk.nil _, by simpa using hql, fun x hx => (by cases hx), rfl, hbox, hK, rfl⟩) ?_
    clear hS hP1 hq hh hql hbox hK hOk st
    rintro m fr st ⟨j, d', T', tr', op', sa', q', hj, hm, hS, hP1, hOk, hh, htl, hTO, hql, hTl, hin, hbox, hK, rfl⟩
    rcases Nat.lt_or_ge j lits.length with hlt | hge
    · have hd : decide ((j : Int) < (lits.length : Int)) = true := decide_eq_true (by omega)
      have e1 : List.getD (lits.map iD) j default = iD (lits.getD j 0) := getD_mapD hlt
      have w2 := wrapS j (by simp only [reachBytes] at hll; omega)
      have hlx := hl _ (getD_mem 0 hlt)
      have hxm := getD_mem 0 hlt
      rw [drop_getD 0 hlt, initT] at hin
      generalize lits.getD j 0 = x at e1 hlx hin hxm
      have hcx : codeN x < tr'.length := by rw [htl, ht]; exact codeN_lt (by omega) (by omega)
      have e3 : List.getD (tr'.map fun x => A.d (.bool x)) (codeN x) .any = A.d (.bool (tr'.getD (codeN x) false)) := getD_mapB hcx
      have e4 := hOk.tr x hlx.2.1 hlx.2.2.1 hlx.1
      have hc' := hP1.c
      simp only [pgCells] at hc'
      simp only [go_sem, List.length_map, hd, e1]
      refine ⟨⟨by omega, by omega⟩, ?_⟩
      refine aw_plan (.take 4 <| .pure 5 <| .tk 4 0 <| .tk 3 6 <| .done) (by kernel_rfl) ?_
      simp only [go_sem]
      refine exP (dn (codeN x)) ⟨fun σ' => ?_, ?_⟩
      · simp only [go_sem]
        exact ac' (code_ac _ (by omega) _ _ _ ⟨rfl, rfl⟩)
      simp only [go_sem, objK_of hbox, live_of hbox]
      rw [← hS.ip] at hbox ⊢
      simp only [go_sem, objK_of hc', live_of hc', objK_of hP1.t, live_of hP1.t, objK_of hbox, Nat.mul_one, Nat.zero_add, List.length_map, e3, e4, w2]
      have hTl8 := hTO.len hv.1
      have hb1 := Nat.mul_le_mul_right (T'.length + 1) hn
      have hol := occ_len ho (l := -x) (by omega) (by omega)
      refine ⟨⟨by omega, by omega⟩, by omega, fun hb => ac' (assign_ac x (-1) hv ⟨hlx.2.1, hlx.2.2.1⟩ (by omega) ho.1 hoa (hOk.bound hw) (by omega) hh (by omega) (by rw [List.length_map]; omega) st hP1 _ _ fun w st2 d2 q2 hS2 hp2 hh2 hP2 hK2 => ?_), fun hb => ?_⟩
      · have hxT : x ∉ T' := by simpa using hb
        have hnT : -x ∉ T' := fun k => hlx.2.2.2 (hTl _ k)
        simp only [go_sem, w2]
        have hbox2 : st2[σ.length]? = some (some (.cells [.ref d'.ip 0])) := (hK2.2 _ (lt_of_some hbox) (away hS (fun i hi => hP.lt i hi) (Nat.le_refl _) (by omega))).trans hbox
        refine Wk.mask [2, 16, 17, 18] ⟨lits.length - (j + 1), by omega, j + 1, d2, T' ++ [x], _, _, _, q2, hlt, rfl, hS.trans hS2 (by have := lt_of_some hbox; omega), by rw [List.map_append]; exact hP2, hOk.assign hv.1 ho (by omega) (fun _ h => h) (fun _ h => .inl h) hlx.1 ⟨hlx.2.1, hlx.2.2.1⟩ hxT hnT hp2, hh2, by rw [List.length_set]; exact htl, hTO.snoc hlx.1 ⟨hlx.2.1, hlx.2.2.1⟩ hxT hnT, ?_, fun y hy => ?_, by rw [if_neg hxT] at hin; exact hin, hbox2, Sub.keeps hK (hS.less (by omega)) hK2, rfl⟩
        · have h1 := hp2.length_eq
          have h2 := decS_len (sa := setAll sa' (occ.getD (codeN x) [])) (is := occ.getD (codeN (-x)) []) (op := op') (q := q')
          rw [List.length_append, List.length_singleton, Nat.mul_add f.cls.length (T'.length + 1) 1]
          omega
        · rcases List.mem_append.1 hy with hy | hy
          · exact hTl y hy
          · rw [List.mem_singleton] at hy; exact hy ▸ hxm
      · have hxT : x ∈ T' := by simpa using hb
        rw [if_pos hxT] at hin
        exact Wk.mask [2, 16, 17, 18] ⟨lits.length - (j + 1), by omega, j + 1, d', T', tr', op', sa', q', hlt, rfl, hS, hP1, hOk, hh, htl, hTO, hql, hTl, hin, hbox, hK, rfl⟩
    · have hd : decide ((j : Int) < (lits.length : Int)) = false := decide_eq_false (by omega)
      rw [List.drop_eq_nil_of_le hge, initT] at hin
      simp only [go_sem, List.length_map, hd]
      exact Wk.mask [2] ⟨d', T', tr', op', sa', q', hS, hP1, hOk, hh, htl, hTO, hql, hin, hbox, hK, rfl⟩
  -- the queue
  clear hS hP1 hq hh hql hbox hK hOk st
  rintro fr st ⟨d1, T1, tr1, op1, sa1, q1, hS, hP1, hOk, hh, htl, hTO, hql, hT1, hbox, hK, rfl⟩
  rw [← hT1] at h
  generalize hres : runS f.cls (f.vars + 1).toNat T1 (T1.map fun _ => -1) = res at h
  simp only [go_sem]
  refine aw_loop (fun m fr st => ∃ (k : Nat) (d' : Ids) (T' Rs' : List Int) (tr' : List Bool) (op' : List Int) (sa' : List Bool) (q' : List Int), m = (f.vars.toNat - T'.length) * (f.cls.length + 1) + q'.length ∧ Sub d d' (σ.length + 1) ∧ Pg st d' f occ tr' op' sa' q' T' Rs' ∧ Ok f T' tr' op' sa' q' ∧ HeapN q' q'.length ∧ tr'.length = tr.length ∧ TOk f.vars T' ∧ q'.length ≤ f.cls.length * (T'.length + 1) ∧ Rs'.length = T'.length ∧
    runS f.cls k T' Rs' = res ∧ f.vars.toNat + 1 ≤ k + T'.length ∧ st[σ.length]? = some (some (.cells [.ref d.ip 0])) ∧ Keeps d.all σ st ∧ fr = [.any, .any, .ref σ.length 0, .any, .any, .any, .any, .any, .any, .any, .any, .any, .any, .any, .any, .any, .any, .any, .any, .any, .any, .any, .any, .any, .any, .any, .any, .any, .any, .any, .any, .any, .any, .any, .any, .any, .any, .any, .any, .any, .any, .any, .any, .any, .any, .any, .any, .any, .any, .any, .any, .any, .any, .any, .any, .any, .any, .any, .any, .any, .any, .any, .any, .any, .any, .any, .any, .any, .any, .any, .any]) _ _
    (Wk.mask [2] ⟨(f.vars + 1).toNat, d1, T1, T1.map fun _ => -1, tr1, op1, sa1, q1, rfl, hS, hP1, hOk, hh, htl, hTO, hql, by simp, hres, by omega, hbox, hK, rfl⟩) ?_
  clear hS hP1 hOk hh htl hTO hql hbox hK hres hT1 st
  rintro m fr st ⟨k, d', T', Rs', tr', op', sa', q', hm, hS, hP1, hOk, hh, htl, hTO, hql, hRl, hres, hfuel, hbox, hK, rfl⟩
  have hc' := hP1.c
  simp only [pgCells] at hc'
  have hTl8 := hTO.len hv.1
  have hb1 := Nat.mul_le_mul_right (T'.length + 1) hn
  have hcz : ∀ c ∈ f.cls, ∀ x ∈ c, x ≠ 0 := fun c hcm x hx => (hc c hcm x hx).1
  simp only [go_sem, objK_of hbox, live_of hbox]
  have hip := hS.ip
  rw [← hip] at hbox ⊢
  rcases Nat.eq_zero_or_pos q'.length with hq0 | hq0
  · have hqe : q' = [] := List.eq_nil_of_length_eq_zero hq0
    subst hqe
    have d0 : decide (((([] : List Int).length : Nat) : Int) > 0) = false := rfl
    simp only [go_sem, objK_of hc', live_of hc', live_of hP1.q, d0, Try.results57]
    obtain ⟨k', rfl⟩ : ∃ k', k = k' + 1 := ⟨k - 1, by omega⟩
    rw [runS, hOk.none hcz] at hres
    refine ⟨fun hc => by simp at hc, fun _ => ⟨_, _, Weak.refl _ _ _ _, ?_⟩⟩
    subst hres
    exact h st d' tr' op' sa' [] (hS.less (by omega)) hP1 htl hK
  · have d0 : decide (((q'.length : Nat) : Int) > 0) = true := decide_eq_true (by omega)
    simp only [go_sem, objK_of hc', live_of hc', live_of hP1.q, d0, objK_of hbox, live_of hbox]
    obtain ⟨i, hxi, hin, hop1⟩ := hOk.few _ (getD_mem 0 hq0)
    have hmin : ∀ y ∈ q', (i : Int) ≤ y := fun y hy => by
      obtain ⟨n, hn', rfl⟩ := List.getElem_of_mem hy
      have := hh.first n hn'
      rw [hxi, List.getD_eq_getElem?_getD, List.getElem?_eq_getElem hn'] at this
      exact this
    refine ac' (hpop_ac (by omega) hq0 hh st hP1.qc _ _ fun st1 q1 hp1 hh1 hQ1 hK1 => ?_)
    have hP2 : Pg st1 d' f occ tr' op' sa' q1 T' Rs' := hP1.requeue hQ1 hK1 (.inl rfl)
    have hbox1 : st1[σ.length]? = some (some (.cells [.ref d'.ip 0])) := (hK1.2 _ (lt_of_some hbox) fun k => away hS (fun i hi => hP.lt i hi) (Nat.le_refl _) (by omega) (show σ.length ∈ d'.all by
      simp only [Ids.all, List.mem_cons, List.not_mem_nil, or_false] at k ⊢; omega)).trans hbox
    have hK2 : Keeps d.all σ st1 := Sub.keeps hK (hS.less (by omega)) ⟨hK1.1, fun id hid hn => hK1.2 id hid fun k => hn (by simp only [Ids.all, List.mem_cons, List.not_mem_nil, or_false] at k ⊢; omega)⟩
    rw [hxi] at hp1 ⊢
    have hl1 : q1.length + 1 = q'.length := by have := hp1.length_eq; simpa using this
    have ls := hP1.ls
    have lo := hP1.lo
    have e1 : List.getD (sa'.map fun x => A.d (.bool x)) i .any = A.d (.bool (sa'.getD i false)) := getD_mapB (by omega)
    have e2 : sa'.getD i false = satB T' (f.cls.getD i []) := by rw [hOk.sa, satB_getD hin]
    have e3 : List.getD (op'.map fun x => A.d (iD x)) i .any = A.d (iD (op'.getD i 0)) := getD_mapA (by omega)
    have e4 : op'.getD i 0 = ((opL T' (f.cls.getD i [])).length : Int) := by rw [hOk.op, opL_getD hin]
    have hc1 := hP2.c
    simp only [pgCells] at hc1
    simp only [go_sem, objK_of hbox1, live_of hbox1, objK_of hc1, live_of hc1, objK_of hP2.s, live_of hP2.s, objK_of hP2.o, live_of hP2.o, Nat.mul_one, Nat.zero_add, List.length_map, e1, e2, e3, e4, Try.results57]
    have hnl : (f.vars.toNat - T'.length) * (f.cls.length + 1) + q1.length < m := by omega
    refine ⟨⟨by omega, by omega⟩, by omega, fun hsat => Wk.mask [2] ⟨_, hnl, k, d', T', Rs', tr', op', sa', q1, rfl, hS, hP2, hOk.skip hp1 hsat, hh1, htl, hTO, by omega, hRl, hres, hfuel, hbox1, hK2, rfl⟩, fun hsat => ⟨⟨by omega, by omega⟩, by omega, fun hz => ⟨_, _, Weak.refl _ _ _ _, ?_⟩, fun hz => ?_⟩⟩
    · -- the clause is falsified
      have hz' : (opL T' (f.cls.getD i [])).length = 0 := by have := eq_of_beq hz; omega
      obtain ⟨k', rfl⟩ : ∃ k', k = k' + 1 := ⟨k - 1, by omega⟩
      rw [runS, hOk.first hcz hin hmin hsat hop1, stat_one (hcz _ (getD_mem [] hin)) hsat hz'] at hres
      subst hres
      exact h st1 d' tr' op' sa' q1 (hS.less (by omega)) hP2 htl hK2
    · -- the clause is unit
      obtain ⟨x, hx⟩ : ∃ x, opL T' (f.cls.getD i []) = [x] := by
        match ho : opL T' (f.cls.getD i []), hop1 with
        | [], _ => rw [ho] at hz; simp at hz
        | [x], _ => exact ⟨x, rfl⟩
      have hxm := mem_opL.1 (show x ∈ opL T' (f.cls.getD i []) by rw [hx]; simp)
      have hxr := hc _ (getD_mem [] hin) x hxm.1
      have hxT : x ∉ T' := fun k => by
        have : satB T' (f.cls.getD i []) = true := List.any_eq_true.2 ⟨x, hxm.1, by simpa using k⟩
        rw [hsat] at this; cases this
      have hf := find_open hOk.tr (hc _ (getD_mem [] hin)) hx
      obtain ⟨k', rfl⟩ : ∃ k', k = k' + 1 := ⟨k - 1, by omega⟩
      rw [runS, hOk.first hcz hin hmin hsat hop1, stat_two (hcz _ (getD_mem [] hin)) hsat hx] at hres
      have hres : runS f.cls k' (T' ++ [x]) (Rs' ++ [(i : Int)]) = res := by simpa using hres
      have hTO2 := hTO.snoc hxr.1 hxr.2 hxT hxm.2
      have hl2 := hTO2.len hv.1
      rw [List.length_append, List.length_singleton] at hl2
      have hol := occ_len ho (l := -x) (by omega) (by omega)
      refine aw_plan (.tk 2 1 <| .take 4 <| .alt 0 (.take 3 <| .take 5 <| .done) <| .alt 3 (.take 0 <| .take 5 <| .done) <| .stop) (by kernel_rfl) ?_
      simp only [go_sem, objK_of hbox1, live_of hbox1]
      have hwi := hw _ (getD_mem [] hin)
      have hq9 : q1.length + (occ.getD (codeN (-x)) []).length < 800000 := by omega
      have hRl' : Rs'.length < 1000000 := by omega
      have hOk1 : Ok f T' tr' op' sa' ((i : Int) :: q1) := hOk.perm hp1
      refine ⟨?_, ?_⟩
      all_goals
        refine ac' (undet_ac i hin (by simp only [reachBytes]; omega) hv (hc _ (getD_mem [] hin)) (by omega) st1 hP2 _ _ ?_)
        rw [hf]
        simp only [go_sem, Option.getD_some, objK_of hbox1, live_of hbox1]
        refine ac' (assign_ac x (i : Int) hv hxr.2 (by omega) ho.1 hoa (hOk.bound hw) hq9 hh1 (by omega) hRl' st1 hP2 _ _ fun w st2 d2 q2 hS2 hp2 hh2 hP3 hK3 => ?_)
        have hbox2 : st2[σ.length]? = some (some (.cells [.ref d'.ip 0])) := (hK3.2 _ (lt_of_some hbox1) (away hS (fun i hi => hP.lt i hi) (Nat.le_refl _) (by omega))).trans hbox1
        have hq2 : q2.length ≤ q1.length + f.cls.length := by
          have h1 := hp2.length_eq
          have h2 := decS_len (sa := setAll sa' (occ.getD (codeN x) [])) (is := occ.getD (codeN (-x)) []) (op := op') (q := q1)
          omega
        have hmul : (f.vars.toNat - T'.length) * (f.cls.length + 1) = (f.vars.toNat - (T'.length + 1)) * (f.cls.length + 1) + (f.cls.length + 1) := by
          rw [show f.vars.toNat - T'.length = (f.vars.toNat - (T'.length + 1)) + 1 by omega, Nat.add_mul, Nat.one_mul]
        simp only [go_sem]
        refine Wk.mask [2] ⟨_, ?_, k', d2, T' ++ [x], Rs' ++ [(i : Int)], _, _, _, q2, rfl, hS.trans hS2 (by have := lt_of_some hbox1; omega), hP3, hOk1.assign hv.1 ho (by omega) (fun y hy => List.mem_cons_of_mem _ hy) (fun y hy => ?_) hxr.1 hxr.2 hxT hxm.2 hp2, hh2, by rw [List.length_set]; exact htl, hTO2, ?_, by simp [hRl], hres, by rw [List.length_append, List.length_singleton]; omega, hbox2, Sub.keeps hK2 (hS.less (by omega)) hK3, rfl⟩
        · rw [List.length_append, List.length_singleton]; omega
        · rcases List.mem_cons.1 hy with hy | hy
          · exact .inr ⟨i, hy, .inl hxm.1⟩
          · exact .inl hy
        · rw [List.length_append, List.length_singleton, Nat.mul_add f.cls.length (T'.length + 1) 1]
          omega
end Go.Proofs.Ytpmjdaiboniagaa
end PartU8
