import Derived.Test.YtpmjdaiboniagaaMT4
import Derived.Test.YtpmjdaiboniagaaMT1
import Derived.Test.YtpmjdaiboniagaaMT2

section PartU15
/- Hints. -/
set_option linter.unusedSimpArgs false
set_option linter.unusedVariables false
set_option maxRecDepth 100000
namespace Go.Proofs.Ytpmjdaiboniagaa
open Go Go.Ab

theorem statS_who {T : List Int} : ∀ {c : List Int} {o : Int}, (statS T c o).1 = 0 ∨ (statS T c o).1 = 1 ∨ ((statS T c o).1 = 2 ∧ (statS T c o).2 ≠ 0 ∧ ((statS T c o).2 = o ∨ ((statS T c o).2 ∈ c ∧ (statS T c o).2 ∉ T ∧ -(statS T c o).2 ∉ T)))
  | [], o => by
    unfold statS
    split
    · exact .inr (.inl rfl)
    · rename_i h; exact .inr (.inr ⟨rfl, h, .inl rfl⟩)
  | l :: c, o => by
    unfold statS
    split
    · exact .inl rfl
    · rename_i h
      rw [not_or] at h
      by_cases hl : -l ∈ T
      · rw [if_pos hl]
        rcases statS_who (T := T) (c := c) (o := o) with k | k | ⟨k1, k2, k3⟩
        · exact .inl k
        · exact .inr (.inl k)
        · exact .inr (.inr ⟨k1, k2, k3.imp id fun ⟨a, b⟩ => ⟨List.mem_cons_of_mem _ a, b⟩⟩)
      · rw [if_neg hl]
        rcases statS_who (T := T) (c := c) (o := l) with k | k | ⟨k1, k2, k3⟩
        · exact .inl k
        · exact .inr (.inl k)
        · refine .inr (.inr ⟨k1, k2, .inr ?_⟩)
          rcases k3 with e | ⟨a, b⟩
          · rw [e]; exact ⟨by simp, h.1, hl⟩
          · exact ⟨List.mem_cons_of_mem _ a, b⟩
theorem findS_spec {T : List Int} : ∀ {cs : List (List Int)} {i k : Nat} {s x : Int}, findS T cs i = some (k, s, x) → ∃ j, k = i + j ∧ j < cs.length ∧ statS T (cs.getD j []) 0 = (s, x) ∧ s ≠ 0
  | [], i, k, s, x, h => by simp [findS] at h
  | c :: cs, i, k, s, x, h => by
    unfold findS at h
    split at h
    · obtain ⟨j, h1, h2, h3, h4⟩ := findS_spec h
      exact ⟨j + 1, by omega, by simp; omega, by simpa using h3, h4⟩
    · rename_i hn
      simp only [Option.some.injEq, Prod.mk.injEq] at h
      obtain ⟨rfl, h⟩ := h
      refine ⟨0, rfl, by simp, by simpa using h, ?_⟩
      rw [h] at hn; exact hn
/-- What a run leaves is sound. -/
theorem run_spec {v : Int} {cls : List (List Int)} (hc : ∀ c ∈ cls, ∀ l ∈ c, l ≠ 0 ∧ -v ≤ l ∧ l ≤ v) : ∀ {k : Nat} {T Rs : List Int}, TOk v T → Rs.length = T.length → (∀ r ∈ Rs, -1 ≤ r ∧ r < cls.length) →
    TOk v (runS cls k T Rs).1 ∧ (runS cls k T Rs).2.1.length = (runS cls k T Rs).1.length ∧ (∀ r ∈ (runS cls k T Rs).2.1, -1 ≤ r ∧ r < cls.length) ∧ -1 ≤ (runS cls k T Rs).2.2 ∧ (runS cls k T Rs).2.2 < cls.length
  | 0, T, Rs, h1, h2, h3 => ⟨h1, h2, h3, by simp [runS], by simp only [runS]; omega⟩
  | k + 1, T, Rs, h1, h2, h3 => by
    unfold runS
    split
    · exact ⟨h1, h2, h3, by simp, by simp only; omega⟩
    · rename_i i s x hf
      obtain ⟨j, e1, hj, hs, hn⟩ := findS_spec hf
      rw [Nat.zero_add] at e1; subst e1
      split
      · exact ⟨h1, h2, h3, by simp only; omega, by simp only; omega⟩
      · rename_i hs1
        have := statS_who (T := T) (c := cls.getD i []) (o := 0)
        rw [hs] at this
        simp only at this
        obtain ⟨_, hx0, hx⟩ := (this.resolve_left hn).resolve_left hs1
        obtain ⟨m1, m2, m3⟩ := hx.resolve_left hx0
        have hr := hc _ (getD_mem [] hj) x m1
        refine run_spec hc (h1.snoc hr.1 hr.2 m2 m3) (by simp [h2]) fun r hr' => ?_
        rcases List.mem_append.1 hr' with q | q
        · exact h3 r q
        · rw [List.mem_singleton] at q; omega
/-- The reasons that are needed, in their order, each once. -/
def collS : List Int → List Int → List Int
  | _, [] => []
  | acc, r :: Rs => if r ∈ acc then r :: collS (acc.erase r) Rs else collS acc Rs
/-- What Hints answers. -/
def hintS (f : Cnf) (lits : List Int) : List Int × Int :=
  if (validC f && litsOk f.vars [] lits) = true then
    (if (propS f lits).2.2 < 0 then ([], 4) else
      (collS (needS f.cls (wantW [] (f.cls.getD (propS f lits).2.2.toNat [])) [(propS f lits).2.2] ((propS f lits).1.zip (propS f lits).2.1).reverse) (propS f lits).2.1 ++ [(propS f lits).2.2], 0))
  else ([], 1)
theorem pre_app {σ st : St} (hpre : ∀ id, id < σ.length → st[id]? = σ[id]?) (hl : σ.length ≤ st.length) : ∃ l, st = σ ++ l := ⟨st.drop σ.length, by
    refine List.ext_getElem? fun k => ?_
    rcases Nat.lt_or_ge k σ.length with h | h
    · rw [hpre k h, List.getElem?_append_left h]
    · rw [List.getElem?_append_right h, List.getElem?_drop]; congr 1; omega⟩
/-- A slice of one's own is read as data; the rest is forgotten. -/
theorem Weak.one {G : Glob} {σ st : St} {iT : Nat} {T : List Int} {w : Option TypeId} (hbd : Bd σ.length σ) (hpre : ∀ id, id < σ.length → st[id]? = σ[id]?) (h1 : σ.length ≤ iT) (hT : st[iT]? = some (ints T)) (c : Int) :
    Weak G σ.length [.rs iT 1 0 T.length w, di c] st [.d (isD T), di c] σ := by
  obtain ⟨l, rfl⟩ := pre_app hpre (by have := lt_of_some hT; omega)
  obtain ⟨a, rfl⟩ : ∃ a, iT = σ.length + a := ⟨iT - σ.length, by omega⟩
  rw [List.getElem?_append_right (by omega), Nat.add_sub_cancel_left] at hT
  have key : dpA σ.length [a] l 2 (.rs (σ.length + a) 1 0 T.length w) = .d (isD T) := by
    rw [dpA_rs, dpD, ownC_add, if_pos (by simp), List.getD_eq_getElem?_getD, hT, Option.getD_some, ints]
    simp only
    rw [Option.bind_some, Nat.mul_one, List.drop_zero, List.take_of_length_le (by simp), dpL_d, Option.bind_some, if_pos (by simp), oneAll, if_pos (by simp [List.all_eq_true, D.one])]
    rfl
  have w1 := Weak.deep (G := G) (n0 := σ.length) (fr := [.rs (σ.length + a) 1 0 T.length w, di c]) (σ := σ) (l := l) [a] 2
  simp only [List.map_cons, List.map_nil, key, dpA_d] at w1
  exact w1.trans (Weak.cut (Nat.le_refl _) hbd (by simp [bdL, A.bd]))
set_option maxHeartbeats 4000000 in
theorem hints_ac (f : Cnf) (lits : List Int) (hf : I64 f.vars) (hn : f.cls.length ≤ 40) (hw : ∀ c ∈ f.cls, c.length ≤ 1000) (hll : lits.length ≤ reachBytes) (hl : ∀ l ∈ lits, I64 l) (σ : St) (G : Glob) (R : A → St → Prop)
    (h : R (.tup [.d (isD (hintS f lits).1), di (hintS f lits).2]) σ) : AC Try.prog G 23 [.d (cnfD f), .d (isD lits)] σ R := by
  refine ac_enterC [14] mixed Try.func23 rfl Try.ntmps23 (by simp only [go_sem]) fun hbd => ?_
  simp only [List.length_cons, List.length_nil, Nat.reduceAdd, Nat.reduceSub, List.replicate_succ, List.replicate_zero, List.cons_append, List.nil_append]
  simp only [cnfD, go_sem]
  refine ac' (usable_ac f lits hf (by simp only [reachBytes]; omega) (fun c hc => by have := hw c hc; simp only [reachBytes]; omega) hll hl _ _ _ ?_)
  simp only [go_sem, Try.results23]
  unfold hintS propS at h
  refine ⟨fun hb => ?_, fun hb => ?_⟩
  · rw [if_neg (fun e => by rw [e] at hb; simp at hb)] at h
    exact ⟨_, _, (Weak.tup (Weak.nils (.cons (.d (.nil 1)) (NilAL.refl _)))).trans (Weak.cut (Nat.le_refl _) hbd (by simp [bdL, A.bd])), h⟩
  · replace hb : (validC f && litsOk f.vars [] lits) = true := by simpa using hb
    rw [if_pos hb, if_pos hb] at h
    rw [Bool.and_eq_true] at hb
    obtain ⟨hv, hcl⟩ := validC_spec hb.1
    have hls := litsOk_spec hb.2
    refine ac' (newProp_ac hn hw hv hcl _ _ _ fun σ1 d occ tr op sa hP ht ho hoa htr hop hsa hge hpre => ?_)
    simp only [go_sem]
    refine ac' (run_ac lits hn hw hv hcl hll (fun l hl => ⟨(hls l hl).1, (hls l hl).2.1, (hls l hl).2.2.1, (hls l hl).2.2.2.2⟩) ht ho hoa htr hop hsa _ hP _ _ fun σ2 d' tr' op' sa' q' hS hP' ht' hK => ?_)
    have hrs := run_spec (v := f.vars) hcl (k := (f.vars + 1).toNat) (T := initT [] lits) (Rs := (initT [] lits).map fun _ => -1) (initT_ok (TOk.nil _) fun l hl => ⟨(hls l hl).1, (hls l hl).2.1, (hls l hl).2.2.1, (hls l hl).2.2.2.2, by simp⟩) (by simp) (fun r hr => by
      obtain ⟨_, _, rfl⟩ := List.mem_map.1 hr; omega)
    generalize runS f.cls (f.vars + 1).toNat (initT [] lits) ((initT [] lits).map fun _ => -1) = r at h hP' hrs ⊢
    obtain ⟨T, Rs, c⟩ := r
    simp only at h hP' hrs ⊢
    obtain ⟨q1, q2, q3, q4, q5⟩ := hrs
    have hip : d'.ip = d.ip := hS.ip
    have hc' := hP'.c
    rw [hip] at hc'
    simp only [pgCells] at hc'
    simp only [go_sem, Try.results23]
    have hlen : (σ ++ [some (Ob.cells [.d (iD f.vars), .d (clsD f.cls)])]).length = σ.length + 1 := by simp
    have hge' := hge
    have hlt := hP.lt
    have hlt' := hP'.lt
    obtain ⟨s1, s2, s3, s4, s5, s6, s7⟩ := hS
    simp only [Ids.all, List.mem_cons, List.not_mem_nil, or_false] at hge' hlt hlt'
    have g2 := hge' d.iR (by simp)
    have g3 := hlt d.iT (by simp)
    have g5 := hlt' d'.iR (by simp)
    have g4 := hK.1
    rw [hlen] at g2
    have hpre2 : ∀ id, id < σ.length → σ2[id]? = σ[id]? := fun id hid => by
      rw [hK.2 id (by have := hge' d.iT (by simp); omega) (fun hm => by have := hge id hm; omega), hpre id (by omega), List.getElem?_append_left hid]
    have hl2 : σ.length ≤ σ2.length := by have := hge' d.iT (by simp); omega
    have hiR : σ.length ≤ d'.iR := by have := hge' d.iT (by simp); omega
    clear hK hpre g3 g4 g2 hlt hge' hge s1 s2 s3 s4 s5 s6 s7 hlt'
    refine ⟨fun hb => ?_, fun hb => ?_⟩
    · rw [if_pos (of_decide_eq_true hb)] at h
      obtain ⟨l, rfl⟩ := pre_app hpre2 hl2
      exact ⟨_, _, (Weak.tup (Weak.nils (.cons (.d (.nil 1)) (NilAL.refl _)))).trans (Weak.cut (Nat.le_refl _) hbd (by simp [bdL, A.bd])), h⟩
    · have hc0 := of_decide_eq_false hb
      rw [if_neg hc0] at h
      obtain ⟨n, rfl⟩ : ∃ n : Nat, c = n := ⟨c.toNat, by omega⟩
      rw [Int.toNat_natCast] at h
      rw [← hip]
      refine ac' (needed_ac hv (by omega) hn hw hcl (by omega) q2 (by have := q1.len hv.1; omega) (fun l hl => ⟨(q1.rng l hl).1, (q1.rng l hl).2.1, (q1.rng l hl).2.2.1⟩) q3 _ hP' _ _ fun σ3 im him hi3 hpre3 => ?_)
      have hR3 : σ3[d'.iR]? = some (ints Rs) := (hpre3 _ g5).trans hP'.R
      have hc3 := (hpre3 _ (lt_of_some hP'.c)).trans hP'.c
      simp only [pgCells] at hc3
      generalize needS f.cls (wantW [] (f.cls.getD n [])) [(n : Int)] (T.zip Rs).reverse = acc at h him
      have hRl : Rs.length ≤ 8000 := by have := q1.len hv.1; omega
      simp only [go_sem, objK_of hc3, live_of hc3]
      refine ⟨live_of hR3, ?_⟩
      have hne0 : im ≠ d'.iR := fun e => by rw [e, hR3] at him; cases him
      have hpre30 : ∀ id, id < σ.length → σ3[id]? = σ[id]? := fun id hid => (hpre3 id (by omega)).trans (hpre2 id hid)
      have himl := lt_of_some him
      have hRl3 := lt_of_some hR3
      obtain ⟨tot, htot⟩ : ∃ tot, collS acc Rs = tot := ⟨_, rfl⟩
      rw [htot] at h
      refine aw_loop (fun m fr st => ∃ (k il : Nat) (out acc : List Int), k ≤ Rs.length ∧ m = Rs.length - k ∧ st[im]? = some (some (.map (setM acc))) ∧ st[d'.iR]? = some (ints Rs) ∧ st[il]? = some (ints out) ∧ (σ.length ≤ il ∧ il ≠ im ∧ il ≠ d'.iR) ∧ (∀ id, id < σ.length → st[id]? = σ[id]?) ∧ out.length ≤ k ∧ out ++ collS acc (Rs.drop k) = tot ∧ fr = [.any, .any, .any, .any, .any, .any, .any, dn n, .mapr im, .rs il 1 0 out.length (some 3), .any, .any, .any, .any, .any, .any, .any, .any, .any, .any, .any, .any, .any, .any, .any, .any, .any, .any, .any, .rs d'.iR 1 0 Rs.length (some 3), dn Rs.length, dn k, .any, .any, .any, .any, .any, .any, .any, .any, .any, .any, .any, .any, .any, .any, .any, .any, .any]) Rs.length _
        ⟨_, _, (Weak.empty 9 1 (some 3) rfl).trans (Weak.mask [7, 8, 9, 29, 30, 31]), 0, σ3.length, [], acc, by omega, rfl, by rw [List.getElem?_append_left himl]; exact him, by rw [List.getElem?_append_left hRl3]; exact hR3, by rw [List.getElem?_append_right (Nat.le_refl _)]; simp, ⟨by omega, by omega, by omega⟩, fun id hid => by rw [List.getElem?_append_left (by omega)]; exact hpre30 id hid, by simp, by rw [List.nil_append]; exact htot, rfl⟩ ?_
      clear him hR3 hc3 hpre3 hpre30 htot acc himl hRl3
      rintro m fr st ⟨k, il, out, acc, hk, hm, him, hR3, hil, hne, hpre, hol, hA, rfl⟩
      have hl1 := lt_of_some him
      have hl2 := lt_of_some hR3
      have hl3 := lt_of_some hil
      rcases Nat.lt_or_ge k Rs.length with klt | kge
      · have kd : decide ((k : Int) < (Rs.length : Int)) = true := by simp; omega
        have w2 := wrapS k (by omega)
        have e1 : List.getD (Rs.map fun x => A.d (iD x)) k .any = A.d (iD (Rs.getD k 0)) := getD_mapA klt
        rw [drop_getD 0 klt, collS] at hA
        generalize Rs.getD k 0 = r at e1 hA
        simp only [go_sem, kd, objK_of hR3, live_of hR3, mapK_of him, List.length_map, Nat.mul_one, e1, w2]
        refine ⟨⟨by omega, by omega⟩, by omega, fun hb => ?_, fun hb => ?_⟩
        · rw [if_pos (of_decide_eq_true hb)] at hA
          refine aw_cut (fun fr st => ∃ il, st[im]? = some (some (.map (setM acc))) ∧ st[d'.iR]? = some (ints Rs) ∧ st[il]? = some (ints (out ++ [r])) ∧ (σ.length ≤ il ∧ il ≠ im ∧ il ≠ d'.iR) ∧ (∀ id, id < σ.length → st[id]? = σ[id]?) ∧ fr = [.any, .any, .any, .any, .any, .any, .any, dn n, .mapr im, .rs il 1 0 (out ++ [r]).length (some 3), .any, di r, .any, .any, .any, .any, .any, .any, .any, .any, .any, .any, .any, .any, .any, .any, .any, .any, .any, .rs d'.iR 1 0 Rs.length (some 3), dn Rs.length, dn k, .any, .any, .any, .any, .any, .any, .any, .any, .any, .any, .any, .any, .any, .any, .any, .any, .any]) ?_ ?_
          · simp only [go_sem, objK_of hil, live_of hil, objK_apl, live_apl, set_apl, hl3, List.length_map, List.length_set]
            refine ⟨⟨by omega, by simp only [maxLen]; omega, by omega⟩, Wk.mask [7, 8, 9, 11, 29, 30, 31] ⟨st.length + 1, ?_, ?_, ?_, ⟨by omega, by omega, by omega⟩, fun id hid => ?_, rfl⟩⟩
            · rw [List.getElem?_append_left (by simpa using hl1), List.getElem?_set_ne (by omega)]; exact him
            · rw [List.getElem?_append_left (by simpa using hl2), List.getElem?_set_ne (by omega)]; exact hR3
            · rw [List.getElem?_append_right (by simp)]; simp [ints]
            · rw [List.getElem?_append_left (by simp; omega), List.getElem?_set_ne (by omega)]; exact hpre id hid
          clear him hR3 hil hne hpre hl1 hl2 hl3 st
          rintro fr st ⟨il, him, hR3, hil, hne, hpre, rfl⟩
          simp only [go_sem, mapK_of him, w2]
          refine Wk.mask [7, 8, 9, 29, 30, 31] ⟨Rs.length - (k + 1), by omega, k + 1, il, out ++ [r], acc.erase r, klt, rfl, ?_, ?_, ?_, hne, fun id hid => ?_, by simp; omega, by rw [List.append_assoc]; exact hA, by rw [List.length_append, List.length_singleton]; rfl⟩
          · rw [List.getElem?_set, if_pos rfl, if_pos (lt_of_some him)]
          · rw [List.getElem?_set_ne (fun e => by rw [e, hR3] at him; cases him)]; exact hR3
          · rw [List.getElem?_set_ne (by omega)]; exact hil
          · rw [List.getElem?_set_ne (by omega)]; exact hpre id hid
        · rw [if_neg (of_decide_eq_false hb)] at hA
          exact Wk.mask [7, 8, 9, 29, 30, 31] ⟨Rs.length - (k + 1), by omega, k + 1, il, out, acc, klt, rfl, him, hR3, hil, hne, hpre, by omega, hA, rfl⟩
      · have kd : decide ((k : Int) < (Rs.length : Int)) = false := by simp; omega
        rw [List.drop_eq_nil_of_le kge, collS, List.append_nil] at hA
        simp only [go_sem, kd, objK_of hil, live_of hil, objK_apl, live_apl, hl3, List.length_map, Try.results23]
        refine ⟨⟨by omega, by simp only [maxLen]; omega, by omega⟩, ?_⟩
        rw [show out.length + 1 = (out ++ [(n : Int)]).length by simp]
        rw [hA] at *
        refine ⟨_, _, Weak.tup (Weak.one (T := tot ++ [(n : Int)]) hbd (fun id hid => ?_) (by omega) ?_ 0), h⟩
        · rw [List.getElem?_append_left (by simp; omega), List.getElem?_set_ne (by omega), List.getElem?_append_left (by omega)]; exact hpre id hid
        · rw [List.getElem?_append_right (by simp)]; simp [ints]
end Go.Proofs.Ytpmjdaiboniagaa
end PartU15

section PartU16
/- The reference's small functions: Has, Order, SameInts, Usable; the law package's small, fine. -/
set_option linter.unusedSimpArgs false
set_option linter.unusedVariables false
set_option maxRecDepth 100000
namespace Go.Proofs.Ytpmjdaiboniagaa
open Go Go.Ab

theorem has23_ac (l : List Int) (x : Int) (hl : l.length ≤ reachBytes) (σ : St) (G : Glob) (R : A → St → Prop) (h : R (db (decide (x ∈ l))) σ) : AC Try.prog G 31 [.d (isD l), di x] σ R := by
  refine ac_enter mixed Try.func31 rfl Try.ntmps31 (by simp only [go_sem]) fun hbd => ?_
  simp only [List.length_cons, List.length_nil, Nat.reduceAdd, Nat.reduceSub, List.replicate_succ, List.replicate_zero, List.cons_append, List.nil_append]
  simp only [isD, go_sem]
  refine aw_loop (fun m fr st => ∃ j : Nat, j ≤ l.length ∧ m = l.length - j ∧ R (db (decide (x ∈ l.drop j))) σ ∧ fr = [.d (.sl 1 (l.map iD)), di x, .any, .any, .any, dn j, .any, .any, .any, .any, .any, .any, .any, .any, .any, .any, .any, .any] ∧ st = σ) l.length _
    (Wk.mask [0, 1, 5] ⟨0, by omega, rfl, h, rfl, rfl⟩) ?_
  rintro m fr σ ⟨j, hj, hm, hR, rfl, rfl⟩
  rcases Nat.lt_or_ge j l.length with hlt | hge
  · have hd : decide ((j : Int) < (l.length : Int)) = true := by simp; omega
    have e1 : List.getD (List.map iD l) j default = iD (l.getD j 0) := getD_mapD hlt
    have w2 := wrapS j (by simp only [reachBytes] at hl; omega)
    rw [drop_getD 0 hlt] at hR
    generalize l.getD j 0 = y at e1 hR
    simp only [go_sem, List.length_map, hd, e1, w2, Try.results31]
    refine ⟨⟨by omega, by omega⟩, fun he => ret_d0 ?_, fun hne => Wk.mask [0, 1, 5] ⟨l.length - (j + 1), by omega, j + 1, hlt, rfl, ?_, rfl, rfl⟩⟩
    · have := beq_iff_eq.1 he
      rwa [decide_eq_true (by rw [List.mem_cons]; exact .inl this.symm)] at hR
    · have hn : ¬ y = x := by simpa using hne
      have : (x ∈ y :: l.drop (j + 1)) = (x ∈ l.drop (j + 1)) := by rw [List.mem_cons, eq_iff_iff]; exact ⟨fun k => k.resolve_left fun e => hn e.symm, .inr⟩
      simpa only [this] using hR
  · have hd : decide ((j : Int) < (l.length : Int)) = false := by simp; omega
    simp only [go_sem, List.length_map, hd, Try.results31]
    refine ret_d0 ?_
    rw [List.drop_eq_nil_of_le hge] at hR; simpa using hR
/-- The order of two lists. -/
def ord23 : List Int → List Int → Int
  | [], [] => 0
  | [], _ :: _ => -1
  | _ :: _, [] => 1
  | x :: a, y :: b => if x < y then -1 else if y < x then 1 else ord23 a b
theorem ord23_zero : ∀ {a b : List Int}, ord23 a b = 0 ↔ a = b
  | [], [] => by simp [ord23]
  | [], _ :: _ => by simp [ord23]
  | _ :: _, [] => by simp [ord23]
  | x :: a, y :: b => by
    unfold ord23
    split
    · rename_i h
      constructor
      · intro k; cases k
      · intro k; injection k with k; omega
    · split
      · constructor
        · intro k; cases k
        · intro k; injection k with k; omega
      · rw [ord23_zero, List.cons.injEq]
        exact ⟨fun k => ⟨by omega, k⟩, fun k => k.2⟩
theorem order_ac (a b : List Int) (ha : a.length ≤ reachBytes) (hb : b.length ≤ reachBytes) (σ : St) (G : Glob) (R : A → St → Prop) (h : R (di (ord23 a b)) σ) : AC Try.prog G 60 [.d (isD a), .d (isD b)] σ R := by
  refine ac_enter mixed Try.func60 rfl Try.ntmps60 (by simp only [go_sem]) fun hbd => ?_
  simp only [List.length_cons, List.length_nil, Nat.reduceAdd, Nat.reduceSub, List.replicate_succ, List.replicate_zero, List.cons_append, List.nil_append]
  simp only [isD, go_sem]
  refine aw_loop (fun m fr st => ∃ j : Nat, j ≤ a.length ∧ j ≤ b.length ∧ m = a.length - j ∧ R (di (ord23 (a.drop j) (b.drop j))) σ ∧ fr = [.d (.sl 1 (a.map iD)), .d (.sl 1 (b.map iD)), .any, .any, .any, dn j, .any, .any, .any, .any, .any, .any, .any, .any, .any, .any, .any, .any, .any, .any, .any, .any, .any, .any, .any, .any, .any, .any, .any, .any, .any, .any, .any, .any, .any, .any, .any, .any, .any, .any, .any, .any, .any, .any, .any, .any] ∧ st = σ) a.length _
    (Wk.mask [0, 1, 5] ⟨0, by omega, by omega, rfl, h, rfl, rfl⟩) ?_
  rintro m fr σ ⟨j, hj, hj', hm, hR, rfl, rfl⟩
  by_cases hlt : j < a.length ∧ j < b.length
  · have hd : decide ((j : Int) < (a.length : Int)) = true := by simp; omega
    have hd' : decide ((j : Int) < (b.length : Int)) = true := by simp; omega
    have e1 : List.getD (List.map iD a) j default = iD (a.getD j 0) := getD_mapD hlt.1
    have e2 : List.getD (List.map iD b) j default = iD (b.getD j 0) := getD_mapD hlt.2
    have w2 := wrapS j (by simp only [reachBytes] at ha; omega)
    rw [drop_getD 0 hlt.1, drop_getD 0 hlt.2, ord23] at hR
    generalize a.getD j 0 = x at e1 hR
    generalize b.getD j 0 = y at e2 hR
    simp only [go_sem, List.length_map, hd, hd', e1, e2, w2, Try.results60]
    refine ⟨⟨by omega, by omega⟩, ⟨by omega, by omega⟩, fun h1 => ret_d0 ?_, fun h1 => ⟨⟨by omega, by omega⟩, ⟨by omega, by omega⟩, fun h2 => ret_d0 ?_, fun h2 => Wk.mask [0, 1, 5] ⟨a.length - (j + 1), by omega, j + 1, hlt.1, hlt.2, rfl, ?_, rfl, rfl⟩⟩⟩
    · rwa [if_pos (of_decide_eq_true h1)] at hR
    · rwa [if_neg (of_decide_eq_false h1), if_pos (of_decide_eq_true h2)] at hR
    · rwa [if_neg (of_decide_eq_false h1), if_neg (of_decide_eq_false h2)] at hR
  · have hd : (decide ((j : Int) < (a.length : Int)) && decide ((j : Int) < (b.length : Int))) = false := by
      rw [Bool.and_eq_false_iff, decide_eq_false_iff_not, decide_eq_false_iff_not]; omega
    simp only [go_sem, List.length_map, hd, Try.results60]
    rcases Nat.lt_or_ge j a.length with h1 | h1
    · rw [drop_getD 0 h1, List.drop_eq_nil_of_le (show b.length ≤ j by omega), ord23] at hR
      refine ⟨fun h2 => ?_, fun h2 => ⟨fun h3 => ret_d0 hR, fun h3 => ?_⟩⟩
      · have := of_decide_eq_true h2; omega
      · have := of_decide_eq_false h3; omega
    · rcases Nat.lt_or_ge j b.length with h2 | h2
      · rw [drop_getD 0 h2, List.drop_eq_nil_of_le h1, ord23] at hR
        refine ⟨fun h2 => ret_d0 hR, fun h2 => ?_⟩
        have := of_decide_eq_false h2; omega
      · rw [List.drop_eq_nil_of_le h1, List.drop_eq_nil_of_le h2, ord23] at hR
        refine ⟨fun h2 => ?_, fun h2 => ⟨fun h3 => ?_, fun h3 => ret_d0 hR⟩⟩
        · have := of_decide_eq_true h2; omega
        · have := of_decide_eq_true h3; omega
theorem same_ac (a b : List Int) (ha : a.length ≤ reachBytes) (hb : b.length ≤ reachBytes) (σ : St) (G : Glob) (R : A → St → Prop) (h : R (db (decide (a = b))) σ) : AC Try.prog G 25 [.d (isD a), .d (isD b)] σ R := by
  refine ac_enter mixed Try.func25 rfl Try.ntmps25 (by simp only [go_sem]) fun hbd => ?_
  simp only [List.length_cons, List.length_nil, Nat.reduceAdd, Nat.reduceSub, List.replicate_succ, List.replicate_zero, List.cons_append, List.nil_append]
  simp only [go_sem]
  refine ac' (order_ac a b ha hb _ _ _ ?_)
  simp only [go_sem, Try.results25]
  have : (ord23 a b == 0) = decide (a = b) := by
    rw [Bool.eq_iff_iff, beq_iff_eq, decide_eq_true_eq]; exact ord23_zero
  rw [this]
  exact ret_d0 h
/-- The literals are literals, and none's negative is among them. -/
def usB (v : Int) (all : List Int) (ls : List Int) : Bool := ls.all fun x => !(x == 0 || decide (v < x) || decide (x < -v)) && !decide (-x ∈ all)
theorem usB_ok {v : Int} {all : List Int} : ∀ {ls S : List Int}, usB v all ls = true → (∀ x ∈ ls, x ∈ all) → (∀ x ∈ S, x ∈ all) → litsOk v S ls = true
  | [], _, _, _, _ => rfl
  | l :: ls, S, h, h1, h2 => by
    simp only [usB, List.all_cons, Bool.and_eq_true, Bool.not_eq_true', Bool.or_eq_false_iff, beq_eq_false_iff_ne, decide_eq_false_iff_not] at h
    obtain ⟨⟨⟨⟨a, b⟩, c⟩, d⟩, e⟩ := h
    rw [litsOk, if_neg]
    · exact usB_ok (by simpa only [usB, Bool.and_eq_true, Bool.not_eq_true', Bool.or_eq_false_iff, beq_eq_false_iff_ne, decide_eq_false_iff_not] using e) (fun x hx => h1 x (List.mem_cons_of_mem _ hx)) fun x hx => (List.mem_cons.1 hx).elim (fun k => k ▸ h1 l (by simp)) (h2 x)
    · rintro (k | k | k | k)
      · exact a k
      · omega
      · omega
      · exact d (h2 _ k)
theorem usable23_ac (f : Cnf) (lits : List Int) (hf : I64 f.vars) (hn : f.cls.length ≤ reachBytes) (hc : ∀ c ∈ f.cls, c.length ≤ reachBytes) (hll : lits.length ≤ reachBytes) (hl : ∀ l ∈ lits, I64 l) (σ : St) (G : Glob) (R : A → St → Prop) (h : R (db (validC f && usB f.vars lits lits)) σ) : AC Try.prog G 52 [.d (cnfD f), .d (isD lits)] σ R := by
  refine ac_enter mixed Try.func52 rfl Try.ntmps52 (by simp only [go_sem]) fun hbd => ?_
  simp only [List.length_cons, List.length_nil, Nat.reduceAdd, Nat.reduceSub, List.replicate_succ, List.replicate_zero, List.cons_append, List.nil_append]
  simp only [cnfD, go_sem]
  refine ac' (rvalid_ac f hf hn hc _ _ _ ?_)
  simp only [isD, go_sem, Try.results52]
  refine ⟨fun hb => ret_d hbd (by rw [show validC f = false by simpa using hb] at h; exact h), fun hb => ?_⟩
  replace hb : validC f = true := by simpa using hb
  rw [hb, Bool.true_and] at h
  have hv := (validC_spec hb).1
  have w3 : IntKind.i64.wrap (0 - f.vars) = -f.vars := by rw [wrap64_id _ (by omega) (by omega)]; omega
  refine aw_loop (fun m fr st => ∃ k : Nat, k ≤ lits.length ∧ m = lits.length - k ∧ R (db (usB f.vars lits (lits.drop k))) σ ∧ fr = [.any, .d (.sl 1 (lits.map iD)), .ref σ.length 0, .any, .any, .any, dn k, .any, .any, .any, .any, .any, .any, .any, .any, .any, .any, .any, .any, .any, .any, .any, .any, .any, .any, .any, .any, .any, .any, .any, .any, .any, .any, .any, .any, .any, .any, .any, .any, .any, .any, .any, .any] ∧ st = σ ++ [some (.cells [.d (iD f.vars), .d (clsD f.cls)])]) lits.length _
    (Wk.mask [1, 2, 6] ⟨0, by omega, rfl, h, rfl, rfl⟩) ?_
  rintro m fr st ⟨k, hk, hm, hR, rfl, rfl⟩
  rcases Nat.lt_or_ge k lits.length with klt | kge
  · have kd : decide ((k : Int) < (lits.length : Int)) = true := by simp; omega
    have e2 : List.getD (List.map iD lits) k default = iD (lits.getD k 0) := getD_mapD klt
    have w4 := wrapS k (by simp only [reachBytes] at hll; omega)
    have hlk := hl _ (getD_mem 0 klt)
    rw [drop_getD 0 klt] at hR
    simp only [usB, List.all_cons] at hR
    generalize lits.getD k 0 = x at e2 hR hlk
    simp only [go_sem, List.length_map, kd, e2, w3, w4, Try.results52]
    refine ⟨⟨by omega, by omega⟩, fun h1 => ret_d hbd ?_, fun h1 => ?_⟩
    · rw [h1] at hR; exact hR
    · rw [h1] at hR
      simp only [Bool.or_eq_false_iff, beq_eq_false_iff_ne, decide_eq_false_iff_not] at h1
      have w5 : IntKind.i64.wrap (0 - x) = -x := by rw [wrap64_id _ (by omega) (by omega)]; omega
      simp only [w5]
      refine ac' (has23_ac lits (-x) hll _ _ _ ?_)
      simp only [go_sem, w4, Try.results52]
      refine ⟨fun h2 => ret_d hbd ?_, fun h2 => Wk.mask [1, 2, 6] ⟨lits.length - (k + 1), by omega, k + 1, klt, rfl, ?_, rfl, rfl⟩⟩
      · rw [h2] at hR; exact hR
      · rw [h2] at hR; exact hR
  · have kd : decide ((k : Int) < (lits.length : Int)) = false := by simp; omega
    simp only [go_sem, List.length_map, kd, Try.results52]
    rw [List.drop_eq_nil_of_le kge] at hR
    exact ret_d hbd hR
end Go.Proofs.Ytpmjdaiboniagaa
end PartU16

section PartU21
/- The reference's Status; the law package's subset. -/
set_option linter.unusedSimpArgs false
set_option linter.unusedVariables false
set_option maxRecDepth 100000
namespace Go.Proofs.Ytpmjdaiboniagaa
open Go Go.Ab

theorem subset_ac (a b : List Int) (ha : a.length ≤ reachBytes) (hb : b.length ≤ reachBytes) (σ : St) (G : Glob) (R : A → St → Prop) (h : R (db (a.all fun x => decide (x ∈ b))) σ) : AC Try.prog G 34 [.d (isD a), .d (isD b)] σ R := by
  refine ac_enter mixed Try.func34 rfl Try.ntmps34 (by simp only [go_sem]) fun hbd => ?_
  simp only [List.length_cons, List.length_nil, Nat.reduceAdd, Nat.reduceSub, List.replicate_succ, List.replicate_zero, List.cons_append, List.nil_append]
  simp only [isD, go_sem]
  refine aw_loop (fun m fr st => ∃ j : Nat, j ≤ a.length ∧ m = a.length - j ∧ R (db ((a.drop j).all fun x => decide (x ∈ b))) σ ∧ fr = [.d (.sl 1 (a.map iD)), .d (isD b), .any, .any, .any, dn j, .any, .any, .any, .any, .any, .any, .any, .any, .any, .any, .any, .any, .any, .any, .any] ∧ st = σ) a.length _
    (Wk.mask [0, 1, 5] ⟨0, by omega, rfl, h, rfl, rfl⟩) ?_
  rintro m fr σ ⟨j, hj, hm, hR, rfl, rfl⟩
  rcases Nat.lt_or_ge j a.length with hlt | hge
  · have hd : decide ((j : Int) < (a.length : Int)) = true := by simp; omega
    have e1 : List.getD (List.map iD a) j default = iD (a.getD j 0) := getD_mapD hlt
    have w2 := wrapS j (by simp only [reachBytes] at ha; omega)
    rw [drop_getD 0 hlt, List.all_cons] at hR
    generalize a.getD j 0 = x at e1 hR
    simp only [go_sem, List.length_map, hd, e1, w2, Try.results34]
    refine ⟨⟨by omega, by omega⟩, ac' (has23_ac b x hb _ _ _ ?_)⟩
    simp only [go_sem, w2, Try.results34]
    refine ⟨fun q => ret_d0 ?_, fun q => Wk.mask [0, 1, 5] ⟨a.length - (j + 1), by omega, j + 1, hlt, rfl, ?_, rfl, rfl⟩⟩
    · rw [show decide (x ∈ b) = false by simpa using q] at hR; exact hR
    · rw [show decide (x ∈ b) = true by simpa using q] at hR; exact hR
  · have hd : decide ((j : Int) < (a.length : Int)) = false := by simp; omega
    simp only [go_sem, List.length_map, hd, Try.results34]
    rw [List.drop_eq_nil_of_le hge, List.all_nil] at hR
    exact ret_d0 hR
theorem status_ac (c T : List Int) (hc : c.length ≤ reachBytes) (hT : T.length ≤ reachBytes) (hl : ∀ l ∈ c, -8000 ≤ l ∧ l ≤ 8000) (σ : St) (G : Glob) (R : A → St → Prop) (h : R (.tup [di (statS T c 0).1, di (statS T c 0).2]) σ) : AC Try.prog G 32 [.d (isD c), .d (isD T)] σ R := by
  refine ac_enter mixed Try.func32 rfl Try.ntmps32 (by simp only [go_sem]) fun hbd => ?_
  simp only [List.length_cons, List.length_nil, Nat.reduceAdd, Nat.reduceSub, List.replicate_succ, List.replicate_zero, List.cons_append, List.nil_append]
  simp only [isD, go_sem]
  refine aw_loop (fun m fr st => ∃ (j : Nat) (o : Int), j ≤ c.length ∧ m = c.length - j ∧ R (.tup [di (statS T (c.drop j) o).1, di (statS T (c.drop j) o).2]) σ ∧ fr = [.d (.sl 1 (c.map iD)), .d (isD T), .any, .any, .any, .any, di o, dn j, .any, .any, .any, .any, .any, .any, .any, .any, .any, .any, .any, .any, .any, .any, .any, .any, .any, .any, .any, .any, .any, .any, .any, .any, .any, .any, .any, .any, .any, .any, .any, .any, .any, .any, .any, .any, .any, .any, .any, .any, .any, .any, .any, .any, .any, .any, .any] ∧ st = σ) c.length _
    (Wk.mask [0, 1, 6, 7] ⟨0, 0, by omega, rfl, h, rfl, rfl⟩) ?_
  rintro m fr σ ⟨j, o, hj, hm, hR, rfl, rfl⟩
  rcases Nat.lt_or_ge j c.length with hlt | hge
  · have hd : decide ((j : Int) < (c.length : Int)) = true := by simp; omega
    have e1 : List.getD (List.map iD c) j default = iD (c.getD j 0) := getD_mapD hlt
    have w2 := wrapS j (by simp only [reachBytes] at hc; omega)
    have hlk := hl _ (getD_mem 0 hlt)
    rw [drop_getD 0 hlt, statS] at hR
    generalize c.getD j 0 = x at e1 hR hlk
    have w3 : IntKind.i64.wrap (0 - x) = -x := by rw [wrap64_id _ (by omega) (by omega)]; omega
    simp only [go_sem, List.length_map, hd, e1, w2, w3]
    refine ⟨⟨by omega, by omega⟩, ac' (has23_ac T x hT _ _ _ ?_)⟩
    simp only [go_sem, List.length_map, e1, w3]
    refine ⟨⟨by omega, by omega⟩, ac' (has23_ac T (-x) hT _ _ _ ?_)⟩
    by_cases g1 : x ∈ T
    · rw [if_pos (.inl g1)] at hR
      simp only [go_sem, decide_eq_true g1, List.length_map, e1, w2, Try.results32]
      exact ret_bd0 hR
    · by_cases g2 : -x ∈ T
      · rw [if_neg (by simp [g1, g2]), if_pos g2] at hR
        simp only [go_sem, decide_eq_false g1, decide_eq_true g2, List.length_map, e1, w2, Try.results32]
        exact Wk.mask [0, 1, 6, 7] ⟨c.length - (j + 1), by omega, j + 1, o, hlt, rfl, hR, rfl, rfl⟩
      · simp only [go_sem, decide_eq_false g1, decide_eq_false g2, List.length_map, e1, w2, Try.results32]
        refine ⟨fun q => ⟨q, by omega, by omega⟩, fun q => ret_bd0 ?_, fun q => ⟨⟨by omega, by omega⟩, Wk.mask [0, 1, 6, 7] ⟨c.length - (j + 1), by omega, j + 1, x, hlt, rfl, ?_, rfl, rfl⟩⟩⟩
        · rw [Bool.and_eq_true, bne_iff_ne, bne_iff_ne] at q
          rwa [if_pos (.inr ⟨g2, q.1, q.2⟩)] at hR
        · have q' : ¬ (o ≠ 0 ∧ o ≠ x) := fun k => by simp [k.1, k.2] at q
          rwa [if_neg (by simp [g1, g2] at q' ⊢; exact q'), if_neg g2] at hR
  · have hd : decide ((j : Int) < (c.length : Int)) = false := by simp; omega
    simp only [go_sem, List.length_map, hd, Try.results32]
    rw [List.drop_eq_nil_of_le hge, statS] at hR
    refine ⟨fun q => ret_bd0 ?_, fun q => ret_bd0 ?_⟩
    · rw [if_pos (by simpa using q)] at hR; exact hR
    · rw [if_neg (by simpa using q)] at hR; exact hR
end Go.Proofs.Ytpmjdaiboniagaa
end PartU21

section PartU17
/- The law package: small, fine, the head. -/
set_option linter.unusedSimpArgs false
set_option linter.unusedVariables false
set_option maxRecDepth 100000
namespace Go.Proofs.Ytpmjdaiboniagaa
open Go Go.Ab

def smallB (f : Cnf) (lits : List Int) : Bool := !(decide (8 < f.vars) || decide (30 < (f.cls.length : Int)) || decide (10 < (lits.length : Int))) && f.cls.all fun c => !decide (10 < (c.length : Int))
theorem small23_ac (f : Cnf) (lits : List Int) (hf : I64 f.vars) (hn : f.cls.length ≤ reachBytes) (hc : ∀ c ∈ f.cls, c.length ≤ reachBytes) (hll : lits.length ≤ reachBytes) (σ : St) (G : Glob) (R : A → St → Prop) (h : R (db (smallB f lits)) σ) : AC Try.prog G 20 [.d (cnfD f), .d (isD lits)] σ R := by
  refine ac_enter mixed Try.func20 rfl Try.ntmps20 (by simp only [go_sem]) fun hbd => ?_
  simp only [List.length_cons, List.length_nil, Nat.reduceAdd, Nat.reduceSub, List.replicate_succ, List.replicate_zero, List.cons_append, List.nil_append]
  simp only [cnfD, clsD, isD, go_sem, List.length_map, Try.results20]
  unfold smallB at h
  simp only [reachBytes] at hn
  refine ⟨fun hb => ret_d hbd (by rw [hb] at h; exact h), fun hb => ?_⟩
  rw [hb] at h
  simp only [Bool.not_false, Bool.true_and] at h
  refine aw_loop (fun m fr st => ∃ k : Nat, k ≤ f.cls.length ∧ m = f.cls.length - k ∧ R (db ((f.cls.drop k).all fun c => !decide (10 < (c.length : Int)))) σ ∧ fr = [.any, .any, .ref σ.length 0, .any, .any, dn k, .any, .any, .any, .any, .any, .any, .any, .any, .any, .any, .any, .any, .any, .any, .any, .any, .any, .any, .any, .any, .any, .any, .any, .any, .any, .any, .any, .any] ∧ st = σ ++ [some (.cells [.d (iD f.vars), .d (.sl 1 (f.cls.map isD))])]) f.cls.length _
    (Wk.mask [2, 5] ⟨0, by omega, rfl, h, rfl, rfl⟩) ?_
  rintro m fr st ⟨k, hk, hm, hR, rfl, rfl⟩
  rcases Nat.lt_or_ge k f.cls.length with klt | kge
  · have kd : decide ((k : Int) < (f.cls.length : Int)) = true := by simp; omega
    have e2 := isD_getD klt
    have w4 := wrapS k (by omega)
    rw [drop_getD [] klt, List.all_cons] at hR
    generalize f.cls.getD k [] = c at e2 hR
    simp only [go_sem, List.length_map, kd, e2, w4, Try.results20]
    refine ⟨⟨by omega, by omega⟩, fun h1 => ret_d hbd ?_, fun h1 => Wk.mask [2, 5] ⟨f.cls.length - (k + 1), by omega, k + 1, klt, rfl, ?_, rfl, rfl⟩⟩
    · rw [h1] at hR; exact hR
    · rw [h1] at hR; exact hR
  · have kd : decide ((k : Int) < (f.cls.length : Int)) = false := by simp; omega
    simp only [go_sem, List.length_map, kd, Try.results20]
    rw [List.drop_eq_nil_of_le kge] at hR
    exact ret_d hbd hR
def fineB (f : Cnf) (lits : List Int) : Bool := smallB f lits && (validC f && usB f.vars lits lits)
theorem fine_ac (f : Cnf) (lits : List Int) (hf : I64 f.vars) (hn : f.cls.length ≤ reachBytes) (hc : ∀ c ∈ f.cls, c.length ≤ reachBytes) (hll : lits.length ≤ reachBytes) (hl : ∀ l ∈ lits, I64 l) (σ : St) (G : Glob) (R : A → St → Prop) (h : R (db (fineB f lits)) σ) : AC Try.prog G 26 [.d (cnfD f), .d (isD lits)] σ R := by
  refine ac_enter mixed Try.func26 rfl Try.ntmps26 (by simp only [go_sem]) fun hbd => ?_
  simp only [List.length_cons, List.length_nil, Nat.reduceAdd, Nat.reduceSub, List.replicate_succ, List.replicate_zero, List.cons_append, List.nil_append]
  simp only [cnfD, go_sem]
  refine ac' (small23_ac f lits hf hn hc hll _ _ _ ?_)
  simp only [go_sem]
  refine ex' (.bool (validC f && usB f.vars lits lits)) ⟨fun hg => ?_, ?_⟩
  · simp only [go_sem]
    exact ⟨hg, ac' (usable23_ac f lits hf hn hc hll hl _ _ _ ⟨rfl, rfl⟩)⟩
  simp only [go_sem, Try.results26]
  exact ret_d hbd h
end Go.Proofs.Ytpmjdaiboniagaa
end PartU17

section PartU18
/- The law package's head. -/
set_option linter.unusedSimpArgs false
set_option linter.unusedVariables false
set_option maxRecDepth 100000
namespace Go.Proofs.Ytpmjdaiboniagaa
open Go Go.Ab

def hf0 : Cnf := ⟨4, [[4, 4], [-2, 3], [-1, 2], [-3, -3]]⟩
def hf1 : Cnf := ⟨3, [[-2, 3], [-1, 2]]⟩
def hf2 : Cnf := ⟨3, [[-2, 3]]⟩
theorem p0 : propS hf0 [1, 1] = ([1, 4, 2, 3], [-1, 0, 2, 1], 3) := by kernel_rfl
theorem p1 : hintS hf0 [1] = ([2, 1, 3], 0) := by kernel_rfl
theorem p2 : propS hf1 [1] = ([1, 2, 3], [-1, 1, 0], -1) := by kernel_rfl
theorem p3 : propS hf0 [2, -2] = ([], [], -2) := by kernel_rfl
theorem p4 : hintS hf2 [1] = ([], 4) := by kernel_rfl
theorem p5 : hintS hf0 [5] = ([], 1) := by kernel_rfl
def sideB (f : Cnf) (lits : List Int) : Bool := decide (-9223372036854775808 ≤ f.vars) && decide (f.vars ≤ 9223372036854775807) && decide (f.cls.length ≤ 40) && (f.cls.all fun c => decide (c.length ≤ 1000)) && decide (lits.length ≤ 10) && lits.all fun x => decide (-9223372036854775808 ≤ x) && decide (x ≤ 9223372036854775807)
theorem prop_dec (f : Cnf) (lits : List Int) (h : sideB f lits = true) (σ : St) (G : Glob) (R : A → St → Prop)
    (hR : R (.tup [.d (isD (propS f lits).1), .d (isD (propS f lits).2.1), di (propS f lits).2.2]) σ) : AC Try.prog G 21 [.d (cnfD f), .d (isD lits)] σ R := by
  simp only [sideB, Bool.and_eq_true, List.all_eq_true, decide_eq_true_eq] at h
  exact propagate_ac f lits h.1.1.1.1 h.1.1.1.2 h.1.1.2 (by simp only [reachBytes]; omega) h.2 σ G R hR
theorem hint_dec (f : Cnf) (lits : List Int) (h : sideB f lits = true) (σ : St) (G : Glob) (R : A → St → Prop)
    (hR : R (.tup [.d (isD (hintS f lits).1), di (hintS f lits).2]) σ) : AC Try.prog G 23 [.d (cnfD f), .d (isD lits)] σ R := by
  simp only [sideB, Bool.and_eq_true, List.all_eq_true, decide_eq_true_eq] at h
  exact hints_ac f lits h.1.1.1.1 h.1.1.1.2 h.1.1.2 (by simp only [reachBytes]; omega) h.2 σ G R hR
set_option maxHeartbeats 4000000 in
theorem head23_ac (σ : St) (G : Glob) (R : A → St → Prop) (h : R (db true) σ) : AC Try.prog G 19 [] σ R := by
  refine ac_enterC [2, 3, 4, 5, 6, 7, 8, 9, 10] mixed Try.func19 rfl Try.ntmps19 (by simp only [go_sem]) fun hbd => ?_
  simp only [List.length_cons, List.length_nil, Nat.reduceAdd, Nat.reduceSub, List.replicate_succ, List.replicate_zero, List.cons_append, List.nil_append]
  simp only [go_sem]
  refine aw_cut (fun fr st => fr = [.any, .ref σ.length 0, .any, .any, .any, .any, .any, .any, .any, .any, .any, .any, .any, .any, .any, .any, .any, .any, .any, .any, .any, .any, .any, .any, .any, .any, .any, .any, .any, .any, .any, .any, .any, .any, .any, .any, .any, .any, .any, .any, .any, .any, .any, .any, .any, .any, .any, .any, .any, .any, .any, .any, .any, .any, .any, .any, .any, .any, .any, .any, .any, .any, .any, .any, .any, .any, .any, .any, .any, .any, .any, .any, .any, .any, .any, .any, .any, .any, .any, .any, .any, .any, .any, .any, .any, .any, .any, .any, .any, .any, .any, .any, .any, .any, .any, .any, .any, .any, .any, .any, .any, .any, .any, .any, .any, .any, .any, .any, .any, .any, .any, .any, .any, .any, .any, .any, .any, .any, .any, .any, .any, .any, .any, .any, .any, .any, .any, .any] ∧ st = σ ++ [some (.cells [.d (iD 4), .d (clsD hf0.cls)])]) ?_ ?_
  · simp only [go_sem]
    refine Wk.pre [1] ?_
    simp only [go_sem]
    refine Wk.deep [0, 1, 2, 3, 4] 6 ?_
    simp only [go_sem]
    exact Wk.keep [1] [5] (by decide) (Nat.le_refl _) hbd ⟨by simp only [go_sem], by simp only [go_sem]; rfl⟩
  rintro fr st ⟨rfl, rfl⟩
  refine aw_cut (fun fr st => fr = [.any, .ref σ.length 0, .d (isD [1, 4, 2, 3]), .d (isD [-1, 0, 2, 1]), di 3, .any, .any, .any, .any, .any, .any, .any, .any, .any, .any, .any, .any, .any, .any, .any, .any, .any, .any, .any, .any, .any, .any, .any, .any, .any, .any, .any, .any, .any, .any, .any, .any, .any, .any, .any, .any, .any, .any, .any, .any, .any, .any, .any, .any, .any, .any, .any, .any, .any, .any, .any, .any, .any, .any, .any, .any, .any, .any, .any, .any, .any, .any, .any, .any, .any, .any, .any, .any, .any, .any, .any, .any, .any, .any, .any, .any, .any, .any, .any, .any, .any, .any, .any, .any, .any, .any, .any, .any, .any, .any, .any, .any, .any, .any, .any, .any, .any, .any, .any, .any, .any, .any, .any, .any, .any, .any, .any, .any, .any, .any, .any, .any, .any, .any, .any, .any, .any, .any, .any, .any, .any, .any, .any] ∧ st = σ ++ [some (.cells [.d (iD 4), .d (clsD hf0.cls)])]) ?_ ?_
  · simp only [go_sem]
    refine ac' (ac_weak (Weak.deep [1] 4) ?_)
    simp only [go_sem]
    refine prop_dec hf0 [1, 1] (by decide) _ _ _ ?_
    rw [p0]
    simp only [go_sem]
    exact Wk.keep [1, 2, 3, 4] [0] (by decide) (Nat.le_refl _) hbd ⟨by simp only [go_sem], by simp only [go_sem]⟩
  rintro fr st ⟨rfl, rfl⟩
  refine aw_cut (fun fr st => fr = [.any, .ref σ.length 0, .d (isD [1, 4, 2, 3]), .d (isD [-1, 0, 2, 1]), di 3, .d (isD [2, 1, 3]), di 0, .any, .any, .any, .any, .any, .any, .any, .any, .any, .any, .any, .any, .any, .any, .any, .any, .any, .any, .any, .any, .any, .any, .any, .any, .any, .any, .any, .any, .any, .any, .any, .any, .any, .any, .any, .any, .any, .any, .any, .any, .any, .any, .any, .any, .any, .any, .any, .any, .any, .any, .any, .any, .any, .any, .any, .any, .any, .any, .any, .any, .any, .any, .any, .any, .any, .any, .any, .any, .any, .any, .any, .any, .any, .any, .any, .any, .any, .any, .any, .any, .any, .any, .any, .any, .any, .any, .any, .any, .any, .any, .any, .any, .any, .any, .any, .any, .any, .any, .any, .any, .any, .any, .any, .any, .any, .any, .any, .any, .any, .any, .any, .any, .any, .any, .any, .any, .any, .any, .any, .any, .any] ∧ st = σ ++ [some (.cells [.d (iD 4), .d (clsD hf0.cls)])]) ?_ ?_
  · simp only [go_sem]
    refine ac' (ac_weak (Weak.deep [1] 4) ?_)
    simp only [go_sem]
    refine hint_dec hf0 [1] (by decide) _ _ _ ?_
    rw [p1]
    simp only [go_sem]
    exact Wk.keep [1, 2, 3, 4, 5, 6] [0] (by decide) (Nat.le_refl _) hbd ⟨by simp only [go_sem], by simp only [go_sem]⟩
  rintro fr st ⟨rfl, rfl⟩
  refine aw_cut (fun fr st => fr = [.any, .ref σ.length 0, .d (isD [1, 4, 2, 3]), .d (isD [-1, 0, 2, 1]), di 3, .d (isD [2, 1, 3]), di 0, .d (isD [1, 2, 3]), .d (isD [-1, 1, 0]), di (-1), .any, .any, .any, .any, .any, .any, .any, .any, .any, .any, .any, .any, .any, .any, .any, .any, .any, .any, .any, .any, .any, .any, .any, .any, .any, .any, .any, .any, .any, .any, .any, .any, .any, .any, .any, .any, .any, .any, .any, .any, .any, .any, .any, .any, .any, .any, .any, .any, .any, .any, .any, .any, .any, .any, .any, .any, .any, .any, .any, .any, .any, .any, .any, .any, .any, .any, .any, .any, .any, .any, .any, .any, .any, .any, .any, .any, .any, .any, .any, .any, .any, .any, .any, .any, .any, .any, .any, .any, .any, .any, .any, .any, .any, .any, .any, .any, .any, .any, .any, .any, .any, .any, .any, .any, .any, .any, .any, .any, .any, .any, .any, .any, .any, .any, .any, .any, .any, .any] ∧ st = σ ++ [some (.cells [.d (iD 4), .d (clsD hf0.cls)])]) ?_ ?_
  · simp only [go_sem]
    refine ac' (ac_weak (Weak.deep [1, 2, 3, 4] 4) ?_)
    simp only [go_sem]
    refine prop_dec hf1 [1] (by decide) _ _ _ ?_
    rw [p2]
    simp only [go_sem]
    exact Wk.keep [1, 2, 3, 4, 5, 6, 7, 8, 9] [0] (by decide) (Nat.le_refl _) hbd ⟨by simp only [go_sem], by simp only [go_sem]⟩
  rintro fr st ⟨rfl, rfl⟩
  refine aw_cut (fun fr st => fr = [.any, .ref σ.length 0, .d (isD [1, 4, 2, 3]), .d (isD [-1, 0, 2, 1]), di 3, .d (isD [2, 1, 3]), di 0, .d (isD [1, 2, 3]), .d (isD [-1, 1, 0]), di (-1), .d (isD []), .d (isD []), di (-2), .any, .any, .any, .any, .any, .any, .any, .any, .any, .any, .any, .any, .any, .any, .any, .any, .any, .any, .any, .any, .any, .any, .any, .any, .any, .any, .any, .any, .any, .any, .any, .any, .any, .any, .any, .any, .any, .any, .any, .any, .any, .any, .any, .any, .any, .any, .any, .any, .any, .any, .any, .any, .any, .any, .any, .any, .any, .any, .any, .any, .any, .any, .any, .any, .any, .any, .any, .any, .any, .any, .any, .any, .any, .any, .any, .any, .any, .any, .any, .any, .any, .any, .any, .any, .any, .any, .any, .any, .any, .any, .any, .any, .any, .any, .any, .any, .any, .any, .any, .any, .any, .any, .any, .any, .any, .any, .any, .any, .any, .any, .any, .any, .any, .any, .any] ∧ st = σ ++ [some (.cells [.d (iD 4), .d (clsD hf0.cls)])]) ?_ ?_
  · simp only [go_sem]
    refine ac' (ac_weak (Weak.deep [1] 4) ?_)
    simp only [go_sem]
    refine prop_dec hf0 [2, -2] (by decide) _ _ _ ?_
    rw [p3]
    simp only [go_sem]
    exact Wk.keep [1, 2, 3, 4, 5, 6, 7, 8, 9, 10, 11, 12] [0] (by decide) (Nat.le_refl _) hbd ⟨by simp only [go_sem], by simp only [go_sem]⟩
  rintro fr st ⟨rfl, rfl⟩
  refine aw_cut (fun fr st => fr = [.any, .ref σ.length 0, .d (isD [1, 4, 2, 3]), .d (isD [-1, 0, 2, 1]), di 3, .d (isD [2, 1, 3]), di 0, .d (isD [1, 2, 3]), .d (isD [-1, 1, 0]), di (-1), .d (isD []), .d (isD []), di (-2), .any, di 4, .any, .any, .any, .any, .any, .any, .any, .any, .any, .any, .any, .any, .any, .any, .any, .any, .any, .any, .any, .any, .any, .any, .any, .any, .any, .any, .any, .any, .any, .any, .any, .any, .any, .any, .any, .any, .any, .any, .any, .any, .any, .any, .any, .any, .any, .any, .any, .any, .any, .any, .any, .any, .any, .any, .any, .any, .any, .any, .any, .any, .any, .any, .any, .any, .any, .any, .any, .any, .any, .any, .any, .any, .any, .any, .any, .any, .any, .any, .any, .any, .any, .any, .any, .any, .any, .any, .any, .any, .any, .any, .any, .any, .any, .any, .any, .any, .any, .any, .any, .any, .any, .any, .any, .any, .any, .any, .any, .any, .any, .any, .any, .any, .any] ∧ st = σ ++ [some (.cells [.d (iD 4), .d (clsD hf0.cls)])]) ?_ ?_
  · simp only [go_sem]
    refine ac' (ac_weak (Weak.deep [1, 2, 3] 4) ?_)
    simp only [go_sem]
    refine hint_dec hf2 [1] (by decide) _ _ _ ?_
    rw [p4]
    simp only [go_sem]
    exact Wk.keep [1, 2, 3, 4, 5, 6, 7, 8, 9, 10, 11, 12, 14] [0] (by decide) (Nat.le_refl _) hbd ⟨by simp only [go_sem], by simp only [go_sem]⟩
  rintro fr st ⟨rfl, rfl⟩
  refine aw_cut (fun fr st => fr = [.any, .ref σ.length 0, .d (isD [1, 4, 2, 3]), .d (isD [-1, 0, 2, 1]), di 3, .d (isD [2, 1, 3]), di 0, .d (isD [1, 2, 3]), .d (isD [-1, 1, 0]), di (-1), .d (isD []), .d (isD []), di (-2), .any, di 4, .any, di 1, .any, .any, .any, .any, .any, .any, .any, .any, .any, .any, .any, .any, .any, .any, .any, .any, .any, .any, .any, .any, .any, .any, .any, .any, .any, .any, .any, .any, .any, .any, .any, .any, .any, .any, .any, .any, .any, .any, .any, .any, .any, .any, .any, .any, .any, .any, .any, .any, .any, .any, .any, .any, .any, .any, .any, .any, .any, .any, .any, .any, .any, .any, .any, .any, .any, .any, .any, .any, .any, .any, .any, .any, .any, .any, .any, .any, .any, .any, .any, .any, .any, .any, .any, .any, .any, .any, .any, .any, .any, .any, .any, .any, .any, .any, .any, .any, .any, .any, .any, .any, .any, .any, .any, .any, .any, .any, .any, .any, .any, .any, .any] ∧ st = σ ++ [some (.cells [.d (iD 4), .d (clsD hf0.cls)])]) ?_ ?_
  · simp only [go_sem]
    refine ac' (ac_weak (Weak.deep [1] 4) ?_)
    simp only [go_sem]
    refine hint_dec hf0 [5] (by decide) _ _ _ ?_
    rw [p5]
    simp only [go_sem]
    exact Wk.keep [1, 2, 3, 4, 5, 6, 7, 8, 9, 10, 11, 12, 14, 16] [0] (by decide) (Nat.le_refl _) hbd ⟨by simp only [go_sem], by simp only [go_sem]⟩
  rintro fr st ⟨rfl, rfl⟩
  refine aw_cut (fun fr st => fr = [.any, .ref σ.length 0, .d (isD [1, 4, 2, 3]), .d (isD [-1, 0, 2, 1]), di 3, .d (isD [2, 1, 3]), di 0, .d (isD [1, 2, 3]), .d (isD [-1, 1, 0]), di (-1), .d (isD []), .d (isD []), di (-2), .any, di 4, .any, di 1, db true, .any, .any, .any, .any, .any, .any, .any, .any, .any, .any, .any, .any, .any, .any, .any, .any, .any, .any, .any, .any, .any, .any, .any, .any, .any, .any, .any, .any, .any, .any, .any, .any, .any, .any, .any, .any, .any, .any, .any, .any, .any, .any, .any, .any, .any, .any, .any, .any, .any, .any, .any, .any, .any, .any, .any, .any, .any, .any, .any, .any, .any, .any, .any, .any, .any, .any, .any, .any, .any, .any, .any, .any, .any, .any, .any, .any, .any, .any, .any, .any, .any, .any, .any, .any, .any, .any, .any, .any, .any, .any, .any, .any, .any, .any, .any, .any, .any, .any, .any, .any, .any, .any, .any, .any, .any, .any, .any, .any, .any, .any] ∧ st = σ ++ [some (.cells [.d (iD 4), .d (clsD hf0.cls)])]) ?_ ?_
  · simp only [go_sem]
    refine ac' (ac_weak (Weak.deep [1] 4) ?_)
    simp only [go_sem]
    refine same_ac [1, 4, 2, 3] [1, 4, 2, 3] (by decide) (by decide) _ _ _ ?_
    simp only [go_sem]
    refine exs ?_
    simp only [go_sem, decide_true, beq_self_eq_true]
    refine ac' (ac_weak (Weak.deep [2] 4) ?_)
    simp only [go_sem]
    refine same_ac [-1, 0, 2, 1] [-1, 0, 2, 1] (by decide) (by decide) _ _ _ ?_
    simp only [go_sem, decide_true, beq_self_eq_true]
    exact Wk.keep [1, 2, 3, 4, 5, 6, 7, 8, 9, 10, 11, 12, 14, 16, 17] [0] (by decide) (Nat.le_refl _) hbd ⟨by simp only [go_sem], by simp only [go_sem]⟩
  rintro fr st ⟨rfl, rfl⟩
  refine aw_cut (fun fr st => fr = [.any, .ref σ.length 0, .d (isD [1, 4, 2, 3]), .d (isD [-1, 0, 2, 1]), di 3, .d (isD [2, 1, 3]), di 0, .d (isD [1, 2, 3]), .d (isD [-1, 1, 0]), di (-1), .d (isD []), .d (isD []), di (-2), .any, di 4, .any, di 1, db true, db true, .any, .any, .any, .any, .any, .any, .any, .any, .any, .any, .any, .any, .any, .any, .any, .any, .any, .any, .any, .any, .any, .any, .any, .any, .any, .any, .any, .any, .any, .any, .any, .any, .any, .any, .any, .any, .any, .any, .any, .any, .any, .any, .any, .any, .any, .any, .any, .any, .any, .any, .any, .any, .any, .any, .any, .any, .any, .any, .any, .any, .any, .any, .any, .any, .any, .any, .any, .any, .any, .any, .any, .any, .any, .any, .any, .any, .any, .any, .any, .any, .any, .any, .any, .any, .any, .any, .any, .any, .any, .any, .any, .any, .any, .any, .any, .any, .any, .any, .any, .any, .any, .any, .any, .any, .any, .any, .any, .any, .any] ∧ st = σ ++ [some (.cells [.d (iD 4), .d (clsD hf0.cls)])]) ?_ ?_
  · simp only [go_sem]
    refine ac' (ac_weak (Weak.deep [1] 4) ?_)
    simp only [go_sem]
    refine same_ac [2, 1, 3] [2, 1, 3] (by decide) (by decide) _ _ _ ?_
    simp only [go_sem, decide_true, beq_self_eq_true]
    refine exs ?_
    simp only [go_sem, decide_true, beq_self_eq_true]
    refine ac' (ac_weak (Weak.deep [2] 4) ?_)
    simp only [go_sem]
    refine same_ac [1, 2, 3] [1, 2, 3] (by decide) (by decide) _ _ _ ?_
    simp only [go_sem, decide_true, beq_self_eq_true]
    refine exs ?_
    simp only [go_sem, decide_true, beq_self_eq_true]
    refine ac' (ac_weak (Weak.deep [3] 4) ?_)
    simp only [go_sem]
    refine same_ac [-1, 1, 0] [-1, 1, 0] (by decide) (by decide) _ _ _ ?_
    simp only [go_sem, decide_true, beq_self_eq_true]
    exact Wk.keep [1, 2, 3, 4, 5, 6, 7, 8, 9, 10, 11, 12, 14, 16, 17, 18] [0] (by decide) (Nat.le_refl _) hbd ⟨by simp only [go_sem], by simp only [go_sem]⟩
  rintro fr st ⟨rfl, rfl⟩
  simp only [isD, List.map_nil, go_sem, List.length_nil, beq_self_eq_true, Try.results19]
  exact ret_d hbd h
end Go.Proofs.Ytpmjdaiboniagaa
end PartU18

section PartC5
/- The reference's lists of steps. -/
set_option linter.unusedSimpArgs false
set_option maxRecDepth 100000
namespace Go.Proofs.Ytpmjdaiboniagaa
open Go Go.Ab

theorem good_ac {f : Cnf} {before : List Stp} {s : Stp} (hf : Fine f (before ++ [s])) (hv : validC f = true) (hb : ∀ t ∈ before, ∀ x ∈ t.lits, -8000 ≤ x ∧ x ≤ 8000) (hs : stepOk f.vars ((f.cls.length + before.length : Nat) : Int) s = true)
    (σ : St) (G : Glob) (R : A → St → Prop) (h : R (db (justR (clauseAt f.cls before) (negs s.lits) s.hints)) σ) : AC Try.prog G 67 [.d (cnfD f), .d (stpsD before), .d (stpD s)] σ R := by
  obtain ⟨hv1, hv2⟩ := validC_iff.1 hv
  simp only [stepOk, Bool.and_eq_true] at hs
  have h0 := hf.lits s (by simp)
  have hlen := hf.steps
  rw [List.length_append, List.length_singleton] at hlen
  have hcls := hf.cls
  refine just_ac f before s (by omega) (by omega) (by omega) (by omega) (fun x hx => ?_) (fun x hx => ?_) (fun n => ⟨?_, ?_⟩) σ G R h
  · have := litsFrom_range h0.2.2 hs.1 x hx; omega
  · have := hintsOk_range hs.2 x hx; omega
  · exact clauseAt_all (p := fun c => c.length ≤ reachBytes) (Nat.zero_le _) hf.len (fun t ht => by have := hf.lits t (by simp [ht]); simp only [reachBytes]; omega) n
  · exact clauseAt_all (p := fun c => ∀ x ∈ c, -8000 ≤ x ∧ x ≤ 8000) (fun x hx => by cases hx) (fun c hc x hx => by have := hv2 c hc x hx; omega) hb n
theorem rcheck_ac (f : Cnf) (l : List Stp) (hf : Fine f l) (σ : St) (G : Glob) (R : A → St → Prop) (h : R (.tup [di (chk (goodR f) f l).1, di (chk (goodR f) f l).2]) σ) : AC Try.prog G 38 [.d (cnfD f), .d (stpsD l)] σ R := by
  refine ac_enter mixed Try.func38 rfl Try.ntmps38 (by simp only [go_sem]) fun hbd => ?_
  simp only [List.length_cons, List.length_nil, Nat.reduceAdd, Nat.reduceSub, List.replicate_succ, List.replicate_zero, List.cons_append, List.nil_append]
  have hl := hf.steps
  have hc := hf.cls
  simp only [cnfD, stpsD, go_sem, List.length_map]
  refine ac' (rvalid_ac f hf.vars (by simp only [reachBytes]; omega) hf.len _ _ _ ?_)
  have d1 : decide ((20000 : Int) < (l.length : Int)) = false := by simp; omega
  simp only [go_sem, List.length_map, d1, Try.results38]
  refine ⟨fun hv => ?_, fun hv => ?_⟩
  · simp only [Bool.not_eq_true'] at hv
    rw [chk, if_pos (by simp [hv])] at h
    exact ret_bd hbd rfl h
  simp only [Bool.not_eq_false'] at hv
  rw [chk, if_neg (by simp [hv]), if_neg (by omega)] at h
  refine aw_loop (fun m fr st => ∃ j : Nat, j ≤ l.length ∧ m = l.length - j ∧ (∀ t ∈ l.take j, ∀ x ∈ t.lits, -8000 ≤ x ∧ x ≤ 8000) ∧ R (.tup [di (chkFrom (goodR f) l j (l.drop j)).1, di (chkFrom (goodR f) l j (l.drop j)).2]) σ ∧
    fr = [.any, .d (.sl 2 (l.map stpD)), .ref σ.length 0, .any, .any, .any, dn j, .any, .any, .any, .any, .any, .any, .any, .any, .any, .any, .any, .any, .any, .any, .any, .any, .any, .any, .any, .any, .any, .any, .any, .any, .any, .any, .any, .any, .any, .any, .any, .any, .any, .any, .any, .any, .any, .any] ∧ st = σ ++ [some (Ob.cells [A.d (iD f.vars), A.d (clsD f.cls)])]) l.length _
    (Wk.mask [1, 2, 6] ⟨0, by omega, rfl, by simp, h, rfl, rfl⟩) ?_
  clear h
  rintro m fr st ⟨j, hj, hm, hall, hR, rfl, rfl⟩
  rcases Nat.lt_or_ge j l.length with hlt | hge
  · have hd : decide ((j : Int) < (l.length : Int)) = true := by simp; omega
    have e1 := stpD_getD hlt
    have w2 := wrapS j (by omega)
    have w5 : IntKind.i64.wrap ((f.cls.length : Int) + (j : Int)) = ((f.cls.length + j : Nat) : Int) := by rw [wrap64_id _ (by omega) (by omega)]; omega
    have htk : l.take (j + 1) = l.take j ++ [l.getD j ⟨[], []⟩] := by
      rw [List.take_add_one, List.getD_eq_getElem?_getD, List.getElem?_eq_getElem hlt]; rfl
    have htl : (l.take j).length = j := by rw [List.length_take]; omega
    have hmem := getD_mem (⟨[], []⟩ : Stp) hlt
    have hf' : Fine f (l.take j ++ [l.getD j ⟨[], []⟩]) := ⟨hf.vars, hf.cls, hf.len, by rw [← htk, List.length_take]; omega, fun t ht => hf.lits t (by rw [← htk] at ht; exact List.mem_of_mem_take ht)⟩
    have hsl := hf.lits _ hmem
    rw [drop_getD ⟨[], []⟩ hlt, chkFrom, goodR, htl] at hR
    generalize l.getD j ⟨[], []⟩ = s at e1 hR htk hf' hsl
    simp only [go_sem, List.length_map, clsD, hd, e1, w2, w5]
    refine ⟨⟨by omega, by omega⟩, ac' (rstep_ac f.vars _ s (by simp only [reachBytes]; omega) (by simp only [reachBytes]; omega) _ _ _ ?_)⟩
    simp only [go_sem, List.length_map, clsD, hd, e1, w2, w5, Try.results38]
    refine ⟨fun hs => ⟨hs, by omega, by omega, by omega⟩, fun hs => ⟨hs, by omega, by omega⟩, ex' (.bool (justR (clauseAt f.cls (l.take j)) (negs s.lits) s.hints)) ⟨fun hs => ?_, ?_⟩⟩
    · simp only [go_sem, ← List.map_take]
      refine ⟨by simpa using hs, ac' (good_ac hf' hv hall (by rw [htl]; exact hs) _ _ _ ⟨rfl, rfl⟩)⟩
    simp only [go_sem, List.length_map, w2, Try.results38]
    refine ⟨fun hb => by simpa using hb, fun hb => ret_bd hbd rfl ?_, fun hb => Wk.mask [1, 2, 6] ⟨l.length - (j + 1), by omega, j + 1, hlt, rfl, ?_, ?_, rfl, rfl⟩⟩
    · rw [if_neg (by intro hh; rw [Bool.and_eq_true] at hh; rw [hh.1, hh.2] at hb; cases hb)] at hR; exact hR
    · rw [htk]
      intro t ht
      rcases List.mem_append.1 ht with ht | ht
      · exact hall t ht
      · rw [List.mem_singleton.1 ht]
        intro x hx
        simp only [Bool.or_eq_false_iff, Bool.not_eq_false', stepOk, Bool.and_eq_true] at hb
        have := litsFrom_range hsl.2.2 hb.1.1 x hx
        have := (validC_iff.1 hv).1
        omega
    · rw [if_pos (by simpa using hb)] at hR; exact hR
  · have hd : decide ((j : Int) < (l.length : Int)) = false := by simp; omega
    simp only [go_sem, List.length_map, hd, Try.results38]
    rw [List.drop_eq_nil_of_le hge, chkFrom] at hR
    exact ret_bd hbd rfl hR
end Go.Proofs.Ytpmjdaiboniagaa
end PartC5

section PartC6
/- Refutations. -/
set_option linter.unusedSimpArgs false
set_option maxRecDepth 100000
namespace Go.Proofs.Ytpmjdaiboniagaa
open Go Go.Ab

def refutes (r : Int × Int) (l : List Stp) : Bool := r.2 == 0 && decide ((0 : Int) < l.length) && (((l.getD (l.length - 1) ⟨[], []⟩).lits.length : Int) == 0)
theorem rrefutes_ac (f : Cnf) (l : List Stp) (hf : Fine f l) (σ : St) (G : Glob) (R : A → St → Prop) (h : R (db (refutes (chk (goodR f) f l) l)) σ) : AC Try.prog G 40 [.d (cnfD f), .d (stpsD l)] σ R := by
  refine ac_enter mixed Try.func40 rfl Try.ntmps40 (by simp only [go_sem]) fun hbd => ?_
  simp only [List.length_cons, List.length_nil, Nat.reduceAdd, Nat.reduceSub, List.replicate_succ, List.replicate_zero, List.cons_append, List.nil_append]
  have hl := hf.steps
  simp only [cnfD, stpsD, go_sem, List.length_map]
  refine ac' (rcheck_ac f l hf _ _ _ ?_)
  rw [refutes] at h
  obtain ⟨r, hr⟩ : ∃ r, chk (goodR f) f l = r := ⟨_, rfl⟩
  rw [hr] at h ⊢
  rcases Nat.eq_zero_or_pos l.length with h0 | h0
  · have d0 : decide ((0 : Int) < (l.length : Int)) = false := decide_eq_false (by omega)
    simp only [go_sem, List.length_map, d0, Try.results40]
    rw [d0, Bool.and_false, Bool.false_and] at h
    refine rdLen_tot _ (fun _ n => ?_) ?_
    · simp only [go_sem]
      exact ret_bd hbd rfl h
    · simp only [go_sem]
      exact ret_bd hbd rfl h
  · have w1 : IntKind.i64.wrap ((l.length : Int) - 1) = ((l.length - 1 : Nat) : Int) := by rw [wrap64_id _ (by omega) (by omega)]; omega
    have e1 := stpD_getD (l := l) (j := l.length - 1) (by omega)
    have d0 : decide ((0 : Int) < (l.length : Int)) = true := decide_eq_true (by omega)
    simp only [go_sem, List.length_map, w1, d0, isD, e1, Try.results40]
    rw [d0, Bool.and_true] at h
    exact ⟨fun hh => ⟨hh, by omega, by omega⟩, ret_bd hbd rfl h⟩
end Go.Proofs.Ytpmjdaiboniagaa
end PartC6

section PartC13
/- The list of steps is examined. -/
set_option linter.unusedSimpArgs false
set_option linter.unusedVariables false
set_option maxRecDepth 100000
namespace Go.Proofs.Ytpmjdaiboniagaa
open Go Go.Ab

theorem Views.agg {τ : St} {cs : List A} {ds : List D} (hl : cs.length = ds.length) (h : ∀ (i : Nat) (x : A) (y : D), cs[i]? = some x → ds[i]? = some y → y.one = true ∧ Views τ x (.d y)) : Views τ (.agg cs) (.d (.agg ds)) := fun G ρ w v hI hv => by
  cases hv with
  | agg cs vs len one rep =>
    refine .d (.agg ds vs (hl ▸ len) (fun i y hy => ?_) fun i y v hy hv => ?_)
    · have hi : i < cs.length := by rw [hl]; exact (List.getElem?_eq_some_iff.1 hy).1
      exact (h i _ y (List.getElem?_eq_getElem hi) hy).1
    · have hi : i < cs.length := by rw [hl]; exact (List.getElem?_eq_some_iff.1 hy).1
      have := (h i _ y (List.getElem?_eq_getElem hi) hy).2 G ρ w v hI (rep i _ v (List.getElem?_eq_getElem hi) hv)
      cases this with
      | d h => exact h
theorem rep_some {α : Type} {n i : Nat} {a x : α} (h : (List.replicate n a)[i]? = some x) : i < n ∧ a = x := by
  rw [List.getElem?_replicate] at h
  split at h
  · exact ⟨by assumption, by simpa using h⟩
  · cases h
theorem views_nils {τ : St} {id n m : Nat} {w : Option TypeId} (h : τ[id]? = some (some (.cells (List.replicate m (A.d .nils))))) (hn : n ≤ m) : Views τ (.rs id 1 0 n w) (.d (.sl 1 (List.replicate n .nils))) :=
  Views.rs h (by simp) (fun i x hx => by
    obtain ⟨_, rfl⟩ := rep_some hx
    rfl) fun i x j y hx hy => by
    obtain ⟨hi, rfl⟩ := rep_some hx
    match j with
    | 0 =>
      have e : D.nils = y := by simpa [D.cells] using hy
      subst e
      refine ⟨rfl, .d .nils, ?_, Views.d _⟩
      rw [List.getElem?_replicate, if_pos (by omega)]
    | j + 1 => simp [D.cells] at hy
theorem views_earlier {τ : St} {id n m : Nat} {w : Option TypeId} {v : Int} (h : τ[id]? = some (some (.cells (List.replicate m (A.d .nils))))) (hn : n ≤ m) : Views τ (.agg [.d (iD v), .rs id 1 0 n w]) (.d (.agg [iD v, .sl 1 (List.replicate n .nils)])) :=
  Views.agg rfl fun i x y hx hy => by
    match i with
    | 0 =>
      simp at hx hy; subst hx; subst hy
      exact ⟨rfl, Views.d _⟩
    | 1 =>
      simp at hx hy; subst hx; subst hy
      exact ⟨rfl, views_nils h hn⟩
    | i + 2 => simp at hx
theorem clauseAt_take {cls : List (List Int)} {l : List Stp} {n k : Nat} (h : n < cls.length + k) : clauseAt cls (l.take k) n = clauseAt cls l n := by
  unfold clauseAt
  split
  · rfl
  · rw [List.getD_eq_getElem?_getD, List.getElem?_take_of_lt (by omega), List.getD_eq_getElem?_getD]
/-- No literal is true together with its negative. -/
def Cons (T : List Int) : Prop := ∀ x ∈ T, -x ∉ T
theorem stS_open {T : List Int} : ∀ {c : List Int} {o : Int}, o ≠ 0 → (∀ x ∈ c, x ≠ 0) → stS T c o = (unitS T c o, false, unitS T c o != 0)
  | [], o, ho, _ => by simp [stS, unitS, ho]
  | l :: c, o, ho, hc => by
    simp only [stS, unitS]
    split
    · rfl
    split
    · exact stS_open ho fun x hx => hc x (by simp [hx])
    · simp [ho]
theorem stS_eq {T : List Int} (hT : Cons T) : ∀ {c : List Int}, (∀ x ∈ c, x ≠ 0) → stS T c 0 = (unitS T c 0, falsS T c, unitS T c 0 != 0)
  | [], _ => by simp [stS, unitS, falsS]
  | l :: c, hc => by
    have hl := hc l (by simp)
    have hc' : ∀ x ∈ c, x ≠ 0 := fun x hx => hc x (by simp [hx])
    simp only [stS, unitS, falsS, List.all_cons]
    by_cases h1 : l ∈ T
    · have := hT l h1
      simp [h1, this]
    · rw [if_neg h1, if_neg h1]
      by_cases h2 : -l ∈ T
      · rw [if_pos (.inl h2), if_pos (.inl h2), stS_eq hT hc']
        simp [h2, falsS]
      · have h3 : ¬ (-l ∈ T ∨ l = 0) := by rintro (h | h); exact h2 h; exact hl h
        rw [if_neg h3, if_neg h3, if_pos trivial, if_neg (fun h => h rfl), stS_open hl hc']
        simp [h2]
theorem unitS_mem {T : List Int} : ∀ {c : List Int} {o : Int}, unitS T c o = 0 ∨ unitS T c o = o ∨ (unitS T c o ∈ c ∧ unitS T c o ∉ T ∧ -(unitS T c o) ∉ T)
  | [], o => by simp [unitS]
  | l :: c, o => by
    simp only [unitS]
    split
    · exact .inl rfl
    split
    · rcases unitS_mem (T := T) (c := c) (o := o) with h | h | h
      · exact .inl h
      · exact .inr (.inl h)
      · exact .inr (.inr ⟨by simp [h.1], h.2⟩)
    split
    · exact .inl rfl
    · rename_i h1 h2 h3
      rcases unitS_mem (T := T) (c := c) (o := l) with h | h | h
      · exact .inl h
      · rw [h]; exact .inr (.inr ⟨by simp, h1, fun hh => h2 (.inl hh)⟩)
      · exact .inr (.inr ⟨by simp [h.1], h.2⟩)
theorem cons_snoc {T : List Int} {u : Int} (hT : Cons T) (h0 : u ≠ 0) (h1 : u ∉ T) (h2 : -u ∉ T) : Cons (T ++ [u]) := fun x hx hn => by
  rcases List.mem_append.1 hx with hx | hx <;> rcases List.mem_append.1 hn with hn | hn
  · exact hT x hx hn
  · simp at hn; rw [← hn, Int.neg_neg] at h2; exact h2 hx
  · simp at hx; rw [hx] at hn; exact h2 hn
  · simp at hx hn; omega
theorem justP_eq {cl : Nat → List Int} : ∀ {hints T : List Int}, Cons T → (∀ h ∈ hints, ∀ x ∈ cl h.toNat, x ≠ 0) → justP cl T hints = justR cl T hints
  | [], _, _, _ => rfl
  | [h], T, hT, hc => by rw [justP, justR, stS_eq hT (hc h (by simp))]
  | h :: y :: r, T, hT, hc => by
    rw [justP_two, justR_two, stS_eq hT (hc h (by simp))]
    by_cases hu : unitS T (cl h.toNat) 0 = 0
    · simp [hu]
    · rcases unitS_mem (T := T) (c := cl h.toNat) (o := 0) with h1 | h1 | h1
      · exact (hu h1).elim
      · exact (hu h1).elim
      · rw [if_neg hu, if_pos (by simpa using hu)]
        exact justP_eq (cons_snoc hT hu h1.2.1 h1.2.2) fun x hx => hc x (by simp [hx])
theorem cons_negs {v : Int} {l : List Int} (hw : ∀ x ∈ l, -v ≤ x ∧ x ≤ v ∧ x ≠ 0) (hv : v ≤ 8000) (h : (l.map absI).Nodup) : Cons (negs l) := fun x hx hn => by
  simp only [negs, List.mem_map] at hx hn
  obtain ⟨a, ha, rfl⟩ := hx
  obtain ⟨b, hb, e⟩ := hn
  have h1 := hw a ha
  have h2 := hw b hb
  have e1 : absI a = absI b := by rw [absI_of (by omega), absI_of (by omega)]; omega
  have hne : a ≠ b := by omega
  obtain ⟨i, hi, rfl⟩ := List.getElem_of_mem ha
  obtain ⟨j, hj, rfl⟩ := List.getElem_of_mem hb
  have := (List.getElem_inj (i := i) (j := j) (h₀ := by simpa using hi) (h₁ := by simpa using hj) h).1 (by simpa using e1)
  subst this; exact hne rfl
/-- The program's justification of a well-formed step is the reference's. -/
theorem just_eq {f : Cnf} {before : List Stp} {s : Stp} (hv : validC f = true) (hw : ∀ x ∈ s.lits, I64 x) (hb : ∀ t ∈ before, ∀ x ∈ t.lits, -8000 ≤ x ∧ x ≤ 8000 ∧ x ≠ 0) (hs : stepOk f.vars ((f.cls.length + before.length : Nat) : Int) s = true) :
    justP (clauseAt f.cls before) (negs s.lits) s.hints = justR (clauseAt f.cls before) (negs s.lits) s.hints := by
  obtain ⟨hv1, hv2⟩ := validC_iff.1 hv
  simp only [stepOk, Bool.and_eq_true] at hs
  refine justP_eq (cons_negs (v := f.vars) (litsFrom_range hw hs.1) (by omega) (litsFrom_iff.1 hs.1).2.1) fun h _ x hx => ?_
  have := clauseAt_all (cls := f.cls) (l := before) (p := fun c => ∀ x ∈ c, x ≠ 0) (fun x hx => by cases hx) (fun c hc x hx => (hv2 c hc x hx).1) (fun t ht x hx => (hb t ht x hx).2.2) h.toNat
  exact this x hx
theorem justP_congr {cl cl' : Nat → List Int} : ∀ {hints T : List Int}, (∀ h ∈ hints, cl h.toNat = cl' h.toNat) → justP cl T hints = justP cl' T hints
  | [], _, _ => rfl
  | [h], T, hc => by rw [justP, justP, hc h (by simp)]
  | h :: y :: r, T, hc => by
    rw [justP_two, justP_two, hc h (by simp), justP_congr (hints := y :: r) fun x hx => hc x (by simp [hx])]
end Go.Proofs.Ytpmjdaiboniagaa
end PartC13

section PartC14
/- The checker's Check. -/
set_option linter.unusedSimpArgs false
set_option linter.unusedVariables false
set_option maxRecDepth 100000
namespace Go.Proofs.Ytpmjdaiboniagaa
open Go Go.Ab

/-- Steps of a size that the sorting takes. -/
structure Fine2 (f : Cnf) (l : List Stp) : Prop extends Fine f l where
  lits12 : ∀ s ∈ l, s.lits.length ≤ 12
theorem accepts_ac (f : Cnf) (l : List Stp) (hf : Fine2 f l) (hv : validC f = true) (k : Nat) (hk : k < l.length) (hb : ∀ t ∈ l.take k, ∀ x ∈ t.lits, -8000 ≤ x ∧ x ≤ 8000 ∧ x ≠ 0) {S T : List Int} {im ie is ip N : Nat} {w : Option TypeId} (σ : St) (hE : Ex σ ie im is f l (.rs ip 1 0 N w) S T)
    (hp : σ[ip]? = some (some (.cells (List.replicate N (A.d .nils))))) (hN : f.cls.length + l.length ≤ N) (hS : S.Nodup ∧ ∀ x ∈ S, x ∈ T) (hT : T.length < 300000) (G : Glob) (R : A → St → Prop)
    (h : ∀ σ' is' S' T', Ex σ' ie im is' f l (.rs ip 1 0 N w) S' T' → S'.Nodup → (∀ x ∈ S', x ∈ T') → T'.length < 300000 → (is' = is ∨ σ.length ≤ is') → Keeps [ie, im, is] σ σ' → R (db (goodR f (l.take k) (l.getD k ⟨[], []⟩))) σ') : AC Try.prog G 65 [.ref ie 0, dn k] σ R := by
  have hl := hf.steps
  have hc := hf.cls
  have hE0 := hE
  obtain ⟨he, hm, hs, n1, n2, n3, hpb⟩ := hE
  have hmem := getD_mem (⟨[], []⟩ : Stp) hk
  have hsl := hf.lits _ hmem
  have hs12 := hf.lits12 _ hmem
  have e1 := stpD_getD hk
  refine ac_enter mixed Try.func65 rfl Try.ntmps65 (by simp only [go_sem]) fun hbd => ?_
  simp only [List.length_cons, List.length_nil, Nat.reduceAdd, Nat.reduceSub, List.replicate_succ, List.replicate_zero, List.cons_append, List.nil_append]
  have w1 : IntKind.i64.wrap ((f.cls.length : Int) + (k : Int)) = ((f.cls.length + k : Nat) : Int) := by rw [wrap64_id _ (by omega) (by omega)]; omega
  have w2 := wrapS k (by omega)
  have hie := lt_of_some he
  have hip := lt_of_some hp
  have e3 : ((l.map stpD).take (k + 1)).drop k = [stpD (l.getD k ⟨[], []⟩)] := by
    rw [← List.map_take, ← List.map_drop, List.drop_take, Nat.add_sub_cancel_left, drop_getD ⟨[], []⟩ hk]; rfl
  simp only [go_sem, live_of he, objK_of he, live_of hp, w1, w2, clsD, stpsD, List.length_map, objK_apl, live_apl, hie, hip, e3]
  obtain ⟨s, hse⟩ : ∃ s, l.getD k ⟨[], []⟩ = s := ⟨_, rfl⟩
  rw [hse] at hs12 hsl h ⊢
  have hbelow : f.cls.length + k ≤ N := by omega
  refine ⟨⟨by omega, by omega⟩, ⟨by omega, by omega, by omega⟩, ac' (ac_pure (db (stepOk f.vars ((f.cls.length + k : Nat) : Int) s)) rfl (views2 (views_earlier (m := N) (by rw [List.getElem?_append_left hip]; exact hp) hbelow) (Views.d _))
    (pvalid_ac f.vars (List.replicate (f.cls.length + k) .nils) [s] (by rw [List.length_replicate]; omega) (by simp) (fun t ht => ?_) [] G _ ?_) ?_)⟩
  · simp only [List.mem_cons, List.not_mem_nil, or_false] at ht
    subst ht; exact ⟨hs12, by omega⟩
  · simp [stepsOk, stepOk]
  have htl : (l.take k).length = k := by rw [List.length_take]; omega
  rw [goodR, htl] at h
  cases hg : stepOk f.vars ((f.cls.length + k : Nat) : Int) s with
  | false =>
    rw [hg] at h
    simp only [go_sem, Try.results65]
    refine exs ?_
    simp only [go_sem, Try.results65]
    exact ⟨_, _, Weak.refl _ _ _ _, h _ is S T ⟨by rw [List.getElem?_append_left hie]; exact he, by rw [List.getElem?_append_left (lt_of_some hm)]; exact hm, by rw [List.getElem?_append_left (lt_of_some hs)]; exact hs, n1, n2, n3, A.bd_mono (by simp) _ hpb⟩ hS.1 hS.2 hT (.inl rfl)
      ⟨by simp, fun id hid _ => List.getElem?_append_left hid⟩⟩
  | true =>
    rw [hg] at h
    simp only [go_sem]
    refine exs ?_
    simp only [go_sem]
    have hlits := hg
    simp only [stepOk, Bool.and_eq_true] at hlits
    obtain ⟨hv1, hv2⟩ := validC_iff.1 hv
    have hE1 : Ex (σ ++ [some (Ob.cells [A.d (iD f.vars), A.rs ip 1 0 (f.cls.length + k) w])]) ie im is f l (.rs ip 1 0 N w) S T :=
      ⟨by rw [List.getElem?_append_left hie]; exact he, by rw [List.getElem?_append_left (lt_of_some hm)]; exact hm, by rw [List.getElem?_append_left (lt_of_some hs)]; exact hs, n1, n2, n3, A.bd_mono (by simp) _ hpb⟩
    refine ac' (exjust_ac f l k (by omega) (by omega) hk (fun n hn => ?_) (by rw [hse]; omega) (by rw [hse]; omega) (fun x hx => ?_) (fun x hx => ?_) _ hE1 hS hT _ _ fun σ' is' S' T' hE' hn' hs' hT' hi' hK' => ?_)
    · rw [hse] at hn
      have := hintsOk_range hlits.2 _ hn
      rw [← clauseAt_take (k := k) (by omega)]
      exact ⟨clauseAt_all (p := fun c => c.length ≤ reachBytes) (Nat.zero_le _) hf.len (fun t ht => by have := hf.lits t (List.mem_of_mem_take ht); simp only [reachBytes]; omega) n,
        clauseAt_all (p := fun c => ∀ x ∈ c, -8000 ≤ x ∧ x ≤ 8000) (fun x hx => by cases hx) (fun c hc x hx => by have := hv2 c hc x hx; omega) (fun t ht x hx => by have := hb t ht x hx; omega) n⟩
    · rw [hse] at hx
      have := litsFrom_range hsl.2.2 hlits.1 x hx; omega
    · rw [hse] at hx
      have := hintsOk_range hlits.2 x hx; omega
    simp only [go_sem, Try.results65]
    have hJ : justP (clauseAt f.cls l) (negs s.lits) s.hints = justR (clauseAt f.cls (l.take k)) (negs s.lits) s.hints := by
      rw [← just_eq hv hsl.2.2 hb (by rw [htl]; exact hg)]
      exact justP_congr fun x hx => by
        have := hintsOk_range hlits.2 x hx
        rw [clauseAt_take (by omega)]
    rw [hse, hJ]
    refine ⟨_, _, Weak.refl _ _ _ _, h _ is' S' T' hE' hn' hs' hT' ?_ ⟨?_, fun id hid hx => ?_⟩⟩
    · rcases hi' with hi' | hi'
      · exact .inl hi'
      · simp at hi'; exact .inr (by omega)
    · have := hK'.1
      simp at this; omega
    · rw [hK'.2 id (by simp; omega) hx, List.getElem?_append_left hid]
theorem first_ac (f : Cnf) (l : List Stp) (hf : Fine2 f l) (hv : validC f = true) {S T : List Int} {im ie is ip N : Nat} {w : Option TypeId} (σ : St) (hE : Ex σ ie im is f l (.rs ip 1 0 N w) S T) (hip : ip ≠ ie ∧ ip ≠ im ∧ ip ≠ is)
    (hp : σ[ip]? = some (some (.cells (List.replicate N (A.d .nils))))) (hN : f.cls.length + l.length ≤ N) (hS : S.Nodup ∧ ∀ x ∈ S, x ∈ T) (hT : T.length < 300000) (G : Glob) (R : A → St → Prop)
    (h : ∀ σ', Keeps [ie, im, is] σ σ' → R (di (chkFrom (goodR f) l 0 l).1) σ') : AC Try.prog G 64 [.ref ie 0, dn l.length, .fn (.func 65) [] []] σ R := by
  have hl := hf.steps
  have hpl := lt_of_some hp
  refine ac_enter mixed Try.func64 rfl Try.ntmps64 (by simp only [go_sem]) fun hbd => ?_
  simp only [List.length_cons, List.length_nil, Nat.reduceAdd, Nat.reduceSub, List.replicate_succ, List.replicate_zero, List.cons_append, List.nil_append]
  simp only [go_sem]
  refine aw_loop (fun m fr st => ∃ (j is' : Nat) (S' T' : List Int), j ≤ l.length ∧ m = l.length - j ∧ Ex st ie im is' f l (.rs ip 1 0 N w) S' T' ∧ S'.Nodup ∧ (∀ x ∈ S', x ∈ T') ∧ T'.length < 300000 ∧ (is' = is ∨ σ.length ≤ is') ∧ Keeps [ie, im, is] σ st ∧
    (∀ t ∈ l.take j, ∀ x ∈ t.lits, -8000 ≤ x ∧ x ≤ 8000 ∧ x ≠ 0) ∧ (∀ σ', Keeps [ie, im, is] σ σ' → R (di (chkFrom (goodR f) l j (l.drop j)).1) σ') ∧ fr = [.ref ie 0, .any, .fn (.func 65) [] [], .any, .any, .any, .any, .any, dn l.length, dn j, .any, .any, .any, .any, .any, .any, .any, .any, .any]) l.length _
    (Wk.mask [0, 2, 8, 9] ⟨0, is, S, T, by omega, rfl, hE, hS.1, hS.2, hT, .inl rfl, Keeps.refl _ _, by simp, h, rfl⟩) ?_
  clear h hE hS hT
  rintro m fr st ⟨j, is', S', T', hj, hm, hE, hn, hsub, hT, hi, hK, hall, hR, rfl⟩
  rcases Nat.lt_or_ge j l.length with hlt | hge
  · have hd : decide ((j : Int) < (l.length : Int)) = true := decide_eq_true (by omega)
    have w2 := wrapS j (by omega)
    have hp' : st[ip]? = some (some (.cells (List.replicate N (A.d .nils)))) := by
      rw [hK.2 ip hpl (by simp; omega)]; exact hp
    rw [drop_getD ⟨[], []⟩ hlt, chkFrom] at hR
    have hmem := getD_mem (⟨[], []⟩ : Stp) hlt
    have hw := (hf.lits _ hmem).2.2
    have htk : l.take (j + 1) = l.take j ++ [l.getD j ⟨[], []⟩] := by
      rw [List.take_add_one, List.getD_eq_getElem?_getD, List.getElem?_eq_getElem hlt]; rfl
    simp only [go_sem, hd, w2]
    refine ac' (accepts_ac f l hf hv j hlt hall st hE hp' hN ⟨hn, hsub⟩ hT _ _ fun σ' is2 S2 T2 hE2 hn2 hs2 hT2 hi2 hK2 => ?_)
    have hKK : Keeps [ie, im, is] σ σ' := hK.trans hK2 (fun i h _ => h) (fun i h hl => by
      simp only [List.mem_cons, List.not_mem_nil, or_false] at h ⊢
      rcases h with h | h | h
      · exact .inl h
      · exact .inr (.inl h)
      · rcases hi with hi | hi
        · exact .inr (.inr (h.trans hi))
        · omega)
    have hst := hK.1
    simp only [go_sem, w2, Try.results64]
    refine ⟨fun hb => ⟨_, _, Weak.refl _ _ _ _, ?_⟩, fun hb => Wk.mask [0, 2, 8, 9] ⟨l.length - (j + 1), by omega, j + 1, is2, S2, T2, hlt, rfl, hE2, hn2, hs2, hT2, ?_, hKK, ?_, ?_, rfl⟩⟩
    · simp only [Bool.not_eq_true'] at hb
      rw [hb] at hR
      exact hR _ hKK
    · rcases hi2 with hi2 | hi2
      · rw [hi2]; exact hi
      · exact .inr (by omega)
    · simp only [Bool.not_eq_false', goodR, Bool.and_eq_true, stepOk] at hb
      rw [htk]
      intro t ht
      rcases List.mem_append.1 ht with ht | ht
      · exact hall t ht
      · rw [List.mem_singleton.1 ht]
        intro x hx
        have := litsFrom_range hw hb.1.1 x hx
        have := (validC_iff.1 hv).1
        omega
    · simp only [Bool.not_eq_false'] at hb
      rw [hb, if_pos rfl] at hR
      exact hR
  · have hd : decide ((j : Int) < (l.length : Int)) = false := decide_eq_false (by omega)
    simp only [go_sem, hd, Try.results64]
    rw [List.drop_eq_nil_of_le hge, chkFrom] at hR
    exact ⟨_, _, Weak.refl _ _ _ _, hR _ hK⟩
theorem chkFrom_iff {good : List Stp → Stp → Bool} {l : List Stp} : ∀ {k : Nat} {r : List Stp}, chkFrom good l k r = (-1, 0) ∨ ∃ n : Nat, chkFrom good l k r = ((n : Int), 260)
  | k, [] => .inl rfl
  | k, s :: r => by
    simp only [chkFrom]
    split
    · exact chkFrom_iff
    · exact .inr ⟨k, rfl⟩
theorem check_ac (f : Cnf) (l : List Stp) (hf : Fine2 f l) (σ : St) (G : Glob) (R : A → St → Prop) (h : R (.tup [di (chk (goodR f) f l).1, di (chk (goodR f) f l).2]) σ) : AC Try.prog G 37 [.d (cnfD f), .d (stpsD l)] σ R := by
  have hl := hf.steps
  have hc := hf.cls
  refine ac_enter mixed Try.func37 rfl Try.ntmps37 (by simp only [go_sem]) fun hbd => ?_
  simp only [List.length_cons, List.length_nil, Nat.reduceAdd, Nat.reduceSub, List.replicate_succ, List.replicate_zero, List.cons_append, List.nil_append]
  simp only [cnfD, go_sem]
  refine ac' (cvalid_ac f hf.vars (by simp only [reachBytes]; omega) hf.len _ _ _ ?_)
  have d1 : decide ((20000 : Int) < (l.length : Int)) = false := decide_eq_false (by omega)
  simp only [stpsD, go_sem, List.length_map, d1, Try.results37]
  refine ⟨fun hv => ?_, fun hv => ?_⟩
  · simp only [Bool.not_eq_true'] at hv
    rw [chk, if_pos (by simp [hv])] at h
    exact ret_bd hbd rfl h
  simp only [Bool.not_eq_false'] at hv
  rw [chk, if_neg (by simp [hv]), if_neg (by omega)] at h
  refine ac' (newEx_ac f l _ _ _ ?_)
  have w5 : IntKind.i64.wrap ((f.cls.length : Int) + (l.length : Int)) = ((f.cls.length + l.length : Nat) : Int) := by rw [wrap64_id _ (by omega) (by omega)]; omega
  simp only [clsD, go_sem, List.length_map, w5, exam]
  rw [List.flatten_replicate_singleton]
  refine ⟨⟨by omega, by omega, by omega, by omega⟩, ac' (ac_weak (Weak.emptyIn (σ := σ) 2 5 1 (some 3) rfl rfl) ?_)⟩
  refine first_ac f l hf hv (S := []) (T := []) (im := σ.length + 1) (ie := σ.length + 2) (is := σ.length + 4) (ip := σ.length + 3) (N := f.cls.length + l.length) (w := some 25) _
    ⟨at_own 2 rfl, at_own 1 rfl, at_own 4 rfl, by omega, by omega, by omega, by simp [A.bd]⟩ ⟨by omega, by omega, by omega⟩ (at_own 3 rfl) (Nat.le_refl _) ⟨by simp, by simp⟩ (by simp) _ _ fun σ' hK => ?_
  obtain ⟨hK1, hK2⟩ := hK
  have hσ : σ' = σ ++ σ'.drop σ.length := by
    have : σ'.take σ.length = σ := by
      apply List.ext_getElem?
      intro i
      rw [List.getElem?_take]
      split
      · rename_i hi
        rw [hK2 i (by simp; omega) (by simp; omega), List.getElem?_append_left hi]
      · rename_i hi
        rw [List.getElem?_eq_none (by omega)]
    conv => lhs; rw [← List.take_append_drop σ.length σ', this]
  rw [hσ]
  rcases chkFrom_iff (good := goodR f) (l := l) (k := 0) (r := l) with he | ⟨n, he⟩
  · rw [he] at h ⊢
    simp only [go_sem, show decide ((0 : Int) ≤ -1) = false from rfl, Try.results37]
    exact ret_bd hbd rfl h
  · rw [he] at h ⊢
    have d2 : decide ((0 : Int) ≤ (n : Int)) = true := decide_eq_true (by omega)
    simp only [go_sem, d2, Try.results37]
    exact ret_bd hbd rfl h
theorem refutes_ac (f : Cnf) (l : List Stp) (hf : Fine2 f l) (σ : St) (G : Glob) (R : A → St → Prop) (h : R (db (refutes (chk (goodR f) f l) l)) σ) : AC Try.prog G 39 [.d (cnfD f), .d (stpsD l)] σ R := by
  refine ac_enter mixed Try.func39 rfl Try.ntmps39 (by simp only [go_sem]) fun hbd => ?_
  simp only [List.length_cons, List.length_nil, Nat.reduceAdd, Nat.reduceSub, List.replicate_succ, List.replicate_zero, List.cons_append, List.nil_append]
  have hl := hf.steps
  simp only [cnfD, stpsD, go_sem, List.length_map]
  refine ac' (check_ac f l hf _ _ _ ?_)
  rw [refutes] at h
  obtain ⟨r, hr⟩ : ∃ r, chk (goodR f) f l = r := ⟨_, rfl⟩
  rw [hr] at h ⊢
  rcases Nat.eq_zero_or_pos l.length with h0 | h0
  · have d0 : decide ((0 : Int) < (l.length : Int)) = false := decide_eq_false (by omega)
    simp only [go_sem, List.length_map, d0, Try.results39]
    rw [d0, Bool.and_false, Bool.false_and] at h
    refine rdLen_tot _ (fun _ n => ?_) ?_
    · simp only [go_sem]
      exact ret_bd hbd rfl h
    · simp only [go_sem]
      exact ret_bd hbd rfl h
  · have w1 : IntKind.i64.wrap ((l.length : Int) - 1) = ((l.length - 1 : Nat) : Int) := by rw [wrap64_id _ (by omega) (by omega)]; omega
    have e1 := stpD_getD (l := l) (j := l.length - 1) (by omega)
    have d0 : decide ((0 : Int) < (l.length : Int)) = true := decide_eq_true (by omega)
    simp only [go_sem, List.length_map, w1, d0, isD, e1, Try.results39]
    rw [d0, Bool.and_true] at h
    exact ⟨fun hh => ⟨hh, by omega, by omega⟩, ret_bd hbd rfl h⟩
/-- Is a step good behind others? -/
def stepG (f : Cnf) (before : List Stp) (s : Stp) : Bool := validC f && (stepsOk f.vars f.cls.length before && goodR f before s)
theorem stepsOk_append {v : Int} : ∀ {n : Nat} {l r : List Stp}, stepsOk v n (l ++ r) = (stepsOk v n l && stepsOk v (n + l.length) r)
  | n, [], r => by simp [stepsOk]
  | n, s :: l, r => by simp [stepsOk, stepsOk_append (l := l), Bool.and_assoc, Nat.add_assoc, Nat.add_comm 1]
theorem stepsOk_range {v : Int} : ∀ {n : Nat} {l : List Stp}, stepsOk v n l = true → ∀ s ∈ l, (∀ x ∈ s.lits, I64 x) → ∀ x ∈ s.lits, -v ≤ x ∧ x ≤ v ∧ x ≠ 0
  | n, [], _, s, hs => by cases hs
  | n, t :: l, h, s, hs => by
    simp only [stepsOk, stepOk, Bool.and_eq_true] at h
    rcases List.mem_cons.1 hs with rfl | hs
    · exact fun hw => litsFrom_range hw h.1.1
    · exact stepsOk_range h.2 s hs
theorem stp_cells (l : List Stp) : ∀ x ∈ l.map stpD, x.cells.length = 2 ∧ ∀ y ∈ x.cells, y.one = true := fun x hx => by
  obtain ⟨s, _, rfl⟩ := List.mem_map.1 hx
  exact ⟨rfl, fun y hy => by simp [stpD, D.cells] at hy; rcases hy with rfl | rfl <;> rfl⟩
theorem flat_stps (l : List Stp) : (flat (l.map stpD)).length = l.length * 2 := by rw [flat_len fun x hx => (stp_cells l x hx).1, List.length_map]
theorem step_ac (f : Cnf) (l : List Stp) (s : Stp) (hf : Fine2 f (l ++ [s])) (σ : St) (G : Glob) (R : A → St → Prop) (h : R (db (stepG f l s)) σ) : AC Try.prog G 41 [.d (cnfD f), .d (stpsD l), .d (stpD s)] σ R := by
  refine ac_enterC' [4] mixed Try.func41 rfl Try.ntmps41 (by simp only [go_sem]) fun hbd => ?_
  simp only [List.length_cons, List.length_nil, Nat.reduceAdd, Nat.reduceSub, List.replicate_succ, List.replicate_zero, List.cons_append, List.nil_append]
  have hl := hf.steps
  have hc := hf.cls
  rw [List.length_append, List.length_singleton] at hl
  have d1 : decide ((20000 : Int) ≤ (l.length : Int)) = false := decide_eq_false (by omega)
  simp only [cnfD, stpsD, stpD, isD, go_sem, List.length_map, d1]
  refine ex' (.bool (validC f)) ⟨fun _ => ?_, ?_⟩
  · simp only [go_sem]
    exact ac' (cvalid_ac f hf.vars (by simp only [reachBytes]; omega) hf.len _ _ _ ⟨rfl, rfl⟩)
  simp only [go_sem, Try.results41]
  rw [stepG] at h
  refine ⟨fun hv => ?_, fun hv => ?_⟩
  · simp only [Bool.not_eq_true'] at hv
    rw [hv] at h
    exact ret_d hbd h
  simp only [Bool.not_eq_false'] at hv
  rw [hv, Bool.true_and] at h
  refine aw_cut (fun fr st => fr = [.any, .d (stpsD l), .any, .ref σ.length 0, .any, .any, .any, .d (stpsD (l ++ [s])), .any, .any, .any, .any, .any, .any, .any, .any, .any, .any, .any, .any, .any, .any, .any, .any, .any, .any, .any, .any, .any, .any, .any, .any] ∧ st = σ ++ [some (.cells [.d (iD f.vars), .d (clsD f.cls)])]) ?_ ?_
  · refine aw_plan (Plan.take 1
  (Plan.alt 0
    (Plan.alt 2 (Plan.take 3 (Plan.take 4 (Plan.take 5 (Plan.take 6 Plan.done))))
      (Plan.alt 3
        (Plan.alt 2 (Plan.take 4 (Plan.take 5 (Plan.take 6 Plan.done)))
          (Plan.alt 4 (Plan.take 2 (Plan.take 5 (Plan.take 6 Plan.done))) Plan.stop))
        Plan.stop))
    (Plan.alt 3
      (Plan.alt 0
        (Plan.alt 2 (Plan.take 4 (Plan.take 5 (Plan.take 6 Plan.done)))
          (Plan.alt 4 (Plan.take 2 (Plan.take 5 (Plan.take 6 Plan.done))) Plan.stop))
        (Plan.alt 4 (Plan.take 0 (Plan.take 2 (Plan.take 5 (Plan.take 6 Plan.done)))) Plan.stop))
      Plan.stop))) (by kernel_rfl) ?_
    simp only [stpsD, stpD, isD, go_sem, List.length_map, flat_stps]
    repeat' apply And.intro
    all_goals first
      | omega
      | (simp only [maxLen]; omega)
      | (refine Wk.pre [1, 3, 7] ?_
         simp only [go_sem]
         refine Wk.frz 5 2 0 ((l ++ [s]).map stpD) rfl ?_ ?_
         · have := lies_of (stp_cells (l ++ [s]))
           rw [List.map_append, flat_append] at this
           rw [List.map_append]
           exact this
         · simp only [go_sem, List.length_map, List.map_append]
           exact Wk.keep [1, 3, 7] [0] (by decide) (Nat.le_refl _) hbd ⟨by simp only [go_sem], by simp only [go_sem]⟩)
  · rintro fr st ⟨rfl, rfl⟩
    simp only [stpsD, stpD, isD, go_sem, List.length_map]
    have hlen : (l ++ [s]).length = l.length + 1 := by simp
    refine ac' (pvalid_ac f.vars (f.cls.map isD) (l ++ [s]) (by rw [List.length_map]; omega) (by omega) (fun t ht => ⟨hf.lits12 t ht, by have := hf.lits t ht; omega⟩) _ _ _ ?_)
    have d2 : decide ((20000 : Int) < ((l ++ [s]).length : Int)) = false := decide_eq_false (by omega)
    rw [d2, Bool.not_false, Bool.true_and, List.length_map, stepsOk_append]
    simp only [stepsOk, Bool.and_true]
    cases h1 : stepsOk f.vars f.cls.length l with
    | false =>
      rw [h1] at h
      simp only [go_sem, Try.results41]
      exact ret_d hbd h
    | true =>
    rw [h1, Bool.true_and, goodR] at h
    cases h2 : stepOk f.vars ((f.cls.length + l.length : Nat) : Int) s with
    | false =>
      rw [h2] at h
      simp only [go_sem, Try.results41]
      exact ret_d hbd h
    | true =>
    rw [h2, Bool.true_and] at h
    simp only [stpsD, go_sem, List.length_map]
    refine ac' (newEx_ac f (l ++ [s]) _ _ _ ?_)
    simp only [stpsD, clsD, go_sem, List.length_map, exam]
    refine ac' (ac_weak (Weak.emptyIn (σ := σ) 2 5 1 (some 3) rfl rfl) ?_)
    have hget : (l ++ [s]).getD l.length ⟨[], []⟩ = s := by simp [List.getD_eq_getElem?_getD]
    have hlits := h2
    simp only [stepOk, Bool.and_eq_true] at hlits
    obtain ⟨hv1, hv2⟩ := validC_iff.1 hv
    have hw : ∀ t ∈ l, ∀ x ∈ t.lits, I64 x := fun t ht => (hf.lits t (by simp [ht])).2.2
    have hb : ∀ t ∈ l, ∀ x ∈ t.lits, -8000 ≤ x ∧ x ≤ 8000 ∧ x ≠ 0 := fun t ht x hx => by
      have := stepsOk_range h1 t ht (hw t ht) x hx; omega
    have hsl := hf.lits s (by simp)
    have htk : (l ++ [s]).take l.length = l := by simp
    refine exjust_ac f (l ++ [s]) l.length (by omega) (by omega) (by omega) (fun n hn => ?_) (by rw [hget]; omega) (by rw [hget]; omega) (fun x hx => ?_) (fun x hx => ?_) (S := []) (T := []) (im := σ.length + 1) (ie := σ.length + 2) (is := σ.length + 3) (pl := .d .nils) _
      ⟨at_own 2 rfl, at_own 1 rfl, at_own 3 rfl, by omega, by omega, by omega, rfl⟩ ⟨by simp, by simp⟩ (by simp) _ _ fun σ' is' S' T' hE' hn' hs' hT' hi' hK => ?_
    · rw [hget] at hn
      have := hintsOk_range hlits.2 _ hn
      rw [← clauseAt_take (k := l.length) (by omega), htk]
      exact ⟨clauseAt_all (p := fun c => c.length ≤ reachBytes) (Nat.zero_le _) hf.len (fun t ht => by have := hf.lits t (by simp [ht]); simp only [reachBytes]; omega) n,
        clauseAt_all (p := fun c => ∀ x ∈ c, -8000 ≤ x ∧ x ≤ 8000) (fun x hx => by cases hx) (fun c hc x hx => by have := hv2 c hc x hx; omega) (fun t ht x hx => by have := hb t ht x hx; omega) n⟩
    · rw [hget] at hx
      have := litsFrom_range hsl.2.2 hlits.1 x hx; omega
    · rw [hget] at hx
      have := hintsOk_range hlits.2 x hx; omega
    obtain ⟨hK1, hK2⟩ := hK
    have hσ : σ' = σ ++ σ'.drop σ.length := by
      have : σ'.take σ.length = σ := by
        apply List.ext_getElem?
        intro i
        rw [List.getElem?_take]
        split
        · rename_i hi
          rw [hK2 i (by simp; omega) (by simp; omega), List.getElem?_append_left hi]
        · rename_i hi
          rw [List.getElem?_eq_none (by omega)]
      conv => lhs; rw [← List.take_append_drop σ.length σ', this]
    rw [hσ, hget]
    have hJ : justP (clauseAt f.cls (l ++ [s])) (negs s.lits) s.hints = justR (clauseAt f.cls l) (negs s.lits) s.hints := by
      rw [← just_eq hv hsl.2.2 hb h2]
      refine justP_congr fun x hx => ?_
      have := hintsOk_range hlits.2 x hx
      rw [← clauseAt_take (k := l.length) (by omega), htk]
    rw [hJ]
    simp only [go_sem, Try.results41]
    exact ret_d hbd h
end Go.Proofs.Ytpmjdaiboniagaa
end PartC14
