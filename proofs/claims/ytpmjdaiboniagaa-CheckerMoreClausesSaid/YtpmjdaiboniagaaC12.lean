/- An examination examines one step. -/
import Derived.Test.YtpmjdaiboniagaaC11
set_option linter.unusedSimpArgs false
set_option linter.unusedVariables false
set_option maxRecDepth 100000
namespace Go.Proofs.Ytpmjdaiboniagaa
open Go Go.Ab

/-- All but some objects are as they were. -/
def Keeps (X : List Nat) (σ σ' : St) : Prop := σ.length ≤ σ'.length ∧ ∀ id, id < σ.length → id ∉ X → σ'[id]? = σ[id]?
theorem Keeps.refl (X : List Nat) (σ : St) : Keeps X σ σ := ⟨Nat.le_refl _, fun _ _ _ => rfl⟩
theorem Keeps.trans {X Y Z : List Nat} {a b c : St} (h : Keeps X a b) (k : Keeps Y b c) (hx : ∀ i ∈ X, i < a.length → i ∈ Z) (hy : ∀ i ∈ Y, i < a.length → i ∈ Z) : Keeps Z a c :=
  ⟨Nat.le_trans h.1 k.1, fun id hid hz => (k.2 id (Nat.lt_of_lt_of_le hid h.1) fun hm => hz (hy id hm hid)).trans (h.2 id hid fun hm => hz (hx id hm hid))⟩
theorem lt_of_some {σ : St} {i : Nat} {o : Option Ob} (h : σ[i]? = some o) : i < σ.length := (List.getElem?_eq_some_iff.1 h).1
/-- An examination in a store. -/
structure Ex (σ : St) (ie im is : Nat) (f : Cnf) (l : List Stp) (pl : A) (S T : List Int) : Prop where
  ex : σ[ie]? = some (exam f l pl im (.rs is 1 0 T.length (some 3)))
  map : σ[im]? = some (some (.map (setM S)))
  ints : σ[is]? = some (ints T)
  nem : ie ≠ im
  nes : ie ≠ is
  mns : im ≠ is
  pl : pl.bd σ.length = true
def ins (S : List Int) (x : Int) : List Int := if x ∈ S then S else S ++ [x]
theorem mem_ins {S : List Int} {x y : Int} : y ∈ ins S x ↔ y ∈ S ∨ y = x := by
  unfold ins; split
  · rename_i h; exact ⟨.inl, fun k => k.elim id fun e => e ▸ h⟩
  · simp
theorem nodup_ins {S : List Int} {x : Int} (h : S.Nodup) : (ins S x).Nodup := by
  unfold ins; split
  · exact h
  · rename_i hx; exact List.nodup_append.2 ⟨h, by simp, fun a ha b hb => by simp at hb; subst hb; exact fun e => hx (e ▸ ha)⟩
theorem objK_ne {σ : St} {i j : Nat} {x : Option Ob} {k : List A → Prop} (h : i ≠ j) : objK (σ.set i x) j k = objK σ j k := by
  simp only [objK, List.getElem?_set, if_neg h]
theorem mapK_ne {σ : St} {i j : Nat} {x : Option Ob} {k : List (D × A) → Prop} (h : i ≠ j) : mapK (σ.set i x) j k = mapK σ j k := by
  simp only [mapK, List.getElem?_set, if_neg h]
theorem live_ne {σ : St} {i j : Nat} {x : Option Ob} (h : i ≠ j) : liveId (σ.set i x) j = liveId σ j := by
  simp only [liveId, List.getElem?_set, if_neg h]
theorem objK_apl {σ l : St} {j : Nat} {k : List A → Prop} (h : j < σ.length) : objK (σ ++ l) j k = objK σ j k := by
  simp only [objK, List.getElem?_append_left h]
theorem mapK_apl {σ l : St} {j : Nat} {k : List (D × A) → Prop} (h : j < σ.length) : mapK (σ ++ l) j k = mapK σ j k := by
  simp only [mapK, List.getElem?_append_left h]
theorem live_apl {σ l : St} {j : Nat} (h : j < σ.length) : liveId (σ ++ l) j = liveId σ j := by
  simp only [liveId, List.getElem?_append_left h]
theorem objK_apr {τ l : St} {j : Nat} {k : List A → Prop} (h : τ.length ≤ j) : objK (τ ++ l) j k = objK l (j - τ.length) k := by
  simp only [objK, List.getElem?_append_right h]
theorem live_apr {τ l : St} {j : Nat} (h : τ.length ≤ j) : liveId (τ ++ l) j = liveId l (j - τ.length) := by
  simp only [liveId, List.getElem?_append_right h]
theorem set_apl {σ l : St} {j : Nat} {x : Option Ob} (h : j < σ.length) : List.set (σ ++ l) j x = List.set σ j x ++ l := by
  rw [List.set_append_left _ _ h]
/-- Is a step justified, as the program has it? -/
def justP (cl : Nat → List Int) (T : List Int) : List Int → Bool
  | [] => false
  | [h] => (stS T (cl h.toNat) 0).2.1
  | h :: hs => if (stS T (cl h.toNat) 0).2.2 then justP cl (T ++ [(stS T (cl h.toNat) 0).1]) hs else false
theorem justP_two (cl : Nat → List Int) (T : List Int) (h y : Int) (r : List Int) : justP cl T (h :: y :: r) = if (stS T (cl h.toNat) 0).2.2 then justP cl (T ++ [(stS T (cl h.toNat) 0).1]) (y :: r) else false := rfl
theorem exassign_ac (f : Cnf) (l : List Stp) (x : Int) {pl : A} {S T : List Int} {im ie is : Nat} (σ : St) (hE : Ex σ ie im is f l pl S T) (hT : T.length < 1000000) (G : Glob) (R : A → St → Prop)
    (h : ∀ r σ' is', Ex σ' ie im is' f l pl (ins S x) (T ++ [x]) → σ.length ≤ is' → Keeps [ie, im, is] σ σ' → R r σ') : AC Try.prog G 88 [.ref ie 0, di x] σ R := by
  obtain ⟨he, hm, hs, n1, n2, n3, hp⟩ := hE
  refine ac_enter mixed Try.func88 rfl Try.ntmps88 (by simp only [go_sem]) fun hbd => ?_
  simp only [List.length_cons, List.length_nil, Nat.reduceAdd, Nat.reduceSub, List.replicate_succ, List.replicate_zero, List.cons_append, List.nil_append]
  have hie := lt_of_some he
  have his := lt_of_some hs
  have him := lt_of_some hm
  simp only [go_sem, live_of he, objK_of he, mapK_of hm, objK_of hs, objK_ne n1.symm, objK_ne n2.symm, objK_ne n3, live_ne n1.symm, live_ne n2.symm, objK_apl, live_apl, set_apl, List.length_set, hie, his, him, List.length_map, objK_apr, live_apr, Nat.le_refl, Nat.le_add_right, Nat.sub_self, Nat.add_sub_cancel_left, Try.results88]
  refine ⟨⟨by omega, by simp only [maxLen]; omega, by omega⟩, _, _, Weak.refl _ _ _ _, h _ _ (σ.length + 1) ⟨?_, ?_, ?_, n1, by omega, by omega, ?_⟩ (by omega) ⟨by simp, fun id hid hn => ?_⟩⟩
  · rw [List.getElem?_append_left (by simp; exact hie), List.getElem?_set, if_pos rfl, if_pos (by simp; exact hie)]; simp
  · rw [List.getElem?_append_left (by simp; exact him), List.getElem?_set_ne n1, List.getElem?_set_ne n3.symm, List.getElem?_set, if_pos rfl, if_pos him]; rfl
  · rw [List.getElem?_append_right (by simp)]; simp
  · exact A.bd_mono (by simp) _ hp
  · simp only [List.mem_cons, List.not_mem_nil, or_false, not_or] at hn
    rw [List.getElem?_append_left (by simp; exact hid), List.getElem?_set_ne (by omega), List.getElem?_set_ne (by omega), List.getElem?_set_ne (by omega)]
theorem stS_congr {S T : List Int} (h : ∀ x, x ∈ S ↔ x ∈ T) : ∀ {c : List Int} {o : Int}, stS S c o = stS T c o
  | [], o => rfl
  | l :: c, o => by simp only [stS, h, stS_congr h (c := c)]
theorem exjust_ac (f : Cnf) (l : List Stp) (k : Nat) (h1 : f.cls.length ≤ 100000) (h2 : l.length ≤ 100000) (hk : k < l.length) (hv : ∀ n : Nat, (n : Int) ∈ (l.getD k ⟨[], []⟩).hints → (clauseAt f.cls l n).length ≤ reachBytes ∧ ∀ x ∈ clauseAt f.cls l n, -8000 ≤ x ∧ x ≤ 8000)
    (h3 : (l.getD k ⟨[], []⟩).lits.length ≤ 100000) (h4 : (l.getD k ⟨[], []⟩).hints.length ≤ 100000) (h5 : ∀ x ∈ (l.getD k ⟨[], []⟩).lits, -8000 ≤ x ∧ x ≤ 8000) (h6 : ∀ x ∈ (l.getD k ⟨[], []⟩).hints, 0 ≤ x ∧ x < f.cls.length + l.length)
    {pl : A} {S T : List Int} {im ie is : Nat} (σ : St) (hE : Ex σ ie im is f l pl S T) (hS : S.Nodup ∧ ∀ x ∈ S, x ∈ T) (hT : T.length < 300000) (G : Glob) (R : A → St → Prop)
    (h : ∀ σ' is' S' T', Ex σ' ie im is' f l pl S' T' → S'.Nodup → (∀ x ∈ S', x ∈ T') → T'.length < 300000 → (is' = is ∨ σ.length ≤ is') → Keeps [ie, im, is] σ σ' → R (db (justP (clauseAt f.cls l) (negs (l.getD k ⟨[], []⟩).lits) (l.getD k ⟨[], []⟩).hints)) σ') : AC Try.prog G 69 [.ref ie 0, dn k] σ R := by
  have e1 := stpD_getD hk
  obtain ⟨s, hse⟩ : ∃ s, l.getD k ⟨[], []⟩ = s := ⟨_, rfl⟩
  rw [hse] at e1 h3 h4 h5 h6 h hv
  clear hse
  obtain ⟨lits, hints⟩ := s
  simp only at h3 h4 h5 h6 h hv
  obtain ⟨he, hm, hs, n1, n2, n3, hp⟩ := hE
  have hie := lt_of_some he
  have his := lt_of_some hs
  have him := lt_of_some hm
  refine ac_enter mixed Try.func69 rfl Try.ntmps69 (by simp only [go_sem]) fun hbd => ?_
  simp only [List.length_cons, List.length_nil, Nat.reduceAdd, Nat.reduceSub, List.replicate_succ, List.replicate_zero, List.cons_append, List.nil_append]
  simp only [go_sem, live_of he, objK_of he, live_of hs]
  refine aw_loop (fun m fr st => ∃ (j : Nat) (S' : List Int), j ≤ T.length ∧ m = T.length - j ∧ S'.Nodup ∧ (∀ x ∈ S', x ∈ T.drop j) ∧ fr = [.ref ie 0, dn k, .any, .any, .any, .any, .any, .any, .any, .any, .any, .any, .any, .any, .any, .any, .any, .any, .rs is 1 0 T.length (some 3), dn T.length, dn j, .any, .any, .any, .any, .any, .any, .any, .any, .any, .any, .any, .any, .any, .any, .any, .any, .any, .any, .any, .any, .any, .any, .any, .any, .any, .any, .any, .any, .any, .any, .any, .any, .any, .any, .any, .any, .any, .any, .any, .any, .any, .any, .any, .any, .any, .any, .any, .any, .any, .any, .any, .any, .any, .any, .any, .any, .any, .any, .any, .any, .any, .any, .any, .any, .any, .any, .any, .any, .any, .any, .any] ∧ st = σ.set im (some (.map (setM S')))) T.length _
    (Wk.mask [0, 1, 18, 19, 20] ⟨0, S, by omega, rfl, hS.1, hS.2, rfl, (set_same hm).symm⟩) ?_
  rintro m fr st ⟨j, S1, hj, hm', hn, hsub, rfl, rfl⟩
  have hm1 : (σ.set im (some (Ob.map (setM S1))))[im]? = some (some (.map (setM S1))) := by rw [List.getElem?_set, if_pos rfl, if_pos him]
  rcases Nat.lt_or_ge j T.length with hlt | hge
  · have hd : decide ((j : Int) < (T.length : Int)) = true := decide_eq_true (by omega)
    have w2 := wrapS j (by omega)
    have e2 : List.getD (T.map fun x => A.d (iD x)) j .any = A.d (iD (T.getD j 0)) := getD_mapA hlt
    rw [drop_getD 0 hlt] at hsub
    simp only [go_sem, hd, w2, e2, live_ne n1.symm, live_ne n3, live_of he, live_of hs, objK_ne n1.symm, objK_ne n3, objK_of he, objK_of hs, mapK_of hm1, List.length_map, Nat.mul_one, List.set_set]
    refine ⟨⟨by omega, by omega⟩, hlt, Wk.mask [0, 1, 18, 19, 20] ⟨T.length - (j + 1), by omega, j + 1, S1.erase (T.getD j 0), hlt, rfl, hn.erase _, fun x hx => ?_, rfl, rfl⟩⟩
    have h7 := (List.Nodup.mem_erase_iff hn).1 hx
    rcases List.mem_cons.1 (hsub x h7.2) with h8 | h8
    · exact (h7.1 h8).elim
    · exact h8
  have hS1 : S1 = [] := by
    cases S1 with
    | nil => rfl
    | cons y r => have := hsub y (by simp); rw [List.drop_eq_nil_of_le hge] at this; cases this
  subst hS1
  have hd : decide ((j : Int) < (T.length : Int)) = false := decide_eq_false (by omega)
  simp only [stpsD, go_sem, hd, live_ne n1.symm, live_ne n2, live_ne n3, live_of he, live_of hs, objK_ne n1.symm, objK_ne n3, objK_of he, objK_of hs, mapK_of hm1, List.length_map, e1, isD, objK_set, live_set, List.length_set, hie]
  refine ⟨⟨by omega, by omega⟩, ⟨by omega, by omega⟩, ?_⟩
  refine aw_loop (fun m fr st => ∃ (j is' : Nat) (S' : List Int), j ≤ lits.length ∧ m = lits.length - j ∧ Ex st ie im is' f l pl S' (negs (lits.take j)) ∧ S'.Nodup ∧ (∀ x, x ∈ S' ↔ x ∈ negs (lits.take j)) ∧ (is' = is ∨ σ.length ≤ is') ∧ Keeps [ie, im, is] σ st ∧
    fr = [.ref ie 0, dn k, .any, .any, .any, .any, .any, .any, .any, .any, .any, .any, .any, .any, .any, .any, .any, .any, .any, .any, .any, .any, .any, .any, .any, .any, .any, .any, .any, .any, .any, .any, .any, .any, .any, .any, .any, .any, .any, .any, .any, .any, .any, .any, .any, .d (.sl 1 (lits.map iD)), dn lits.length, dn j, .any, .any, .any, .any, .any, .any, .any, .any, .any, .any, .any, .any, .any, .any, .any, .any, .any, .any, .any, .any, .any, .any, .any, .any, .any, .any, .any, .any, .any, .any, .any, .any, .any, .any, .any, .any, .any, .any, .any, .any, .any, .any, .any, .any]) lits.length _
    ⟨_, _, (Weak.mask [0, 1, 45, 46, 47]).trans (Weak.short (σ := []) is 0 (cs := T.map fun x => A.d (iD x)) ?_), 0, is, [], by omega, rfl, ⟨?_, ?_, ?_, n1, n2, n3, ?_⟩, by simp, by simp [negs], .inl rfl, ⟨?_, fun id hid hx => ?_⟩, rfl⟩ ?_
  · rw [List.getElem?_set_ne n2, List.getElem?_set_ne n3]; exact hs
  · rw [List.nil_append, List.getElem?_set_ne n2.symm, List.getElem?_set, if_pos rfl, if_pos (by simp; exact hie)]; rfl
  · rw [List.nil_append, List.getElem?_set_ne n3.symm, List.getElem?_set_ne n1, List.getElem?_set, if_pos rfl, if_pos him]
  · rw [List.nil_append, List.getElem?_set, if_pos rfl, if_pos (by simp; exact his)]; rfl
  · simpa using hp
  · simp
  · simp only [List.mem_cons, List.not_mem_nil, or_false, not_or] at hx
    rw [List.nil_append, List.getElem?_set_ne (by omega), List.getElem?_set_ne (by omega), List.getElem?_set_ne (by omega)]
  clear hn hsub hm1 hd hm' hge hj hm hs he
  rintro m fr st ⟨j, is', S', hj, hm', hE, hn, hmem, hi, hK, rfl⟩
  rcases Nat.lt_or_ge j lits.length with hlt | hge
  · have hd : decide ((j : Int) < (lits.length : Int)) = true := decide_eq_true (by omega)
    have e2 : List.getD (List.map iD lits) j default = iD (lits.getD j 0) := getD_mapD hlt
    have w2 := wrapS j (by omega)
    have w4 : IntKind.i64.wrap (0 - lits.getD j 0) = -(lits.getD j 0) := by
      have := h5 _ (getD_mem 0 hlt)
      rw [wrap64_id _ (by omega) (by omega)]; omega
    have htk : negs (lits.take (j + 1)) = negs (lits.take j) ++ [-(lits.getD j 0)] := by
      rw [List.take_add_one, List.getD_eq_getElem?_getD, List.getElem?_eq_getElem hlt, negs, List.map_append]; rfl
    simp only [go_sem, hd, e2, w2, w4, List.length_map]
    refine ⟨⟨by omega, by omega⟩, ac' (exassign_ac f l _ st hE (by rw [negs, List.length_map, List.length_take]; omega) _ _ fun r σ' is2 hE2 hi2 hK2 => ?_)⟩
    simp only [go_sem, w2]
    have hst := hK.1
    refine Wk.mask [0, 1, 45, 46, 47] ⟨lits.length - (j + 1), by omega, j + 1, is2, ins S' (-(lits.getD j 0)), hlt, rfl, by rw [htk]; exact hE2, nodup_ins hn, fun x => ?_, .inr (by omega), hK.trans hK2 (fun i h _ => h) (fun i h hl => ?_), rfl⟩
    · rw [mem_ins, htk, hmem x, List.mem_append, List.mem_singleton]
    · simp only [List.mem_cons, List.not_mem_nil, or_false] at h ⊢
      rcases h with h | h | h
      · exact .inl h
      · exact .inr (.inl h)
      · rcases hi with hi | hi
        · exact .inr (.inr (h.trans hi))
        · omega
  have hj' : j = lits.length := by omega
  subst hj'
  rw [List.take_length] at hE hmem
  have hd : decide ((lits.length : Int) < (lits.length : Int)) = false := decide_eq_false (by omega)
  have he := hE.ex
  simp only [stpsD, go_sem, hd, live_of he, objK_of he, List.length_map, e1, isD]
  refine ⟨⟨by omega, by omega⟩, ?_⟩
  refine aw_loop (fun m fr st => ∃ (j is' : Nat) (S' T' : List Int), j ≤ hints.length ∧ m = hints.length - j ∧ Ex st ie im is' f l pl S' T' ∧ S'.Nodup ∧ (∀ x, x ∈ S' ↔ x ∈ T') ∧ T'.length ≤ 100000 + j ∧ (is' = is ∨ σ.length ≤ is') ∧ Keeps [ie, im, is] σ st ∧
    justP (clauseAt f.cls l) T' (hints.drop j) = justP (clauseAt f.cls l) (negs lits) hints ∧
    fr = [.ref ie 0, .any, .any, .any, .any, .any, .any, .any, .any, .d (.sl 1 (hints.map iD)), .any, .any, .any, .any, .any, .any, .any, .any, .any, .any, .any, .any, .any, .any, .any, .any, .any, .any, .any, .any, .any, .any, .any, .any, .any, .any, .any, .any, .any, .any, .any, .any, .any, .any, .any, .any, .any, .any, .any, .any, .any, .any, .any, .any, .any, .any, .any, .any, .any, .any, .any, .any, .any, .any, .d (.sl 1 (hints.map iD)), dn hints.length, dn j, .any, .any, .any, .any, .any, .any, .any, .any, .any, .any, .any, .any, .any, .any, .any, .any, .any, .any, .any, .any, .any, .any, .any, .any, .any]) hints.length _
    (Wk.mask [0, 9, 64, 65, 66] ⟨0, is', S', negs lits, by omega, rfl, hE, hn, hmem, by rw [negs, List.length_map]; omega, hi, hK, rfl, rfl⟩) ?_
  clear hn hmem hE hi hK hm' hd he
  clear is' S'
  rintro m fr st ⟨j, is', S', T', hj, hm', hE, hn, hmem, hT', hi, hK, hJ, rfl⟩
  have he := hE.ex
  have hmm := hE.map
  rcases Nat.lt_or_ge j hints.length with hlt | hge
  · have hd : decide ((j : Int) < (hints.length : Int)) = true := decide_eq_true (by omega)
    have hx := h6 _ (getD_mem 0 hlt)
    obtain ⟨n, hn'⟩ : ∃ n : Nat, hints.getD j 0 = (n : Int) := ⟨(hints.getD j 0).toNat, by omega⟩
    have e2 : List.getD (List.map iD hints) j default = iD (n : Int) := by rw [← hn']; exact getD_mapD hlt
    have w2 := wrapS j (by omega)
    have w5 : IntKind.i64.wrap ((hints.length : Int) - 1) = ((hints.length - 1 : Nat) : Int) := by rw [wrap64_id _ (by omega) (by omega)]; omega
    rw [drop_getD 0 hlt, hn'] at hJ
    simp only [go_sem, hd, e2, w2, List.length_map]
    refine ⟨⟨by omega, by omega⟩, ac' (exclause_ac f l n h1 h2 (by omega) _ he _ _ ?_)⟩
    obtain ⟨c, hc⟩ : ∃ c, clauseAt f.cls l n = c := ⟨_, rfl⟩
    obtain ⟨hv1, hv2⟩ := hv n (by rw [← hn']; exact getD_mem 0 hlt)
    rw [hc] at hv1 hv2 ⊢
    simp only [go_sem]
    refine ac' (state_ac f l c S' hv1 hv2 _ he hmm _ _ ?_)
    rw [stS_congr hmem]
    rcases Nat.lt_or_ge (j + 1) hints.length with hmore | hlast
    · have kd2 : ((j : Int) == ((hints.length - 1 : Nat) : Int)) = false := by simp; omega
      obtain ⟨y, r, hyr⟩ : ∃ y r, hints.drop (j + 1) = y :: r := ⟨_, _, drop_getD 0 hmore⟩
      rw [hyr, justP_two, Int.toNat_natCast, hc] at hJ
      obtain ⟨⟨o, fa, un⟩, hst⟩ : ∃ s, stS T' c 0 = s := ⟨_, rfl⟩
      rw [hst] at hJ ⊢
      simp only at hJ
      simp only [go_sem, List.length_map, w5, kd2, Try.results69]
      refine ⟨fun hu => ?_, fun hu => ?_⟩
      · simp only [Bool.not_eq_true'] at hu
        subst hu
        simp only [Bool.false_eq_true, if_false] at hJ
        exact ⟨_, _, Weak.refl _ _ _ _, by rw [hJ]; exact h _ is' S' T' hE hn (fun x hx => (hmem x).1 hx) (by omega) hi hK⟩
      simp only [Bool.not_eq_false'] at hu
      subst hu
      simp only [if_true] at hJ
      refine ac' (exassign_ac f l _ st hE (by omega) _ _ fun r2 σ' is2 hE2 hi2 hK2 => ?_)
      simp only [go_sem, w2]
      have hst' := hK.1
      refine Wk.mask [0, 9, 64, 65, 66] ⟨hints.length - (j + 1), by omega, j + 1, is2, ins S' o, T' ++ [o], hlt, rfl, hE2, nodup_ins hn, fun x => ?_, by rw [List.length_append, List.length_singleton]; omega, .inr (by omega), hK.trans hK2 (fun i h _ => h) (fun i h hl => ?_), by rw [hyr]; exact hJ, rfl⟩
      · rw [mem_ins, hmem x, List.mem_append, List.mem_singleton]
      · simp only [List.mem_cons, List.not_mem_nil, or_false] at h ⊢
        rcases h with h | h | h
        · exact .inl h
        · exact .inr (.inl h)
        · rcases hi with hi | hi
          · exact .inr (.inr (h.trans hi))
          · omega
    · have kd2 : ((j : Int) == ((hints.length - 1 : Nat) : Int)) = true := by simp; omega
      rw [List.drop_eq_nil_of_le hlast, justP, Int.toNat_natCast, hc] at hJ
      simp only [go_sem, List.length_map, w5, kd2, Try.results69]
      rw [hJ]
      exact ⟨_, _, Weak.refl _ _ _ _, h _ is' S' T' hE hn (fun x hx => (hmem x).1 hx) (by omega) hi hK⟩
  · have hd : decide ((j : Int) < (hints.length : Int)) = false := decide_eq_false (by omega)
    simp only [go_sem, List.length_map, hd, Try.results69]
    rw [List.drop_eq_nil_of_le hge, justP] at hJ
    rw [hJ]
    exact ⟨_, _, Weak.refl _ _ _ _, h _ is' S' T' hE hn (fun x hx => (hmem x).1 hx) (by omega) hi hK⟩
end Go.Proofs.Ytpmjdaiboniagaa
