/- The checker's Check. -/
import Derived.Test.YtpmjdaiboniagaaC13
set_option linter.unusedSimpArgs false
set_option linter.unusedVariables false
set_option maxRecDepth 100000
namespace Go.Proofs.Ytpmjdaiboniagaa
open Go Go.Ab

/-- Steps of a size that the sorting takes. -/
structure Fine2 (f : Cnf) (l : List Stp) : Prop extends Fine f l where
  lits12 : ∀ s ∈ l, s.lits.length ≤ 12
theorem accepts_ac (f : Cnf) (l : List Stp) (hf : Fine2 f l) (hv : validC f = true) (k : Nat) (hk : k < l.length) (hb : ∀ t ∈ l.take k, ∀ x ∈ t.lits, -8000 ≤ x ∧ x ≤ 8000 ∧ x ≠ 0) {S T : List Int} {im ie is ip N : Nat} {w : Option TypeId} (σ : St) (hE : Ex σ ie im is f l (.rs ip 1 0 N w) S T)
    (hp : σ[ip]? = some (some (.cells (List.replicate N (A.d .nils))))) (hN : f.cls.length + l.length ≤ N) (hS : S.Nodup ∧ ∀ x ∈ S, x ∈ T) (hT : T.length < 300000) (G : Glob) (R : A → St → Prop)
    (h : ∀ σ' is' S' T', Ex σ' ie im is' f l (.rs ip 1 0 N w) S' T' → S'.Nodup → (∀ x ∈ S', x ∈ T') → T'.length < 300000 → (is' = is ∨ σ.length ≤ is') → Keeps [ie, im, is] σ σ' → R (db (goodR f (l.take k) (l.getD k ⟨[], []⟩))) σ') : AC Try.prog G 65 [.ref ie 0, dn k] σ R := by
  have hl := hf.steps
  have hc := hf.cls
  have hE0 := hE
  obtain ⟨he, hm, hs, n1, n2, n3, hpb⟩ := hE
  have hmem := getD_mem (⟨[], []⟩ : Stp) hk
  have hsl := hf.lits _ hmem
  have hs12 := hf.lits12 _ hmem
  have e1 := stpD_getD hk
  refine ac_enter mixed Try.func65 rfl Try.ntmps65 (by simp only [go_sem]) fun hbd => ?_
  simp only [List.length_cons, List.length_nil, Nat.reduceAdd, Nat.reduceSub, List.replicate_succ, List.replicate_zero, List.cons_append, List.nil_append]
  have w1 : IntKind.i64.wrap ((f.cls.length : Int) + (k : Int)) = ((f.cls.length + k : Nat) : Int) := by rw [wrap64_id _ (by omega) (by omega)]; omega
  have w2 := wrapS k (by omega)
  have hie := lt_of_some he
  have hip := lt_of_some hp
  have e3 : ((l.map stpD).take (k + 1)).drop k = [stpD (l.getD k ⟨[], []⟩)] := by
    rw [← List.map_take, ← List.map_drop, List.drop_take, Nat.add_sub_cancel_left, drop_getD ⟨[], []⟩ hk]; rfl
  simp only [go_sem, live_of he, objK_of he, live_of hp, w1, w2, clsD, stpsD, List.length_map, objK_apl, live_apl, hie, hip, e3]
  obtain ⟨s, hse⟩ : ∃ s, l.getD k ⟨[], []⟩ = s := ⟨_, rfl⟩
  rw [hse] at hs12 hsl h ⊢
  have hbelow : f.cls.length + k ≤ N := by omega
  refine ⟨⟨by omega, by omega⟩, ⟨by omega, by omega, by omega⟩, ac' (ac_pure (db (stepOk f.vars ((f.cls.length + k : Nat) : Int) s)) rfl (views2 (views_earlier (m := N) (by rw [List.getElem?_append_left hip]; exact hp) hbelow) (Views.d _))
    (pvalid_ac f.vars (List.replicate (f.cls.length + k) .nils) [s] (by rw [List.length_replicate]; omega) (by simp) (fun t ht => ?_) [] G _ ?_) ?_)⟩
  · simp only [List.mem_cons, List.not_mem_nil, or_false] at ht
    subst ht; exact ⟨hs12, by omega⟩
  · simp [stepsOk, stepOk]
  have htl : (l.take k).length = k := by rw [List.length_take]; omega
  rw [goodR, htl] at h
  cases hg : stepOk f.vars ((f.cls.length + k : Nat) : Int) s with
  | false =>
    rw [hg] at h
    simp only [go_sem, Try.results65]
    refine exs ?_
    simp only [go_sem, Try.results65]
    exact ⟨_, _, Weak.refl _ _ _ _, h _ is S T ⟨by rw [List.getElem?_append_left hie]; exact he, by rw [List.getElem?_append_left (lt_of_some hm)]; exact hm, by rw [List.getElem?_append_left (lt_of_some hs)]; exact hs, n1, n2, n3, A.bd_mono (by simp) _ hpb⟩ hS.1 hS.2 hT (.inl rfl)
      ⟨by simp, fun id hid _ => List.getElem?_append_left hid⟩⟩
  | true =>
    rw [hg] at h
    simp only [go_sem]
    refine exs ?_
    simp only [go_sem]
    have hlits := hg
    simp only [stepOk, Bool.and_eq_true] at hlits
    obtain ⟨hv1, hv2⟩ := validC_iff.1 hv
    have hE1 : Ex (σ ++ [some (Ob.cells [A.d (iD f.vars), A.rs ip 1 0 (f.cls.length + k) w])]) ie im is f l (.rs ip 1 0 N w) S T :=
      ⟨by rw [List.getElem?_append_left hie]; exact he, by rw [List.getElem?_append_left (lt_of_some hm)]; exact hm, by rw [List.getElem?_append_left (lt_of_some hs)]; exact hs, n1, n2, n3, A.bd_mono (by simp) _ hpb⟩
    refine ac' (exjust_ac f l k (by omega) (by omega) hk (fun n hn => ?_) (by rw [hse]; omega) (by rw [hse]; omega) (fun x hx => ?_) (fun x hx => ?_) _ hE1 hS hT _ _ fun σ' is' S' T' hE' hn' hs' hT' hi' hK' => ?_)
    · rw [hse] at hn
      have := hintsOk_range hlits.2 _ hn
      rw [← clauseAt_take (k := k) (by omega)]
      exact ⟨clauseAt_all (p := fun c => c.length ≤ reachBytes) (Nat.zero_le _) hf.len (fun t ht => by have := hf.lits t (List.mem_of_mem_take ht); simp only [reachBytes]; omega) n,
        clauseAt_all (p := fun c => ∀ x ∈ c, -8000 ≤ x ∧ x ≤ 8000) (fun x hx => by cases hx) (fun c hc x hx => by have := hv2 c hc x hx; omega) (fun t ht x hx => by have := hb t ht x hx; omega) n⟩
    · rw [hse] at hx
      have := litsFrom_range hsl.2.2 hlits.1 x hx; omega
    · rw [hse] at hx
      have := hintsOk_range hlits.2 x hx; omega
    simp only [go_sem, Try.results65]
    have hJ : justP (clauseAt f.cls l) (negs s.lits) s.hints = justR (clauseAt f.cls (l.take k)) (negs s.lits) s.hints := by
      rw [← just_eq hv hsl.2.2 hb (by rw [htl]; exact hg)]
      exact justP_congr fun x hx => by
        have := hintsOk_range hlits.2 x hx
        rw [clauseAt_take (by omega)]
    rw [hse, hJ]
    refine ⟨_, _, Weak.refl _ _ _ _, h _ is' S' T' hE' hn' hs' hT' ?_ ⟨?_, fun id hid hx => ?_⟩⟩
    · rcases hi' with hi' | hi'
      · exact .inl hi'
      · simp at hi'; exact .inr (by omega)
    · have := hK'.1
      simp at this; omega
    · rw [hK'.2 id (by simp; omega) hx, List.getElem?_append_left hid]
theorem first_ac (f : Cnf) (l : List Stp) (hf : Fine2 f l) (hv : validC f = true) {S T : List Int} {im ie is ip N : Nat} {w : Option TypeId} (σ : St) (hE : Ex σ ie im is f l (.rs ip 1 0 N w) S T) (hip : ip ≠ ie ∧ ip ≠ im ∧ ip ≠ is)
    (hp : σ[ip]? = some (some (.cells (List.replicate N (A.d .nils))))) (hN : f.cls.length + l.length ≤ N) (hS : S.Nodup ∧ ∀ x ∈ S, x ∈ T) (hT : T.length < 300000) (G : Glob) (R : A → St → Prop)
    (h : ∀ σ', Keeps [ie, im, is] σ σ' → R (di (chkFrom (goodR f) l 0 l).1) σ') : AC Try.prog G 64 [.ref ie 0, dn l.length, .fn (.func 65) [] []] σ R := by
  have hl := hf.steps
  have hpl := lt_of_some hp
  refine ac_enter mixed Try.func64 rfl Try.ntmps64 (by simp only [go_sem]) fun hbd => ?_
  simp only [List.length_cons, List.length_nil, Nat.reduceAdd, Nat.reduceSub, List.replicate_succ, List.replicate_zero, List.cons_append, List.nil_append]
  simp only [go_sem]
  refine aw_loop (fun m fr st => ∃ (j is' : Nat) (S' T' : List Int), j ≤ l.length ∧ m = l.length - j ∧ Ex st ie im is' f l (.rs ip 1 0 N w) S' T' ∧ S'.Nodup ∧ (∀ x ∈ S', x ∈ T') ∧ T'.length < 300000 ∧ (is' = is ∨ σ.length ≤ is') ∧ Keeps [ie, im, is] σ st ∧
    (∀ t ∈ l.take j, ∀ x ∈ t.lits, -8000 ≤ x ∧ x ≤ 8000 ∧ x ≠ 0) ∧ (∀ σ', Keeps [ie, im, is] σ σ' → R (di (chkFrom (goodR f) l j (l.drop j)).1) σ') ∧ fr = [.ref ie 0, .any, .fn (.func 65) [] [], .any, .any, .any, .any, .any, dn l.length, dn j, .any, .any, .any, .any, .any, .any, .any, .any, .any]) l.length _
    (Wk.mask [0, 2, 8, 9] ⟨0, is, S, T, by omega, rfl, hE, hS.1, hS.2, hT, .inl rfl, Keeps.refl _ _, by simp, h, rfl⟩) ?_
  clear h hE hS hT
  rintro m fr st ⟨j, is', S', T', hj, hm, hE, hn, hsub, hT, hi, hK, hall, hR, rfl⟩
  rcases Nat.lt_or_ge j l.length with hlt | hge
  · have hd : decide ((j : Int) < (l.length : Int)) = true := decide_eq_true (by omega)
    have w2 := wrapS j (by omega)
    have hp' : st[ip]? = some (some (.cells (List.replicate N (A.d .nils)))) := by
      rw [hK.2 ip hpl (by simp; omega)]; exact hp
    rw [drop_getD ⟨[], []⟩ hlt, chkFrom] at hR
    have hmem := getD_mem (⟨[], []⟩ : Stp) hlt
    have hw := (hf.lits _ hmem).2.2
    have htk : l.take (j + 1) = l.take j ++ [l.getD j ⟨[], []⟩] := by
      rw [List.take_add_one, List.getD_eq_getElem?_getD, List.getElem?_eq_getElem hlt]; rfl
    simp only [go_sem, hd, w2]
    refine ac' (accepts_ac f l hf hv j hlt hall st hE hp' hN ⟨hn, hsub⟩ hT _ _ fun σ' is2 S2 T2 hE2 hn2 hs2 hT2 hi2 hK2 => ?_)
    have hKK : Keeps [ie, im, is] σ σ' := hK.trans hK2 (fun i h _ => h) (fun i h hl => by
      simp only [List.mem_cons, List.not_mem_nil, or_false] at h ⊢
      rcases h with h | h | h
      · exact .inl h
      · exact .inr (.inl h)
      · rcases hi with hi | hi
        · exact .inr (.inr (h.trans hi))
        · omega)
    have hst := hK.1
    simp only [go_sem, w2, Try.results64]
    refine ⟨fun hb => ⟨_, _, Weak.refl _ _ _ _, ?_⟩, fun hb => Wk.mask [0, 2, 8, 9] ⟨l.length - (j + 1), by omega, j + 1, is2, S2, T2, hlt, rfl, hE2, hn2, hs2, hT2, ?_, hKK, ?_, ?_, rfl⟩⟩
    · simp only [Bool.not_eq_true'] at hb
      rw [hb] at hR
      exact hR _ hKK
    · rcases hi2 with hi2 | hi2
      · rw [hi2]; exact hi
      · exact .inr (by omega)
    · simp only [Bool.not_eq_false', goodR, Bool.and_eq_true, stepOk] at hb
      rw [htk]
      intro t ht
      rcases List.mem_append.1 ht with ht | ht
      · exact hall t ht
      · rw [List.mem_singleton.1 ht]
        intro x hx
        have := litsFrom_range hw hb.1.1 x hx
        have := (validC_iff.1 hv).1
        omega
    · simp only [Bool.not_eq_false'] at hb
      rw [hb, if_pos rfl] at hR
      exact hR
  · have hd : decide ((j : Int) < (l.length : Int)) = false := decide_eq_false (by omega)
    simp only [go_sem, hd, Try.results64]
    rw [List.drop_eq_nil_of_le hge, chkFrom] at hR
    exact ⟨_, _, Weak.refl _ _ _ _, hR _ hK⟩
theorem chkFrom_iff {good : List Stp → Stp → Bool} {l : List Stp} : ∀ {k : Nat} {r : List Stp}, chkFrom good l k r = (-1, 0) ∨ ∃ n : Nat, chkFrom good l k r = ((n : Int), 260)
  | k, [] => .inl rfl
  | k, s :: r => by
    simp only [chkFrom]
    split
    · exact chkFrom_iff
    · exact .inr ⟨k, rfl⟩
theorem check_ac (f : Cnf) (l : List Stp) (hf : Fine2 f l) (σ : St) (G : Glob) (R : A → St → Prop) (h : R (.tup [di (chk (goodR f) f l).1, di (chk (goodR f) f l).2]) σ) : AC Try.prog G 37 [.d (cnfD f), .d (stpsD l)] σ R := by
  have hl := hf.steps
  have hc := hf.cls
  refine ac_enter mixed Try.func37 rfl Try.ntmps37 (by simp only [go_sem]) fun hbd => ?_
  simp only [List.length_cons, List.length_nil, Nat.reduceAdd, Nat.reduceSub, List.replicate_succ, List.replicate_zero, List.cons_append, List.nil_append]
  simp only [cnfD, go_sem]
  refine ac' (cvalid_ac f hf.vars (by simp only [reachBytes]; omega) hf.len _ _ _ ?_)
  have d1 : decide ((20000 : Int) < (l.length : Int)) = false := decide_eq_false (by omega)
  simp only [stpsD, go_sem, List.length_map, d1, Try.results37]
  refine ⟨fun hv => ?_, fun hv => ?_⟩
  · simp only [Bool.not_eq_true'] at hv
    rw [chk, if_pos (by simp [hv])] at h
    exact ret_bd hbd rfl h
  simp only [Bool.not_eq_false'] at hv
  rw [chk, if_neg (by simp [hv]), if_neg (by omega)] at h
  refine ac' (newEx_ac f l _ _ _ ?_)
  have w5 : IntKind.i64.wrap ((f.cls.length : Int) + (l.length : Int)) = ((f.cls.length + l.length : Nat) : Int) := by rw [wrap64_id _ (by omega) (by omega)]; omega
  simp only [clsD, go_sem, List.length_map, w5, exam]
  rw [List.flatten_replicate_singleton]
  refine ⟨⟨by omega, by omega, by omega, by omega⟩, ac' (ac_weak (Weak.emptyIn (σ := σ) 2 5 1 (some 3) rfl rfl) ?_)⟩
  refine first_ac f l hf hv (S := []) (T := []) (im := σ.length + 1) (ie := σ.length + 2) (is := σ.length + 4) (ip := σ.length + 3) (N := f.cls.length + l.length) (w := some 25) _
    ⟨at_own 2 rfl, at_own 1 rfl, at_own 4 rfl, by omega, by omega, by omega, by simp [A.bd]⟩ ⟨by omega, by omega, by omega⟩ (at_own 3 rfl) (Nat.le_refl _) ⟨by simp, by simp⟩ (by simp) _ _ fun σ' hK => ?_
  obtain ⟨hK1, hK2⟩ := hK
  have hσ : σ' = σ ++ σ'.drop σ.length := by
    have : σ'.take σ.length = σ := by
      apply List.ext_getElem?
      intro i
      rw [List.getElem?_take]
      split
      · rename_i hi
        rw [hK2 i (by simp; omega) (by simp; omega), List.getElem?_append_left hi]
      · rename_i hi
        rw [List.getElem?_eq_none (by omega)]
    conv => lhs; rw [← List.take_append_drop σ.length σ', this]
  rw [hσ]
  rcases chkFrom_iff (good := goodR f) (l := l) (k := 0) (r := l) with he | ⟨n, he⟩
  · rw [he] at h ⊢
    simp only [go_sem, show decide ((0 : Int) ≤ -1) = false from rfl, Try.results37]
    exact ret_bd hbd rfl h
  · rw [he] at h ⊢
    have d2 : decide ((0 : Int) ≤ (n : Int)) = true := decide_eq_true (by omega)
    simp only [go_sem, d2, Try.results37]
    exact ret_bd hbd rfl h
theorem refutes_ac (f : Cnf) (l : List Stp) (hf : Fine2 f l) (σ : St) (G : Glob) (R : A → St → Prop) (h : R (db (refutes (chk (goodR f) f l) l)) σ) : AC Try.prog G 39 [.d (cnfD f), .d (stpsD l)] σ R := by
  refine ac_enter mixed Try.func39 rfl Try.ntmps39 (by simp only [go_sem]) fun hbd => ?_
  simp only [List.length_cons, List.length_nil, Nat.reduceAdd, Nat.reduceSub, List.replicate_succ, List.replicate_zero, List.cons_append, List.nil_append]
  have hl := hf.steps
  simp only [cnfD, stpsD, go_sem, List.length_map]
  refine ac' (check_ac f l hf _ _ _ ?_)
  rw [refutes] at h
  obtain ⟨r, hr⟩ : ∃ r, chk (goodR f) f l = r := ⟨_, rfl⟩
  rw [hr] at h ⊢
  rcases Nat.eq_zero_or_pos l.length with h0 | h0
  · have d0 : decide ((0 : Int) < (l.length : Int)) = false := decide_eq_false (by omega)
    simp only [go_sem, List.length_map, d0, Try.results39]
    rw [d0, Bool.and_false, Bool.false_and] at h
    refine rdLen_tot _ (fun _ n => ?_) ?_
    · simp only [go_sem]
      exact ret_bd hbd rfl h
    · simp only [go_sem]
      exact ret_bd hbd rfl h
  · have w1 : IntKind.i64.wrap ((l.length : Int) - 1) = ((l.length - 1 : Nat) : Int) := by rw [wrap64_id _ (by omega) (by omega)]; omega
    have e1 := stpD_getD (l := l) (j := l.length - 1) (by omega)
    have d0 : decide ((0 : Int) < (l.length : Int)) = true := decide_eq_true (by omega)
    simp only [go_sem, List.length_map, w1, d0, isD, e1, Try.results39]
    rw [d0, Bool.and_true] at h
    exact ⟨fun hh => ⟨hh, by omega, by omega⟩, ret_bd hbd rfl h⟩
/-- Is a step good behind others? -/
def stepG (f : Cnf) (before : List Stp) (s : Stp) : Bool := validC f && (stepsOk f.vars f.cls.length before && goodR f before s)
theorem stepsOk_append {v : Int} : ∀ {n : Nat} {l r : List Stp}, stepsOk v n (l ++ r) = (stepsOk v n l && stepsOk v (n + l.length) r)
  | n, [], r => by simp [stepsOk]
  | n, s :: l, r => by simp [stepsOk, stepsOk_append (l := l), Bool.and_assoc, Nat.add_assoc, Nat.add_comm 1]
theorem stepsOk_range {v : Int} : ∀ {n : Nat} {l : List Stp}, stepsOk v n l = true → ∀ s ∈ l, (∀ x ∈ s.lits, I64 x) → ∀ x ∈ s.lits, -v ≤ x ∧ x ≤ v ∧ x ≠ 0
  | n, [], _, s, hs => by cases hs
  | n, t :: l, h, s, hs => by
    simp only [stepsOk, stepOk, Bool.and_eq_true] at h
    rcases List.mem_cons.1 hs with rfl | hs
    · exact fun hw => litsFrom_range hw h.1.1
    · exact stepsOk_range h.2 s hs
theorem stp_cells (l : List Stp) : ∀ x ∈ l.map stpD, x.cells.length = 2 ∧ ∀ y ∈ x.cells, y.one = true := fun x hx => by
  obtain ⟨s, _, rfl⟩ := List.mem_map.1 hx
  exact ⟨rfl, fun y hy => by simp [stpD, D.cells] at hy; rcases hy with rfl | rfl <;> rfl⟩
theorem flat_stps (l : List Stp) : (flat (l.map stpD)).length = l.length * 2 := by rw [flat_len fun x hx => (stp_cells l x hx).1, List.length_map]
theorem step_ac (f : Cnf) (l : List Stp) (s : Stp) (hf : Fine2 f (l ++ [s])) (σ : St) (G : Glob) (R : A → St → Prop) (h : R (db (stepG f l s)) σ) : AC Try.prog G 41 [.d (cnfD f), .d (stpsD l), .d (stpD s)] σ R := by
  refine ac_enterC' [4] mixed Try.func41 rfl Try.ntmps41 (by simp only [go_sem]) fun hbd => ?_
  simp only [List.length_cons, List.length_nil, Nat.reduceAdd, Nat.reduceSub, List.replicate_succ, List.replicate_zero, List.cons_append, List.nil_append]
  have hl := hf.steps
  have hc := hf.cls
  rw [List.length_append, List.length_singleton] at hl
  have d1 : decide ((20000 : Int) ≤ (l.length : Int)) = false := decide_eq_false (by omega)
  simp only [cnfD, stpsD, stpD, isD, go_sem, List.length_map, d1]
  refine ex' (.bool (validC f)) ⟨fun _ => ?_, ?_⟩
  · simp only [go_sem]
    exact ac' (cvalid_ac f hf.vars (by simp only [reachBytes]; omega) hf.len _ _ _ ⟨rfl, rfl⟩)
  simp only [go_sem, Try.results41]
  rw [stepG] at h
  refine ⟨fun hv => ?_, fun hv => ?_⟩
  · simp only [Bool.not_eq_true'] at hv
    rw [hv] at h
    exact ret_d hbd h
  simp only [Bool.not_eq_false'] at hv
  rw [hv, Bool.true_and] at h
  refine aw_cut (fun fr st => fr = [.any, .d (stpsD l), .any, .ref σ.length 0, .any, .any, .any, .d (stpsD (l ++ [s])), .any, .any, .any, .any, .any, .any, .any, .any, .any, .any, .any, .any, .any, .any, .any, .any, .any, .any, .any, .any, .any, .any, .any, .any] ∧ st = σ ++ [some (.cells [.d (iD f.vars), .d (clsD f.cls)])]) ?_ ?_
  · refine aw_plan (Plan.take 1
  (Plan.alt 0
    (Plan.alt 2 (Plan.take 3 (Plan.take 4 (Plan.take 5 (Plan.take 6 Plan.done))))
      (Plan.alt 3
        (Plan.alt 2 (Plan.take 4 (Plan.take 5 (Plan.take 6 Plan.done)))
          (Plan.alt 4 (Plan.take 2 (Plan.take 5 (Plan.take 6 Plan.done))) Plan.stop))
        Plan.stop))
    (Plan.alt 3
      (Plan.alt 0
        (Plan.alt 2 (Plan.take 4 (Plan.take 5 (Plan.take 6 Plan.done)))
          (Plan.alt 4 (Plan.take 2 (Plan.take 5 (Plan.take 6 Plan.done))) Plan.stop))
        (Plan.alt 4 (Plan.take 0 (Plan.take 2 (Plan.take 5 (Plan.take 6 Plan.done)))) Plan.stop))
      Plan.stop))) (by kernel_rfl) ?_
    simp only [stpsD, stpD, isD, go_sem, List.length_map, flat_stps]
    repeat' apply And.intro
    all_goals first
      | omega
      | (simp only [maxLen]; omega)
      | (refine Wk.pre [1, 3, 7] ?_
         simp only [go_sem]
         refine Wk.frz 5 2 0 ((l ++ [s]).map stpD) rfl ?_ ?_
         · have := lies_of (stp_cells (l ++ [s]))
           rw [List.map_append, flat_append] at this
           rw [List.map_append]
           exact this
         · simp only [go_sem, List.length_map, List.map_append]
           exact Wk.keep [1, 3, 7] [0] (by decide) (Nat.le_refl _) hbd ⟨by simp only [go_sem], by simp only [go_sem]⟩)
  · rintro fr st ⟨rfl, rfl⟩
    simp only [stpsD, stpD, isD, go_sem, List.length_map]
    have hlen : (l ++ [s]).length = l.length + 1 := by simp
    refine ac' (pvalid_ac f.vars (f.cls.map isD) (l ++ [s]) (by rw [List.length_map]; omega) (by omega) (fun t ht => ⟨hf.lits12 t ht, by have := hf.lits t ht; omega⟩) _ _ _ ?_)
    have d2 : decide ((20000 : Int) < ((l ++ [s]).length : Int)) = false := decide_eq_false (by omega)
    rw [d2, Bool.not_false, Bool.true_and, List.length_map, stepsOk_append]
    simp only [stepsOk, Bool.and_true]
    cases h1 : stepsOk f.vars f.cls.length l with
    | false =>
      rw [h1] at h
      simp only [go_sem, Try.results41]
      exact ret_d hbd h
    | true =>
    rw [h1, Bool.true_and, goodR] at h
    cases h2 : stepOk f.vars ((f.cls.length + l.length : Nat) : Int) s with
    | false =>
      rw [h2] at h
      simp only [go_sem, Try.results41]
      exact ret_d hbd h
    | true =>
    rw [h2, Bool.true_and] at h
    simp only [stpsD, go_sem, List.length_map]
    refine ac' (newEx_ac f (l ++ [s]) _ _ _ ?_)
    simp only [stpsD, clsD, go_sem, List.length_map, exam]
    refine ac' (ac_weak (Weak.emptyIn (σ := σ) 2 5 1 (some 3) rfl rfl) ?_)
    have hget : (l ++ [s]).getD l.length ⟨[], []⟩ = s := by simp [List.getD_eq_getElem?_getD]
    have hlits := h2
    simp only [stepOk, Bool.and_eq_true] at hlits
    obtain ⟨hv1, hv2⟩ := validC_iff.1 hv
    have hw : ∀ t ∈ l, ∀ x ∈ t.lits, I64 x := fun t ht => (hf.lits t (by simp [ht])).2.2
    have hb : ∀ t ∈ l, ∀ x ∈ t.lits, -8000 ≤ x ∧ x ≤ 8000 ∧ x ≠ 0 := fun t ht x hx => by
      have := stepsOk_range h1 t ht (hw t ht) x hx; omega
    have hsl := hf.lits s (by simp)
    have htk : (l ++ [s]).take l.length = l := by simp
    refine exjust_ac f (l ++ [s]) l.length (by omega) (by omega) (by omega) (fun n hn => ?_) (by rw [hget]; omega) (by rw [hget]; omega) (fun x hx => ?_) (fun x hx => ?_) (S := []) (T := []) (im := σ.length + 1) (ie := σ.length + 2) (is := σ.length + 3) (pl := .d .nils) _
      ⟨at_own 2 rfl, at_own 1 rfl, at_own 3 rfl, by omega, by omega, by omega, rfl⟩ ⟨by simp, by simp⟩ (by simp) _ _ fun σ' is' S' T' hE' hn' hs' hT' hi' hK => ?_
    · rw [hget] at hn
      have := hintsOk_range hlits.2 _ hn
      rw [← clauseAt_take (k := l.length) (by omega), htk]
      exact ⟨clauseAt_all (p := fun c => c.length ≤ reachBytes) (Nat.zero_le _) hf.len (fun t ht => by have := hf.lits t (by simp [ht]); simp only [reachBytes]; omega) n,
        clauseAt_all (p := fun c => ∀ x ∈ c, -8000 ≤ x ∧ x ≤ 8000) (fun x hx => by cases hx) (fun c hc x hx => by have := hv2 c hc x hx; omega) (fun t ht x hx => by have := hb t ht x hx; omega) n⟩
    · rw [hget] at hx
      have := litsFrom_range hsl.2.2 hlits.1 x hx; omega
    · rw [hget] at hx
      have := hintsOk_range hlits.2 x hx; omega
    obtain ⟨hK1, hK2⟩ := hK
    have hσ : σ' = σ ++ σ'.drop σ.length := by
      have : σ'.take σ.length = σ := by
        apply List.ext_getElem?
        intro i
        rw [List.getElem?_take]
        split
        · rename_i hi
          rw [hK2 i (by simp; omega) (by simp; omega), List.getElem?_append_left hi]
        · rename_i hi
          rw [List.getElem?_eq_none (by omega)]
      conv => lhs; rw [← List.take_append_drop σ.length σ', this]
    rw [hσ, hget]
    have hJ : justP (clauseAt f.cls (l ++ [s])) (negs s.lits) s.hints = justR (clauseAt f.cls l) (negs s.lits) s.hints := by
      rw [← just_eq hv hsl.2.2 hb h2]
      refine justP_congr fun x hx => ?_
      have := hintsOk_range hlits.2 x hx
      rw [← clauseAt_take (k := l.length) (by omega), htk]
    rw [hJ]
    simp only [go_sem, Try.results41]
    exact ret_d hbd h
end Go.Proofs.Ytpmjdaiboniagaa
