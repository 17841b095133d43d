import Derived.Test.YtnanofipjiclfaaZ84
import Derived.Test.YtnanofipjiclfaaZ83

section PartT23
/- propagate. -/
set_option linter.unusedSimpArgs false
set_option linter.unusedVariables false
set_option maxRecDepth 100000
namespace Go.Proofs.Ytnanofipjiclfaa
open Go Go.Ab
variable {I : Sl → Nat} {S : Sv} {σ : St}

theorem open_ac {st : St} (hS : Sol I S st) (hs : Sh S) (ib : Nat) (hb : st[ib]? = some (some (.cells [.ref (I .st) 0]))) (l : Int) (hl : LitV S.vars l) (G : Glob) (R : A → St → Prop) (h : R (db (!S.tr (-l))) st) : AC Try.prog G 58 [di l, .ref ib 0] st R := by
  have hv := hs.vars
  have hl2 := hl
  unfold LitV at hl2
  refine ac_enter' mixed Try.func58 rfl Try.ntmps58 (by simp only [go_sem]) fun hbd => ?_
  simp only [List.length_cons, List.length_nil, Nat.reduceAdd, Nat.reduceSub, List.replicate_succ, List.replicate_zero, List.cons_append, List.nil_append]
  have w1 : IntKind.i64.wrap (0 - l) = -l := by rw [wrap64_id _ (by omega) (by omega)]; omega
  have hc : code (-l) < S.truth.length := by rw [hs.truth]; exact hl.neg.codeLt
  simp only [go_sem, Try.results58]
  refine aw_plan (.tk 2 4 <| .pure 6 <| .tk 4 0 <| .tk 4 7 <| .done) (by kernel_rfl) ?_
  simp only [go_sem, w1, Try.results58]
  refine exP (dn (code (-l))) ⟨fun σ' => ?_, ?_⟩
  · simp only [go_sem, Try.results58]
    exact ac' (code_ac (-l) (hl.neg.big hv) _ _ _ ⟨rfl, rfl⟩)
  simp only [go_sem, live_of hb, objK_of hb, hS.live .st, hS.ob .st, hS.live .truth, hS.ob .truth, ct, boolsA_len, boolsA_get hc, Nat.mul_one, Try.results58]
  unfold Sv.tr at h
  exact ⟨⟨by omega, by omega⟩, hc, ret_d0 h⟩
theorem index_ac {st : St} (hS : Sol I S st) (hs : Sh S) (ib : Nat) (hb : st[ib]? = some (some (.cells [.ref (I .st) 0]))) (lits : List Int) (hl : ∀ l ∈ lits, LitV S.vars l) (hn : lits.length ≤ 1000000) (hx : lits.findIdx (fun l => !S.tr (-l)) < lits.length) (G : Glob) (R : A → St → Prop) (h : R (dn (lits.findIdx fun l => !S.tr (-l))) st) : AC Try.prog G 57 [.d (isD lits), .fn (.func 58) [] [.ref ib 0]] st R := by
  unfold isD
  refine ac_enter mixed Try.func57 rfl Try.ntmps57 (by simp only [go_sem]) fun hbd => ?_
  simp only [List.length_cons, List.length_nil, Nat.reduceAdd, Nat.reduceSub, List.replicate_succ, List.replicate_zero, List.cons_append, List.nil_append]
  simp only [go_sem, List.length_map, Try.results57]
  refine aw_loop (fun q fr σ => ∃ j : Nat, j ≤ lits.findIdx (fun l => !S.tr (-l)) ∧ q = lits.length - j ∧ fr = [.d (isD lits), .fn (.func 58) [] [.ref ib 0], .any, .any, .any, .any, .any, dn lits.length, dn j, .any, .any, .any, .any, .any, .any, .any, .any, .any, .any] ∧ σ = st) lits.length _ (Wk.mask [0, 1, 7, 8] ⟨0, by omega, by omega, rfl, rfl⟩) ?_
  rintro q fr σ ⟨j, hj, hq, rfl, rfl⟩
  have hjl : j < lits.length := by omega
  have d1 : decide ((j : Int) < (lits.length : Int)) = true := decide_eq_true (by omega)
  have w1 := wrapS j (by omega)
  have hlv := hl _ (getD_mem 0 hjl)
  have g0 : List.getD (lits.map iD) j default = iD (lits.getD j 0) := getD_mapD hjl
  have gj : lits.getD j 0 = lits[j] := by rw [List.getD_eq_getElem?_getD, List.getElem?_eq_getElem hjl]; rfl
  unfold isD
  simp only [go_sem, d1, g0, List.length_map, Try.results57]
  refine ⟨by omega, ac' (open_ac hS hs ib hb _ hlv _ _ ?_)⟩
  simp only [go_sem, w1, Try.results57]
  refine ⟨fun c => ?_, fun c => ?_⟩
  · have he : j = lits.findIdx fun l => !S.tr (-l) := by
      rcases Nat.lt_or_ge j (lits.findIdx fun l => !S.tr (-l)) with hlt | hge
      · have := List.not_of_lt_findIdx hlt
        rw [← gj] at this
        simp at c this
        rw [this] at c
        cases c
      · omega
    rw [← he] at h
    exact ret_d0 h
  · have hne : j ≠ lits.findIdx fun l => !S.tr (-l) := fun e => by
      have := List.findIdx_getElem (xs := lits) (p := fun l => !S.tr (-l)) (w := hx)
      simp only [← e, ← gj] at this
      rw [this] at c
      simp at c
    exact Wk.mask [0, 1, 7, 8] ⟨lits.length - (j + 1), by omega, j + 1, by omega, rfl, rfl, rfl⟩
/-- A cell with the solver lies behind the solver's objects. -/
structure Bx (I : Sl → Nat) (S : Sv) (σ : St) (I' : Sl → Nat) (S' : Sv) (st : St) : Prop where
  sol : Sol I' S' st
  stp : Stp Any I S (σ ++ [some (.cells [.ref (I .st) 0])]) I' st
  occ : SameOcc S S'
theorem Bx.new (hS : Sol I S σ) : Bx I S σ I S (σ ++ [some (.cells [.ref (I .st) 0])]) := ⟨hS.app _, Stp.refl _ _ _ _, rfl⟩
theorem Bx.box {I' : Sl → Nat} {S' : Sv} {st : St} (h : Bx I S σ I' S' st) (hS : Sol I S σ) : st[σ.length]? = some (some (.cells [.ref (I' .st) 0])) ∧ ∀ s, has S' s → I' s ≠ σ.length := by
  refine ⟨?_, fun s hs' => ?_⟩
  · rw [h.stp.keep _ (by simp) fun s hs => by have := hS.lt s hs; omega]
    rw [List.getElem?_append_right (Nat.le_refl _), Nat.sub_self, h.stp.st]; rfl
  · have hs := (h.occ.has s).2 hs'
    rcases h.stp.ids s with e | e
    · rw [e]
      have := hS.lt s hs
      omega
    · have := e.1
      simp at this
      omega
theorem Bx.on {I' : Sl → Nat} {S' S'' : Sv} {st st' : St} {I'' : Sl → Nat} (h : Bx I S σ I' S' st) (hS : Sol I'' S'' st') (ho : SameOcc S' S'') (ht : Stp Any I' S' st I'' st') : Bx I S σ I'' S'' st' :=
  ⟨hS, h.stp.trans h.occ.has ht, Eq.trans (b := S'.occ.length) ho h.occ⟩
theorem assign_occ {S : Sv} (g : Gd S) {l reason : Int} (hl : LitV S.vars l) : SameOcc S (S.assign l reason).1 := by
  by_cases h0 : S.left = 0
  · unfold Sv.assign; rw [if_pos h0]; exact rfl
  · have := (assign_asg (reason := reason) g hl h0).2.1.occ
    show (S.assign l reason).1.occ.length = _
    rw [this]
set_option maxHeartbeats 8000000 in
theorem propagate_ac (hS : Sol I S σ) (g : Gd S) (hleft : S.left ≤ 1000000000) (hq : S.queue.length ≤ 100000000) (n : Nat) (r : Sv × Int × Bool) (hr : Sv.prop n S = some r) (G : Glob) (R : A → St → Prop)
    (h : ∀ I' σ', Sol I' r.1 σ' → Stp Any I S σ I' σ' → SameOcc S r.1 → R (.tup [di r.2.1, db r.2.2]) σ') : AC Try.prog G 46 [.ref (I .st) 0] σ R := by
  refine ac_enterC' [3, 4, 7, 8] mixed Try.func46 rfl Try.ntmps46 (by simp only [go_sem]) fun hbd => ?_
  simp only [List.length_cons, List.length_nil, Nat.reduceAdd, Nat.reduceSub, List.replicate_succ, List.replicate_zero, List.cons_append, List.nil_append]
  simp only [go_sem, hS.live .st, Try.results46]
  refine aw_loop (fun q fr st => ∃ (n' : Nat) (I' : Sl → Nat) (S' : Sv), q = n' ∧ fr = [.any, .ref σ.length 0, .any, .any, .any, .any, .any, .any, .any, .any, .any, .any, .any, .any, .any, .any, .any, .any, .any, .any, .any, .any, .any, .any, .any, .any, .any, .any, .any, .any, .any, .any, .any, .any, .any, .any, .any, .any, .any, .any, .any, .any, .any, .any, .any, .any, .any, .any, .any, .any] ∧ Bx I S σ I' S' st ∧ Gd S' ∧ S'.left ≤ 1000000000 ∧ S'.queue.length ≤ 100000000 + 60000 * S'.trail.length ∧ Sv.prop n' S' = some r) n _ (Wk.mask [1] ⟨n, I, S, rfl, rfl, Bx.new hS, g, hleft, by omega, hr⟩) ?_
  rintro q fr st ⟨n', I', S', rfl, rfl, hP, hg, hleft', hql, hgo⟩
  obtain ⟨hb, hoff⟩ := hP.box hS
  have hS' := hP.sol
  cases q with
  | zero => unfold Sv.prop at hgo; cases hgo
  | succ n' =>
  have htl := hg.tlen
  have hv1 := hg.v1
  unfold Sv.prop at hgo
  cases hq' : S'.queue with
  | nil =>
    rw [hq'] at hgo
    simp only [Option.some.injEq] at hgo
    subst hgo
    have d0 : decide ((0 : Int) < ((0 : Nat) : Int)) = false := rfl
    simp only [go_sem, live_of hb, objK_of hb, hS'.live .st, hS'.ob .st, hS'.live .queue, ct, hq', d0, List.length_nil, Try.results46]
    exact ⟨_, _, Weak.refl _ _ _ _, h I' _ hS' hP.stp.pre hP.occ⟩
  | cons a t =>
    have hne : S'.queue ≠ [] := by rw [hq']; exact List.cons_ne_nil _ _
    obtain ⟨hg1, hio⟩ := hg.pop hne
    have hpl := hpop_len hne
    rw [hq'] at hgo
    simp only at hgo
    rw [← hq'] at hgo
    have d1 : decide ((0 : Int) < (S'.queue.length : Int)) = true := decide_eq_true (by have := List.length_pos_iff.2 hne; omega)
    have hpop := hpop_ac hS' hne (by omega)
    have hs1 : SameOcc S' { S' with queue := (Sv.hpop S'.queue).dropLast } := rfl
    generalize hid : (Sv.hpop S'.queue).getLastD 0 = id at hgo hio hpop
    have hio1 : okId { S' with queue := (Sv.hpop S'.queue).dropLast } id := hio
    have htr1 : ({ S' with queue := (Sv.hpop S'.queue).dropLast } : Sv).trail = S'.trail := rfl
    have hlf1 : ({ S' with queue := (Sv.hpop S'.queue).dropLast } : Sv).left = S'.left := rfl
    have hql1 : ({ S' with queue := (Sv.hpop S'.queue).dropLast } : Sv).queue.length + 1 = S'.queue.length := hpl
    clear hio
    generalize hS1 : ({ S' with queue := (Sv.hpop S'.queue).dropLast } : Sv) = S1 at hgo hg1 hpop hs1 hio1 htr1 hlf1 hql1
    simp only [go_sem, live_of hb, objK_of hb, hS'.live .st, hS'.ob .st, hS'.live .queue, ct, d1, Try.results46]
    refine aw_cut (fun fr st' => fr = [.any, .ref σ.length 0, .any, .any, dn id, .any, .any, .any, .any, .any, .any, .any, .any, .any, .any, .any, .any, .any, .any, .any, .any, .any, .any, .any, .any, .any, .any, .any, .any, .any, .any, .any, .any, .any, .any, .any, .any, .any, .any, .any, .any, .any, .any, .any, .any, .any, .any, .any, .any, .any] ∧ Bx I S σ I' S1 st') ?_ ?_
    · simp only [go_sem, live_of hb, objK_of hb, hS'.live .st, hS'.ob .st, hS'.live .queue, ct, d1, Try.results46]
      refine ac' (hpop _ _ fun σ' h1 h2 => ?_)
      simp only [go_sem, Try.results46]
      exact Wk.mask [1, 4] ⟨rfl, hP.on h1 hs1 h2.any⟩
    have hidl : id < 60000 := okId_lt hg1.na hg1.nl hio1
    clear hpop hb hoff hS' hg
    rintro fr st' ⟨rfl, hP1⟩
    obtain ⟨hb, hoff⟩ := hP1.box hS
    have hS1' := hP1.sol
    refine aw_cut (fun fr st => fr = [.any, .ref σ.length 0, .any, .any, dn id, .ref (I' (clS id)) (clI id * 3), .any, .any, .any, .any, .any, .any, .any, .any, .any, .any, .any, .any, .any, .any, .any, .any, .any, .any, .any, .any, .any, .any, .any, .any, .any, .any, .any, .any, .any, .any, .any, .any, .any, .any, .any, .any, .any, .any, .any, .any, .any, .any, .any, .any] ∧ st = st') ?_ ?_
    · simp only [go_sem, live_of hb, objK_of hb, Try.results46]
      refine ac' (at_ac hS1' id (by omega) hio1 _ _ ?_)
      simp only [go_sem, Try.results46]
      exact Wk.mask [1, 4, 5] ⟨rfl, rfl⟩
    rintro fr st ⟨rfl, rfl⟩
    have hc := hS1'.get (clS id) (has_cl S1 id)
    rw [ct_cl] at hc
    have hok' := hio1
    unfold okId at hok'
    have g1 := clsA_lits hok'
    have g2 := clsA_opn hok'
    have g3 := clsA_held hok'
    rw [← cl_eq] at g1 g2 g3
    have b1 : clI id * 3 + 1 < (clL S1 id).length * 3 := by omega
    have b2 : clI id * 3 + 2 < (clL S1 id).length * 3 := by omega
    have b0 : clI id * 3 < (clL S1 id).length * 3 := by omega
    have hnn := hg1.held_nonneg hio1
    by_cases hh : 0 < (S1.cl id).held
    · rw [if_pos hh] at hgo
      have d2 : decide (0 < (S1.cl id).held) = true := decide_eq_true hh
      simp only [go_sem, live_of hc, objK_of hc, clsA_len, g3, d2, Try.results46]
      exact ⟨b2, Wk.mask [1] ⟨n', Nat.lt_succ_self _, n', I', S1, rfl, rfl, hP1, hg1, by omega, by rw [htr1]; omega, hgo⟩⟩
    rw [if_neg hh] at hgo
    have d2 : decide (0 < (S1.cl id).held) = false := decide_eq_false hh
    by_cases ho : (S1.cl id).opn = 0
    · rw [if_pos ho, Option.some.injEq] at hgo
      subst hgo
      simp only [go_sem, live_of hc, objK_of hc, clsA_len, g2, g3, d2, ho, Try.results46]
      refine ⟨b2, aw_cut (fun fr st => False) ?_ fun fr st hF => hF.elim⟩
      have q0 : ((0 : Int) == 0) = true := rfl
      simp only [go_sem, live_of hc, objK_of hc, clsA_len, g2, g3, d2, ho, q0, Try.results46]
      exact ⟨b1, _, _, Weak.refl _ _ _ _, h I' _ hS1' hP1.stp.pre hP1.occ⟩
    rw [if_neg ho] at hgo
    have d3 : decide ((S1.cl id).opn = 0) = false := decide_eq_false ho
    have d3' : ((S1.cl id).opn == 0) = false := by simpa using ho
    simp only [go_sem, live_of hc, objK_of hc, clsA_len, g2, g3, d2, Try.results46]
    refine ⟨b2, aw_cut (fun fr st' => fr = [.any, .ref σ.length 0, .any, .any, dn id, .ref (I' (clS id)) (clI id * 3), .any, .any, .any, .any, .any, .any, .any, .any, .any, .any, .any, .any, .any, .any, .any, .any, .any, .any, .any, .any, .any, .any, .any, .any, .any, .any, .any, .any, .any, .any, .any, .any, .any, .any, .any, .any, .any, .any, .any, .any, .any, .any, .any, .any] ∧ st' = st) ?_ ?_⟩
    · simp only [go_sem, live_of hc, objK_of hc, clsA_len, g2, g3, d2, d3, d3', Try.results46]
      refine ⟨b1, Wk.mask [1, 4, 5] ⟨rfl, rfl⟩⟩
    rintro fr st ⟨rfl, rfl⟩
    have hlit := hg1.lits id hio1
    have hll := hg1.ll id hio1
    cases hfd : (S1.cl id).lits.find? (fun l => !S1.tr (-l)) with
    | none => rw [hfd] at hgo; cases hgo
    | some l =>
    rw [hfd] at hgo
    simp only at hgo
    have hlm := List.mem_of_find?_eq_some hfd
    have hlt := List.find?_some hfd
    have hlv := hlit l hlm
    have hfree : Free S1 l := ⟨(hg1.held_zero hio1).1 (by omega) l hlm, by simpa using hlt⟩
    have hix : (S1.cl id).lits.findIdx (fun l => !S1.tr (-l)) < (S1.cl id).lits.length := List.findIdx_lt_length_of_exists ⟨l, hlm, hlt⟩
    have hgx : (S1.cl id).lits.getD ((S1.cl id).lits.findIdx (fun l => !S1.tr (-l))) 0 = l := by
      have := List.find?_eq_getElem?_findIdx (p := fun l => !S1.tr (-l)) (xs := (S1.cl id).lits)
      rw [List.getD_eq_getElem?_getD, ← this, hfd]; rfl
    generalize hixe : (S1.cl id).lits.findIdx (fun l => !S1.tr (-l)) = ix at hix hgx
    refine aw_cut (fun fr st' => fr = [.any, .ref σ.length 0, .any, .any, dn id, .ref (I' (clS id)) (clI id * 3), dn ix, .any, .any, .any, .any, .any, .any, .any, .any, .any, .any, .any, .any, .any, .any, .any, .any, .any, .any, .any, .any, .any, .any, .any, .any, .any, .any, .any, .any, .any, .any, .any, .any, .any, .any, .any, .any, .any, .any, .any, .any, .any, .any, .any] ∧ st' = st) ?_ ?_
    · simp only [go_sem, live_of hc, objK_of hc, clsA_len, g1, Try.results46]
      refine ⟨b0, ac' (index_ac hS1' hg1.sh σ.length hb _ hlit hll (by rw [hixe]; exact hix) _ _ ?_)⟩
      rw [hixe]
      simp only [go_sem, Try.results46]
      exact Wk.mask [1, 4, 5, 6] ⟨rfl, rfl⟩
    rintro fr st ⟨rfl, rfl⟩
    have g4 : List.getD ((S1.cl id).lits.map iD) ix default = iD l := by rw [getD_mapD hix, hgx]
    have hcb := hg1.cb
    have o1 := hg1.occOk l
    have o2 := hg1.occOk (-l)
    have hol := hg1.occLen (code (-l))
    have htl1 := hg1.tlen
    have hv2 := hg1.v1
    simp only [go_sem, Try.results46]
    refine aw_plan (.tk 11 0 <| .done) (by kernel_rfl) ?_
    unfold isD at g1
    simp only [go_sem, live_of hb, objK_of hb, live_of hc, objK_of hc, clsA_len, g1, g4, List.length_map, Try.results46]
    refine ⟨b0, ⟨by omega, by omega⟩, ac' (assign_ac hS1' hg1.sh l hlv (id : Int) 1000 hcb (by omega) o1 o2 (by omega) (by omega) (by omega) _ _ fun I2 σ2 hS2 hT2 => ?_)⟩
    have ho2 : SameOcc S1 (S1.assign l (id : Int)).1 := assign_occ hg1 hlv
    have hg2 : S1.left ≠ 0 → Gd (S1.assign l (id : Int)).1 := fun h0 => hg1.assign hlv hfree h0
    have hf2 : S1.left ≠ 0 → (S1.assign l (id : Int)).1.trail.length = S1.trail.length + 1 ∧ (S1.assign l (id : Int)).1.left ≤ S1.left ∧ (S1.assign l (id : Int)).1.queue.length ≤ S1.queue.length + (S1.occ.getD (code (-l)) []).length := fun h0 => by
      obtain ⟨-, a, e1, -, -⟩ := assign_asg (reason := (id : Int)) hg1 hlv h0
      exact ⟨by rw [a.trail]; simp, by omega, a.nqueue⟩
    have hz2 : S1.left = 0 → (S1.assign l (id : Int)).2 = false := fun h0 => by unfold Sv.assign; rw [if_pos h0]
    generalize S1.assign l (id : Int) = p at hgo hS2 ho2 hg2 hf2 hz2 ⊢
    obtain ⟨S2, b⟩ := p
    have hP2 := hP1.on hS2 ho2 hT2
    cases b with
    | false =>
      simp only [Option.some.injEq] at hgo
      subst hgo
      simp only [go_sem, Try.results46]
      exact ⟨_, _, Weak.refl _ _ _ _, h I2 _ hS2 hP2.stp.pre hP2.occ⟩
    | true =>
      simp only at hgo hg2 hf2 hz2 hS2
      have h0 : S1.left ≠ 0 := fun e => by have := hz2 e; cases this
      obtain ⟨f1, f2, f3⟩ := hf2 h0
      simp only [go_sem, Try.results46]
      exact Wk.mask [1] ⟨n', Nat.lt_succ_self _, n', I2, S2, rfl, rfl, hP2, hg2 h0, by omega, by rw [f1, htr1]; omega, hgo⟩
end Go.Proofs.Ytnanofipjiclfaa
end PartT23

section PartQ7
/- Plain facts on the solver's model: what the trail is made of. -/
set_option linter.unusedSimpArgs false
set_option linter.unusedVariables false
namespace Go.Proofs.Ytnanofipjiclfaa
open Go Go.Ab

/-- The reason of a literal behind t. -/
def RsOk (S : Sv) (t : List Int) (l : Int) : Prop :=
  (S.reasons.getD (vr l) 0 < 0 ∧ t.length ∈ S.starts) ∨
  (0 ≤ S.reasons.getD (vr l) 0 ∧ t.length ∉ S.starts ∧ okId S (S.reasons.getD (vr l) 0).toNat ∧ l ∈ (S.cl (S.reasons.getD (vr l) 0).toNat).lits ∧ ∀ m ∈ (S.cl (S.reasons.getD (vr l) 0).toNat).lits, m = l ∨ -m ∈ t)
structure Tz (S : Sv) : Prop where
  rs : ∀ t l u, S.trail = t ++ l :: u → RsOk S t l
  lv : ∀ t l u, S.trail = t ++ l :: u → S.levels.getD (vr l) 0 = S.starts.countP (fun s => decide (s ≤ t.length))
  st : S.starts.Pairwise (· < ·)
  sl : ∀ s ∈ S.starts, s < S.trail.length
theorem snoc_split {α : Type} {s t u : List α} {l x : α} (h : s ++ [l] = t ++ x :: u) : (t = s ∧ x = l ∧ u = []) ∨ ∃ u', u = u' ++ [l] ∧ s = t ++ x :: u' := by
  rcases List.eq_nil_or_concat u with rfl | ⟨u', y, rfl⟩
  · have := List.append_inj' h rfl
    simp at this
    exact Or.inl ⟨this.1.symm, this.2.symm, rfl⟩
  · rw [List.concat_eq_append] at h ⊢
    have h2 : s ++ [l] = (t ++ x :: u') ++ [y] := by rw [h]; simp
    have := List.append_inj' h2 rfl
    simp at this
    exact Or.inr ⟨u', by rw [this.2], this.1⟩
/-- Nothing but the trail has changed for the reader. -/
structure Stl (S S' : Sv) : Prop where
  vars : S'.vars = S.vars
  occ : S'.occ = S.occ
  last : S'.last = S.last
  stamp : S'.stamp = S.stamp
  marked : S'.marked = S.marked
  steps : S'.steps = S.steps
  solves : S'.solves = S.solves
  first : S'.first = S.first
  nadded : S'.added.length = S.added.length
  nlearned : S'.learned.length = S.learned.length
  ok : ∀ id, okId S' id ↔ okId S id
  lits : ∀ id, (S'.cl id).lits = (S.cl id).lits
theorem Stl.refl (S : Sv) : Stl S S := ⟨rfl, rfl, rfl, rfl, rfl, rfl, rfl, rfl, rfl, rfl, fun _ => Iff.rfl, fun _ => rfl⟩
theorem Stl.trans {S S' S'' : Sv} (h : Stl S S') (h' : Stl S' S'') : Stl S S'' :=
  ⟨h'.vars.trans h.vars, h'.occ.trans h.occ, h'.last.trans h.last, h'.stamp.trans h.stamp, h'.marked.trans h.marked, h'.steps.trans h.steps, h'.solves.trans h.solves, h'.first.trans h.first, h'.nadded.trans h.nadded, h'.nlearned.trans h.nlearned, fun id => (h'.ok id).trans (h.ok id), fun id => (h'.lits id).trans (h.lits id)⟩
theorem Asg.stl {S S' : Sv} {l : Int} (a : Asg S S' l) : Stl S S' := ⟨a.vars, a.occ, a.last, a.stamp, a.marked, a.steps, a.solves, a.first, a.nadded, a.nlearned, a.ok, a.lits⟩
theorem Qch.stl {S S' : Sv} (h : Qch S S') : Stl S S' := by obtain ⟨q, rfl⟩ := h; exact ⟨rfl, rfl, rfl, rfl, rfl, rfl, rfl, rfl, rfl, rfl, fun _ => Iff.rfl, fun _ => rfl⟩
theorem Qch.tz {S S' : Sv} (h : Qch S S') (t : Tz S) : Tz S' := by obtain ⟨q, rfl⟩ := h; exact ⟨t.rs, t.lv, t.st, t.sl⟩
/-- One more literal of the trail: what is said of the others stays. -/
theorem rsOk_old {S S' : Sv} {l x : Int} {t : List Int} (h : RsOk S t x) (hr : S'.reasons.getD (vr x) 0 = S.reasons.getD (vr x) 0) (hs : ∀ n, n = t.length → (n ∈ S'.starts ↔ n ∈ S.starts)) (hk : ∀ id, okId S' id ↔ okId S id) (hl : ∀ id, (S'.cl id).lits = (S.cl id).lits) : RsOk S' t x := by
  unfold RsOk at *
  rw [hr, hs _ rfl, hk, hl]
  exact h
theorem asg_tz {S S0 S' : Sv} {l reason : Int} (h : Gd S) (t : Tz S) (hl : LitV S.vars l) (hf : Free S l) (a : Stl S S') (e1 : S'.trail = S.trail ++ [l]) (e2 : S'.reasons = S.reasons.set (vr l) reason) (e3 : S'.levels = S.levels.set (vr l) S'.starts.length)
    (hd : (S'.starts = S.starts ∧ 0 ≤ reason ∧ okId S reason.toNat ∧ l ∈ (S.cl reason.toNat).lits ∧ ∀ m ∈ (S.cl reason.toNat).lits, m = l ∨ -m ∈ S.trail) ∨ (S'.starts = S.starts ++ [S.trail.length] ∧ reason < 0)) : Tz S' := by
  have hnv := free_vr h hl hf
  have hne : ∀ t x u, S.trail = t ++ x :: u → vr l ≠ vr x := fun t x u e e' => hnv (by rw [e', e]; simp)
  have hlt : ∀ {t x u}, S.trail = t ++ x :: u → t.length < S.trail.length := fun e => by rw [e]; simp
  have hst : ∀ n, n < S.trail.length → (n ∈ S'.starts ↔ n ∈ S.starts) := fun n hn => by
    rcases hd with ⟨e, -⟩ | ⟨e, -⟩
    · rw [e]
    · rw [e, List.mem_append, List.mem_singleton]
      exact ⟨fun h => h.elim (fun x => x) fun e => by omega, Or.inl⟩
  have hlr : vr l < S.reasons.length := by rw [h.sh.reasons]; exact hl.vrLt
  have hll : vr l < S.levels.length := by rw [h.sh.levels]; exact hl.vrLt
  refine ⟨fun t' x u e => ?_, fun t' x u e => ?_, ?_, ?_⟩
  · rw [e1] at e
    rcases snoc_split e with ⟨rfl, rfl, rfl⟩ | ⟨u', rfl, e'⟩
    · unfold RsOk
      rw [e2, getD_set_eq hlr, a.ok, a.lits]
      rcases hd with ⟨h1, h2, h3, h4, h5⟩ | ⟨h1, h2⟩
      · refine Or.inr ⟨h2, fun hm => ?_, h3, h4, h5⟩
        rw [h1] at hm
        have := t.sl _ hm
        omega
      · exact Or.inl ⟨h2, by rw [h1]; simp⟩
    · refine rsOk_old (l := l) (t.rs t' x u' e') ?_ (fun n hn => hst n (by rw [hn]; exact hlt e')) a.ok a.lits
      rw [e2, getD_set_ne (hne _ _ _ e')]
  · rw [e1] at e
    rcases snoc_split e with ⟨rfl, rfl, rfl⟩ | ⟨u', rfl, e'⟩
    · rw [e3, getD_set_eq hll]
      rw [List.countP_eq_length.2]
      intro s hs
      rw [decide_eq_true_eq]
      rcases hd with ⟨h1, -⟩ | ⟨h1, -⟩
      · rw [h1] at hs; have := t.sl s hs; omega
      · rw [h1, List.mem_append, List.mem_singleton] at hs
        rcases hs with hs | rfl
        · have := t.sl s hs; omega
        · exact Nat.le_refl _
    · rw [e3, getD_set_ne (hne _ _ _ e'), t.lv t' x u' e']
      rcases hd with ⟨h1, -⟩ | ⟨h1, -⟩
      · rw [h1]
      · rw [h1, List.countP_append, List.countP_singleton, decide_eq_false (by have := hlt e'; omega)]
        simp
  · rcases hd with ⟨h1, -⟩ | ⟨h1, -⟩
    · rw [h1]; exact t.st
    · rw [h1, List.pairwise_append]
      exact ⟨t.st, List.pairwise_singleton _ _, fun x hx y hy => by rw [List.mem_singleton] at hy; subst hy; exact t.sl x hx⟩
  · intro s hs
    rw [e1, List.length_append, List.length_singleton]
    rcases hd with ⟨h1, -⟩ | ⟨h1, -⟩
    · rw [h1] at hs; have := t.sl s hs; omega
    · rw [h1, List.mem_append, List.mem_singleton] at hs
      rcases hs with hs | rfl
      · have := t.sl s hs; omega
      · omega
/-- Clauses that wait are in the queue. -/
def Cmp (S : Sv) : Prop := ∀ id, okId S id → (S.cl id).held = 0 → (S.cl id).opn ≤ 1 → id ∈ S.queue
/-- Under the literals of p no clause is false, or has but one way left. -/
def Quiet (S : Sv) (p : List Int) : Prop := ∀ id, okId S id → (∃ m ∈ (S.cl id).lits, m ∈ p) ∨ (∃ m1 ∈ (S.cl id).lits, ∃ m2 ∈ (S.cl id).lits, m1 ≠ m2 ∧ -m1 ∉ p ∧ -m2 ∉ p)
def Qz (S : Sv) : Prop := ∀ s ∈ S.starts, Quiet S (S.trail.take s)
/-- What is in the queue has but one way left. -/
def Wt (S : Sv) : Prop := ∀ id ∈ S.queue, (S.cl id).opn ≤ 1
theorem Cmp.quiet {S : Sv} (c : Cmp S) (h : Gd S) (hq : S.queue = []) : Quiet S S.trail := fun id ho => by
  by_cases h0 : (S.cl id).held = 0
  · have h1 : 1 < (S.cl id).opn := by
      refine Int.not_le.1 fun h1 => ?_
      have := c id ho h0 h1
      rw [hq] at this
      cases this
    obtain ⟨l, m, hl, hm, hne, tl, tm⟩ := h.opn_two ho h1
    refine Or.inr ⟨l, hl, m, hm, hne, fun hm' => ?_, fun hm' => ?_⟩
    · rw [(h.tt _ (h.lits id ho l hl).neg).2 hm'] at tl; cases tl
    · rw [(h.tt _ (h.lits id ho m hm).neg).2 hm'] at tm; cases tm
  · have : ¬ ∀ l ∈ (S.cl id).lits, S.tr l = false := fun h' => h0 ((h.held_zero ho).2 h')
    obtain ⟨l, h'⟩ := Classical.not_forall.1 this
    obtain ⟨hl, h'⟩ := Classical.not_imp.1 h'
    refine Or.inl ⟨l, hl, (h.tt l (h.lits id ho l hl)).1 ?_⟩
    cases ht : S.tr l with
    | true => rfl
    | false => exact absurd ht h'
theorem Quiet.stl {S S' : Sv} {p : List Int} (a : Stl S S') (h : Quiet S p) : Quiet S' p := fun id ho => by
  rw [a.lits]; exact h id ((a.ok id).1 ho)
/-- Propagation: what becomes of the state. -/
structure Ppg (S S' : Sv) : Prop where
  stl : Stl S S'
  gd : Gd S'
  tz : Tz S'
  starts : S'.starts = S.starts
  ext : ∃ t, S'.trail = S.trail ++ t
  left : S'.left + S'.trail.length = S.left + S.trail.length
theorem prop_ppg : ∀ (n : Nat) {S : Sv} {r : Sv × Int × Bool}, Sv.prop n S = some r → Gd S → Tz S → Cmp S → Wt S → Ppg S r.1 ∧
    ((r.2.2 = true ∧ r.2.1 = -1 ∧ r.1.queue = [] ∧ Cmp r.1) ∨ (r.2.2 = true ∧ 0 ≤ r.2.1 ∧ okId r.1 r.2.1.toNat ∧ ∀ m ∈ (r.1.cl r.2.1.toNat).lits, -m ∈ r.1.trail) ∨ (r.2.2 = false ∧ r.2.1 = -1 ∧ r.1.left = 0))
  | 0, S, r, hr, _, _, _, _ => by unfold Sv.prop at hr; cases hr
  | n + 1, S, r, hr, g, t, c, w => by
    unfold Sv.prop at hr
    cases hq : S.queue with
    | nil =>
      rw [hq] at hr
      simp only [Option.some.injEq] at hr
      subst hr
      exact ⟨⟨Stl.refl S, g, t, rfl, ⟨[], by simp⟩, rfl⟩, Or.inl ⟨rfl, rfl, hq, c⟩⟩
    | cons a q =>
      have hne : S.queue ≠ [] := by rw [hq]; exact List.cons_ne_nil _ _
      rw [hq] at hr
      simp only at hr
      rw [← hq] at hr
      obtain ⟨g1, ho⟩ := g.pop hne
      have hsp := hpop_split hne
      have q1 : Qch S { S with queue := (Sv.hpop S.queue).dropLast } := ⟨_, rfl⟩
      generalize (Sv.hpop S.queue).getLastD 0 = id at hr ho hsp
      have ho1 : okId { S with queue := (Sv.hpop S.queue).dropLast } id := ho
      have c1 : ∀ k, okId { S with queue := (Sv.hpop S.queue).dropLast } k → (({ S with queue := (Sv.hpop S.queue).dropLast } : Sv).cl k).held = 0 → (({ S with queue := (Sv.hpop S.queue).dropLast } : Sv).cl k).opn ≤ 1 → k ∈ ({ S with queue := (Sv.hpop S.queue).dropLast } : Sv).queue ∨ k = id := fun k h1 h2 h3 => (hsp k).1 (c k h1 h2 h3)
      have t1 : Tz { S with queue := (Sv.hpop S.queue).dropLast } := q1.tz t
      have s1 := q1.stl
      have hw1 : (({ S with queue := (Sv.hpop S.queue).dropLast } : Sv).cl id).opn ≤ 1 := w id ((hsp id).2 (Or.inr rfl))
      have w1 : Wt { S with queue := (Sv.hpop S.queue).dropLast } := fun k hk => w k ((hsp k).2 (Or.inl hk))
      have f1 : ({ S with queue := (Sv.hpop S.queue).dropLast } : Sv).starts = S.starts ∧ ({ S with queue := (Sv.hpop S.queue).dropLast } : Sv).trail = S.trail ∧ ({ S with queue := (Sv.hpop S.queue).dropLast } : Sv).left = S.left := ⟨rfl, rfl, rfl⟩
      generalize ({ S with queue := (Sv.hpop S.queue).dropLast } : Sv) = S1 at hr g1 ho1 c1 t1 s1 f1 hw1 w1
      obtain ⟨f1, f2, f3⟩ := f1
      have hnn := g1.held_nonneg ho1
      have base : Ppg S S1 := ⟨s1, g1, t1, f1, ⟨[], by rw [f2]; simp⟩, by rw [f2, f3]⟩
      have next : ∀ {S2 : Sv}, Ppg S S2 → ∀ {x}, Ppg S2 x → Ppg S x := fun a x b => ⟨a.stl.trans b.stl, b.gd, b.tz, b.starts.trans a.starts, by
        obtain ⟨u, hu⟩ := a.ext
        obtain ⟨v, hv⟩ := b.ext
        exact ⟨u ++ v, by rw [hv, hu, List.append_assoc]⟩, b.left.trans a.left⟩
      by_cases hh : 0 < (S1.cl id).held
      · rw [if_pos hh] at hr
        obtain ⟨p, o⟩ := prop_ppg n hr g1 t1 (fun k h1 h2 h3 => (c1 k h1 h2 h3).elim (fun x => x) (fun e => by subst e; omega)) w1
        exact ⟨next base p, o⟩
      rw [if_neg hh] at hr
      by_cases h0 : (S1.cl id).opn = 0
      · rw [if_pos h0, Option.some.injEq] at hr
        subst hr
        refine ⟨base, Or.inr (Or.inl ⟨rfl, Int.natCast_nonneg _, ?_, ?_⟩)⟩
        · simp only [Int.toNat_natCast]; exact ho1
        · simp only [Int.toNat_natCast]
          intro m hm
          exact (g1.tt _ (g1.lits id ho1 m hm).neg).1 ((g1.opn_zero ho1).1 h0 m hm)
      rw [if_neg h0] at hr
      cases hfd : (S1.cl id).lits.find? (fun l => !S1.tr (-l)) with
      | none => rw [hfd] at hr; cases hr
      | some l =>
      rw [hfd] at hr
      simp only at hr
      have hlm := List.mem_of_find?_eq_some hfd
      have hlt := List.find?_some hfd
      have hlv := g1.lits id ho1 l hlm
      have hfree : Free S1 l := ⟨(g1.held_zero ho1).1 (by omega) l hlm, by simpa using hlt⟩
      by_cases hl0 : S1.left = 0
      · have e : S1.assign l (id : Int) = (S1, false) := by unfold Sv.assign; rw [if_pos hl0]
        rw [e] at hr
        simp only [Option.some.injEq] at hr
        subst hr
        exact ⟨base, Or.inr (Or.inr ⟨rfl, rfl, hl0⟩)⟩
      · obtain ⟨e0, a, e1, e2, e3⟩ := assign_asg (reason := (id : Int)) g1 hlv hl0
        have g2 := g1.assign (reason := (id : Int)) hlv hfree hl0
        generalize S1.assign l (id : Int) = p at hr e0 a e1 e2 e3 g2
        obtain ⟨S2, b⟩ := p
        simp only at e0 a e1 e2 e3 g2
        subst e0
        simp only at hr
        have hopn : ∀ m ∈ (S1.cl id).lits, m = l ∨ -m ∈ S1.trail := fun m hm => by
          cases hb : S1.tr (-m) with
          | true => exact Or.inr ((g1.tt _ (g1.lits id ho1 m hm).neg).1 hb)
          | false =>
            exact Or.inl (g1.opn_one ho1 hw1 hm hlm hb (by simpa using hlt))
        have t2 : Tz S2 := asg_tz (S0 := S1) g1 t1 hlv hfree a.stl a.trail e2 (by rw [e3, a.starts]) (Or.inl ⟨a.starts, Int.natCast_nonneg _, by rw [Int.toNat_natCast]; exact ho1, by rw [Int.toNat_natCast]; exact hlm, by rw [Int.toNat_natCast]; exact hopn⟩)
        have b2 : Ppg S1 S2 := ⟨a.stl, g2, t2, a.starts, ⟨[l], a.trail⟩, by rw [e1, a.trail, List.length_append, List.length_singleton]; omega⟩
        obtain ⟨p, o⟩ := prop_ppg n hr g2 t2 (fun k h1 h2 h3 => by
          have h1' := (a.ok k).1 h1
          have hk := g1.held_nonneg h1'
          rw [a.queue]
          by_cases hm : k ∈ S1.occ.getD (code (-l)) []
          · exact Or.inr ⟨hm, h2, h3⟩
          · rw [a.opn, if_neg hm] at h3
            rw [a.held] at h2
            by_cases hm2 : k ∈ S1.occ.getD (code l) []
            · rw [if_pos hm2] at h2; omega
            · rw [if_neg hm2] at h2
              rcases c1 k h1' h2 h3 with h | rfl
              · exact Or.inl h
              · exact absurd ((g1.mem l hlv k h1').2 hlm) hm2) fun k hk => by
          rcases (a.queue k).1 hk with hk | hk
          · have := w1 k hk
            rw [a.opn]
            split <;> omega
          · exact hk.2.2
        exact ⟨next (next base b2) p, o⟩
end Go.Proofs.Ytnanofipjiclfaa
end PartQ7

section PartQ8
/- Plain facts on the solver's model: what explain finds. -/
set_option linter.unusedSimpArgs false
set_option linter.unusedVariables false
namespace Go.Proofs.Ytnanofipjiclfaa
open Go Go.Ab

/-- The check of a step: from the known literals, by the hints' clauses, to a clause that is false. -/
def rup (cls : Nat → List Int) : List Int → List Nat → Prop
  | _, [] => False
  | K, h :: hs => match hs with
    | [] => ∀ m ∈ cls h, -m ∈ K
    | _ :: _ => ∃ l ∈ cls h, l ∉ K ∧ -l ∉ K ∧ (∀ m ∈ cls h, m = l ∨ -m ∈ K) ∧ rup cls (K ++ [l]) hs
theorem rup_sound {cls : Nat → List Int} {a : Int → Prop} (ha : ∀ l, a (-l) → ¬ a l) : ∀ (hs : List Nat) (K : List Int), rup cls K hs → (∀ h ∈ hs, ∃ m ∈ cls h, a m) → (∀ l ∈ K, a l) → False
  | [], _, h, _, _ => h
  | [h], K, hr, hc, hk => by
    obtain ⟨m, hm, am⟩ := hc h (by simp)
    exact ha m (hk _ (hr m hm)) am
  | h :: h' :: hs, K, hr, hc, hk => by
    obtain ⟨l, hl, -, -, hm, hn⟩ := hr
    refine rup_sound ha (h' :: hs) _ hn (fun x hx => hc x (List.mem_cons_of_mem _ hx)) fun x hx => ?_
    rcases List.mem_append.1 hx with hx | hx
    · exact hk x hx
    · rw [List.mem_singleton] at hx
      subst hx
      obtain ⟨m, hm', am⟩ := hc h (by simp)
      rcases hm m hm' with rfl | h2
      · exact am
      · exact absurd am (ha m (hk _ h2))
theorem markL_get : ∀ (lits : List Int) (mk : List Bool) (ex : Int) (v : Nat), (∀ m ∈ lits, vr m < mk.length) → ((Sv.markL mk lits ex).getD v false = true ↔ mk.getD v false = true ∨ ∃ m ∈ lits, m ≠ ex ∧ vr m = v)
  | [], mk, ex, v, _ => by simp [Sv.markL]
  | m :: lits, mk, ex, v, h => by
    have e : Sv.markL mk (m :: lits) ex = Sv.markL (if m = ex then mk else mk.set (vr m) true) lits ex := rfl
    rw [e, markL_get lits _ ex v fun x hx => by
      have := h x (List.mem_cons_of_mem _ hx)
      split
      · exact this
      · rwa [List.length_set]]
    have hm := h m (List.mem_cons_self ..)
    by_cases hx : m = ex
    · rw [if_pos hx]
      constructor
      · rintro (h | ⟨x, h1, h2⟩)
        · exact Or.inl h
        · exact Or.inr ⟨x, List.mem_cons_of_mem _ h1, h2⟩
      · rintro (h | ⟨x, h1, h2, h3⟩)
        · exact Or.inl h
        · rcases List.mem_cons.1 h1 with rfl | h1
          · exact absurd hx h2
          · exact Or.inr ⟨x, h1, h2, h3⟩
    · rw [if_neg hx]
      by_cases hv : vr m = v
      · subst hv
        rw [getD_set_eq hm]
        exact ⟨fun _ => Or.inr ⟨m, List.mem_cons_self .., hx, rfl⟩, fun _ => Or.inl rfl⟩
      · rw [getD_set_ne hv]
        constructor
        · rintro (h | ⟨x, h1, h2⟩)
          · exact Or.inl h
          · exact Or.inr ⟨x, List.mem_cons_of_mem _ h1, h2⟩
        · rintro (h | ⟨x, h1, h2, h3⟩)
          · exact Or.inl h
          · rcases List.mem_cons.1 h1 with rfl | h1
            · exact absurd h3 hv
            · exact Or.inr ⟨x, h1, h2, h3⟩
/-- The reasons of literals of a part of the trail. -/
def IsDec (S : Sv) (l : Int) : Prop := S.reasons.getD (vr l) 0 < 0
/-- What explain has found when t is still to be looked through, u has been. -/
structure ExI (S : Sv) (t1 : List Int) (id : Nat) (ex : Int) (t u : List Int) (p : List Bool × List Int × List Nat) : Prop where
  len : p.1.length = S.vars + 1
  mked : ∀ v, p.1.getD v false = true → ∃ l ∈ t, vr l = v
  ds : p.2.1.reverse.Sublist u
  dd : ∀ l ∈ p.2.1, IsDec S l
  ok : ∀ h ∈ p.2.2, okId S h
  ne : p.2.2 ≠ []
  hl : p.2.2.length + t.length ≤ t1.length + 1
  run : ∀ K, (∀ l ∈ t, p.1.getD (vr l) false = true → l ∈ K) → (∀ l ∈ p.2.1, l ∈ K) → (ex ∈ (S.cl id).lits → -ex ∈ K) → (∀ l ∈ u, ¬ IsDec S l → l ∉ K ∧ -l ∉ K) → rup (fun i => (S.cl i).lits) K p.2.2.reverse
theorem ex_step {S : Sv} (h : Gd S) (t : Tz S) {t1 u1 : List Int} {id : Nat} {ex : Int} {t' : List Int} {l : Int} {u : List Int} {p : List Bool × List Int × List Nat} (he : S.trail = t' ++ l :: (u ++ u1)) (hi : ExI S t1 id ex (t' ++ [l]) u p) : ExI S t1 id ex t' (l :: u) (S.expl1 p l) := by
  have hlm : l ∈ S.trail := by rw [he]; simp
  have hlv := h.tv l hlm
  have hnd := h.tn
  rw [he, List.map_append, List.map_cons, List.nodup_append, List.nodup_cons] at hnd
  have hnt : ∀ x ∈ t', vr x ≠ vr l := fun x hx => hnd.2.2 _ (List.mem_map_of_mem hx) _ (List.mem_cons_self ..)
  have hnu : ∀ x ∈ u, vr x ≠ vr l := fun x hx e => hnd.2.1.1 (by rw [← e, List.map_append]; exact List.mem_append_left _ (List.mem_map_of_mem hx))
  have hvl : vr l < p.1.length := by rw [hi.len]; exact hlv.vrLt
  obtain ⟨mk, ds, hs⟩ := p
  unfold Sv.expl1
  by_cases hm : mk.getD (vr l) false = true
  · rw [if_pos hm]
    by_cases hr : S.reasons.getD (vr l) 0 < 0
    · rw [if_pos hr]
      refine ⟨by rw [List.length_set]; exact hi.len, fun v hv => ?_, ?_, ?_, hi.ok, hi.ne, ?_, fun K k1 k2 k3 k4 => ?_⟩
      · by_cases e : vr l = v
        · subst e
          rw [getD_set_eq hvl] at hv
          cases hv
        · rw [getD_set_ne e] at hv
          obtain ⟨x, hx, rfl⟩ := hi.mked v hv
          rcases List.mem_append.1 hx with hx | hx
          · exact ⟨x, hx, rfl⟩
          · rw [List.mem_singleton] at hx; subst hx; exact absurd rfl e
      · show (ds ++ [l]).reverse.Sublist (l :: u)
        rw [List.reverse_append, List.reverse_singleton, List.singleton_append]
        exact hi.ds.cons_cons l
      · intro x hx
        rcases List.mem_append.1 hx with hx | hx
        · exact hi.dd x hx
        · rw [List.mem_singleton] at hx; subst hx; exact hr
      · have := hi.hl
        rw [List.length_append, List.length_singleton] at this
        simp only at this ⊢
        omega
      · have hlK : l ∈ K := k2 l (List.mem_append_right _ (by simp))
        refine hi.run K (fun x hx hx' => ?_) (fun x hx => k2 x (List.mem_append_left _ hx)) k3 fun x hx => k4 x (List.mem_cons_of_mem _ hx)
        rcases List.mem_append.1 hx with hx | hx
        · refine k1 x hx ?_
          show (mk.set (vr l) false).getD (vr x) false = true
          rw [getD_set_ne (Ne.symm (hnt x hx))]
          exact hx'
        · rw [List.mem_singleton] at hx; subst hx; exact hlK
    · rw [if_neg hr]
      have hrs := t.rs t' l (u ++ u1) he
      rcases hrs with ⟨h1, -⟩ | ⟨h1, h2, h3, h4, h5⟩
      · exact absurd h1 hr
      generalize (S.reasons.getD (vr l) 0).toNat = r at h3 h4 h5 ⊢
      have hlr := h.lits r h3
      have hset : (mk.set (vr l) false).length = S.vars + 1 := by rw [List.length_set]; exact hi.len
      have hg := fun v => markL_get (S.cl r).lits (mk.set (vr l) false) l v fun m hm => by rw [hset]; exact (hlr m hm).vrLt
      refine ⟨by rw [markL_len]; exact hset, fun v hv => ?_, ?_, hi.dd, ?_, by simp, ?_, fun K k1 k2 k3 k4 => ?_⟩
      · rcases (hg v).1 hv with hv | ⟨m, hm1, hm2, hm3⟩
        · by_cases e : vr l = v
          · subst e
            rw [getD_set_eq hvl] at hv
            cases hv
          · rw [getD_set_ne e] at hv
            obtain ⟨x, hx, rfl⟩ := hi.mked v hv
            rcases List.mem_append.1 hx with hx | hx
            · exact ⟨x, hx, rfl⟩
            · rw [List.mem_singleton] at hx; subst hx; exact absurd rfl e
        · rcases h5 m hm1 with e | e
          · exact absurd e hm2
          · exact ⟨-m, e, by rw [← hm3]; unfold vr; omega⟩
      · exact hi.ds.cons l
      · intro x hx
        rcases List.mem_append.1 hx with hx | hx
        · exact hi.ok x hx
        · rw [List.mem_singleton] at hx; subst hx; exact h3
      · have := hi.hl
        rw [List.length_append, List.length_singleton] at this
        simp only [List.length_append, List.length_singleton] at this ⊢
        omega
      · show rup _ K (hs ++ [r]).reverse
        rw [List.reverse_append, List.reverse_singleton, List.singleton_append]
        have hne : hs.reverse ≠ [] := by simpa using hi.ne
        obtain ⟨x0, xs, hxs⟩ := List.exists_cons_of_ne_nil hne
        have hK := k4 l (List.mem_cons_self ..) (fun hd => hr hd)
        have hrun := hi.run (K ++ [l]) (fun x hx hx' => ?_) (fun x hx => List.mem_append_left _ (k2 x hx)) (fun hx => List.mem_append_left _ (k3 hx)) fun x hx hd => ?_
        · simp only at hrun
          rw [hxs] at hrun ⊢
          refine ⟨l, h4, hK.1, hK.2, fun m hm1 => ?_, hrun⟩
          by_cases e : m = l
          · exact Or.inl e
          · rcases h5 m hm1 with e' | e'
            · exact Or.inl e'
            · refine Or.inr (k1 _ e' ((hg _).2 (Or.inr ⟨m, hm1, e, ?_⟩)))
              unfold vr; omega
        · rcases List.mem_append.1 hx with hx | hx
          · refine List.mem_append_left _ (k1 x hx ((hg _).2 (Or.inl ?_)))
            rw [getD_set_ne (Ne.symm (hnt x hx))]
            exact hx'
          · exact List.mem_append_right _ hx
        · have := k4 x (List.mem_cons_of_mem _ hx) hd
          have hv := hnu x hx
          rw [List.mem_append, List.mem_append, List.mem_singleton, List.mem_singleton]
          exact ⟨fun e => e.elim this.1 fun e => hv (by rw [e]), fun e => e.elim this.2 fun e => hv (by rw [← e]; unfold vr; omega)⟩
  · rw [if_neg hm]
    refine ⟨hi.len, fun v hv => ?_, hi.ds.cons l, hi.dd, hi.ok, hi.ne, ?_, fun K k1 k2 k3 k4 => ?_⟩
    · obtain ⟨x, hx, rfl⟩ := hi.mked v hv
      rcases List.mem_append.1 hx with hx | hx
      · exact ⟨x, hx, rfl⟩
      · rw [List.mem_singleton] at hx; subst hx; exact absurd hv hm
    · have := hi.hl
      rw [List.length_append, List.length_singleton] at this
      omega
    · refine hi.run K (fun x hx hx' => ?_) k2 k3 fun x hx => k4 x (List.mem_cons_of_mem _ hx)
      rcases List.mem_append.1 hx with hx | hx
      · exact k1 x hx hx'
      · rw [List.mem_singleton] at hx; subst hx; exact absurd hx' hm
theorem ex_run {S : Sv} (h : Gd S) (t : Tz S) {t1 u1 : List Int} {id : Nat} {ex : Int} : ∀ (n : Nat) (t' u : List Int) (p : List Bool × List Int × List Nat), t'.length = n → S.trail = t' ++ (u ++ u1) → ExI S t1 id ex t' u p → ExI S t1 id ex [] (t' ++ u) (t'.reverse.foldl S.expl1 p)
  | 0, t', u, p, hn, he, hi => by
    rw [List.length_eq_zero_iff] at hn
    subst hn
    exact hi
  | n + 1, t', u, p, hn, he, hi => by
    rcases List.eq_nil_or_concat t' with rfl | ⟨s, l, rfl⟩
    · cases hn
    · rw [List.concat_eq_append] at hn he hi ⊢
      rw [List.length_append, List.length_singleton] at hn
      rw [List.reverse_append, List.reverse_singleton, List.singleton_append, List.foldl_cons]
      have he' : S.trail = s ++ l :: (u ++ u1) := by rw [he]; simp
      have := ex_run h t (t1 := t1) (u1 := u1) (id := id) (ex := ex) n s (l :: u) (S.expl1 p l) (by omega) (by rw [he']; simp) (ex_step h t he' hi)
      simpa using this
/-- Literals that are not marked change nothing. -/
theorem ex_skip {S : Sv} : ∀ (u : List Int) (p : List Bool × List Int × List Nat), (∀ l ∈ u, p.1.getD (vr l) false = false) → u.foldl S.expl1 p = p
  | [], p, _ => rfl
  | l :: u, p, h => by
    have e : S.expl1 p l = p := by unfold Sv.expl1; rw [if_neg (by rw [h l (List.mem_cons_self ..)]; simp)]
    rw [List.foldl_cons, e]
    exact ex_skip u p fun x hx => h x (List.mem_cons_of_mem _ hx)
theorem explain_spec {S : Sv} (h : Gd S) (t : Tz S) {t1 u1 : List Int} (he : S.trail = t1 ++ u1) {id : Nat} (ho : okId S id) {ex : Int} (hc : ∀ m ∈ (S.cl id).lits, m = ex ∨ -m ∈ t1) : ExI S t1 id ex [] t1 (S.explain id ex) := by
  have hlr := h.lits id ho
  have hml : S.marked.length = S.vars + 1 := h.sh.marked
  have hg := fun v => markL_get (S.cl id).lits S.marked ex v fun m hm => by rw [hml]; exact (hlr m hm).vrLt
  have hmk : ∀ v, (Sv.markL S.marked (S.cl id).lits ex).getD v false = true → ∃ l ∈ t1, vr l = v := fun v hv => by
    rcases (hg v).1 hv with hv | ⟨m, h1, h2, h3⟩
    · rw [h.um] at hv; cases hv
    · rcases hc m h1 with e | e
      · exact absurd e h2
      · exact ⟨-m, e, by rw [← h3]; unfold vr; omega⟩
  unfold Sv.explain
  have hrev : S.trail.reverse = u1.reverse ++ t1.reverse := by rw [he, List.reverse_append]
  rw [hrev, List.foldl_append, ex_skip u1.reverse]
  · have := ex_run h t (t1 := t1) (u1 := u1) (id := id) (ex := ex) t1.length t1 [] (Sv.markL S.marked (S.cl id).lits ex, [], [id]) rfl (by simpa using he) ⟨by rw [markL_len]; exact hml, hmk, by simp, by simp, by simpa using ho, by simp, by simp; omega, fun K k1 k2 k3 k4 => ?_⟩
    · simpa using this
    · show ∀ m ∈ (S.cl id).lits, -m ∈ K
      intro m hm
      by_cases e : m = ex
      · rw [e] at hm ⊢; exact k3 hm
      · rcases hc m hm with e' | e'
        · exact absurd e' e
        · exact k1 _ e' ((hg _).2 (Or.inr ⟨m, hm, e, by unfold vr; omega⟩))
  · intro l hl
    rw [Bool.eq_false_iff]
    intro hm
    obtain ⟨x, hx, e⟩ := hmk _ hm
    have hnd := h.tn
    rw [he, List.map_append, List.nodup_append] at hnd
    exact hnd.2.2 _ (List.mem_map_of_mem hx) _ (List.mem_map_of_mem (List.mem_reverse.1 hl)) e
end Go.Proofs.Ytnanofipjiclfaa
end PartQ8

section PartQ9
/- Plain facts on the solver's model: levels; the state of a search; going back. -/
set_option linter.unusedSimpArgs false
set_option linter.unusedVariables false
namespace Go.Proofs.Ytnanofipjiclfaa
open Go Go.Ab

theorem sorted_count : ∀ {s : List Nat}, s.Pairwise (· < ·) → ∀ (q i : Nat), i < s.length → (s.getD i 0 ≤ q ↔ i < s.countP fun x => decide (x ≤ q))
  | [], _, q, i, hi => by cases hi
  | a :: s, h, q, i, hi => by
    rw [List.pairwise_cons] at h
    rw [List.countP_cons]
    by_cases ha : a ≤ q
    · rw [if_pos (by simpa using ha)]
      cases i with
      | zero => simp [ha]
      | succ i =>
        have := sorted_count h.2 q i (by simpa using hi)
        simp only [List.getD_cons_succ]
        omega
    · have h0 : s.countP (fun x => decide (x ≤ q)) = 0 := by
        rw [List.countP_eq_zero]
        intro x hx
        have := h.1 x hx
        simp; omega
      rw [if_neg (by simpa using ha), h0]
      cases i with
      | zero => simp; omega
      | succ i =>
        have hi' : i < s.length := by simpa using hi
        have := h.1 (s.getD i 0) (by rw [List.getD_eq_getElem?_getD, List.getElem?_eq_getElem hi']; exact List.getElem_mem hi')
        simp only [List.getD_cons_succ]
        omega
theorem mem_idx {s : List Nat} {x : Nat} (h : x ∈ s) : ∃ i, i < s.length ∧ s.getD i 0 = x := by
  obtain ⟨i, hi, e⟩ := List.mem_iff_getElem.1 h
  exact ⟨i, hi, by rw [List.getD_eq_getElem?_getD, List.getElem?_eq_getElem hi]; exact e⟩
/-- Two decisions, one before the other. -/
theorem two_levels {S : Sv} (t : Tz S) {t1 u1 t2 u2 : List Int} {x y : Int} (hx : S.trail = t1 ++ x :: u1) (hy : S.trail = t2 ++ y :: u2) (dx : IsDec S x) (dy : IsDec S y) (hlt : t1.length < t2.length) :
    S.level x < S.level y ∧ S.level x < S.starts.length ∧ t1.length < S.starts.getD (S.level x) 0 ∧ S.starts.getD (S.level x) 0 ≤ t2.length := by
  have ex := t.lv _ _ _ hx
  have ey := t.lv _ _ _ hy
  have sy : t2.length ∈ S.starts := by
    rcases t.rs _ _ _ hy with h | h
    · exact h.2
    · exact absurd dy (by unfold IsDec; omega)
  obtain ⟨j, hj, ej⟩ := mem_idx sy
  have c1 := sorted_count t.st t1.length j hj
  have c2 := sorted_count t.st t2.length j hj
  unfold Sv.level
  rw [ex, ey]
  have h1 : S.starts.countP (fun x => decide (x ≤ t1.length)) ≤ j := by omega
  have h2 : j < S.starts.countP (fun x => decide (x ≤ t2.length)) := by omega
  have c3 := sorted_count t.st t1.length _ (Nat.lt_of_le_of_lt h1 hj)
  have c4 := sorted_count t.st t2.length _ (Nat.lt_of_le_of_lt h1 hj)
  omega
theorem one_level {S : Sv} (t : Tz S) {t2 u2 : List Int} {y : Int} (hy : S.trail = t2 ++ y :: u2) (dy : IsDec S y) : 0 < S.level y ∧ S.level y ≤ S.starts.length ∧ 0 < S.starts.length ∧ S.starts.getD 0 0 ≤ t2.length := by
  have ey := t.lv _ _ _ hy
  have sy : t2.length ∈ S.starts := by
    rcases t.rs _ _ _ hy with h | h
    · exact h.2
    · exact absurd dy (by unfold IsDec; omega)
  obtain ⟨j, hj, ej⟩ := mem_idx sy
  have c2 := sorted_count t.st t2.length j hj
  unfold Sv.level
  rw [ey]
  have c4 := sorted_count t.st t2.length 0 (by omega)
  have := List.countP_le_length (p := fun x => decide (x ≤ t2.length)) (l := S.starts)
  omega
/-- The state at the head of a search's loop: b bounds the decided variables, M the stamps. -/
structure Lv0 (b M : Nat) (S : Sv) : Prop where
  gd : Gd S
  tz : Tz S
  qz : Qz S
  sl : S.steps.length = S.learned.length
  cls : ∀ k, k < S.learned.length → (S.cl (cmax + k)).lits = (S.steps.getD k ([], [])).1
  s12 : ∀ s ∈ S.steps, s.1.length ≤ 12
  dec : ∀ l ∈ S.trail, IsDec S l → vr l ≤ b
  stm : S.stamp ≤ M + S.learned.length
structure Lv (b M : Nat) (S : Sv) : Prop where
  l0 : Lv0 b M S
  cmp : Cmp S
  wt : Wt S
theorem IsDec.stl {S S' : Sv} {l : Int} (h : S'.reasons = S.reasons) : IsDec S' l ↔ IsDec S l := by unfold IsDec; rw [h]
/-- Decisions are few. -/
theorem dec_len {b : Nat} {S : Sv} (g : Gd S) (hd : ∀ l ∈ S.trail, IsDec S l → vr l ≤ b) {ds : List Int} (hs : ds.Sublist S.trail) (hdd : ∀ l ∈ ds, IsDec S l) : ds.length ≤ b := by
  have h1 := nodup_bound (n := b + 1) (l := 0 :: ds.map vr) (List.nodup_cons.2 ⟨fun hm => by
      obtain ⟨a, ha, e⟩ := List.mem_map.1 hm
      have va := g.tv a (hs.subset ha)
      unfold LitV at va
      unfold vr at e
      omega, (hs.map vr).nodup g.tn⟩) fun x hx => by
    rcases List.mem_cons.1 hx with rfl | hx
    · omega
    · obtain ⟨a, ha, rfl⟩ := List.mem_map.1 hx
      have := hd a (hs.subset ha) (hdd a ha)
      omega
  rw [List.length_cons, List.length_map] at h1
  omega
theorem sub_split {α : Type} : ∀ {ds tr : List α} {i : List α} {y : α}, ds = i ++ [y] → ds.Sublist tr → ∃ t u, tr = t ++ y :: u ∧ i.Sublist t := by
  intro ds tr i y e h
  subst e
  obtain ⟨r1, r2, e1, h1, h2⟩ := List.append_sublist_iff.1 h
  obtain ⟨t, u, e2⟩ := List.append_of_mem (List.singleton_sublist.1 h2)
  exact ⟨r1 ++ t, u, by rw [e1, e2, List.append_assoc], h1.trans (List.sublist_append_left _ _)⟩
/-- Where a search goes back to. -/
structure Back (S : Sv) (i : List Int) (y : Int) (back n : Nat) : Prop where
  lt : back < S.starts.length
  ly : back < S.level y
  nn : n = S.starts.getD back 0
  out : ∃ t u, S.trail = t ++ y :: u ∧ n ≤ t.length
  inn : ∀ x ∈ i, x ∈ S.trail.take n
  low : back = 0 ∨ ∃ x ∈ i, ∃ t u, S.trail = t ++ x :: u ∧ ∀ s ∈ S.starts.take back, s ≤ t.length
theorem back_spec {S : Sv} (g : Gd S) (t : Tz S) {i : List Int} {y : Int} (hs : (i ++ [y]).Sublist S.trail) (hd : ∀ l ∈ i ++ [y], IsDec S l) : Back S i y (S.backLevel (i ++ [y])) (S.starts.getD (S.backLevel (i ++ [y])) 0) := by
  obtain ⟨t2, u2, hy, hi⟩ := sub_split rfl hs
  have dy := hd y (by simp)
  rcases List.eq_nil_or_concat i with rfl | ⟨i', x, rfl⟩
  · have e : S.backLevel ([] ++ [y]) = 0 := by unfold Sv.backLevel; rw [if_neg (by simp)]
    rw [e]
    obtain ⟨o1, o2, o3, o4⟩ := one_level t hy dy
    exact ⟨o3, o1, rfl, ⟨t2, u2, hy, o4⟩, by simp, Or.inl rfl⟩
  · rw [List.concat_eq_append] at hs hd hi ⊢
    obtain ⟨t1, u1, ht2, hi'⟩ := sub_split rfl hi
    have dx := hd x (by simp)
    have e : S.backLevel (i' ++ [x] ++ [y]) = S.level x := by
      unfold Sv.backLevel
      rw [if_pos (by simp)]
      congr 1
      simp [List.getD_eq_getElem?_getD, List.getElem?_append]
    rw [e]
    have hx : S.trail = t1 ++ x :: (u1 ++ y :: u2) := by rw [hy, ht2]; simp
    have hl : t1.length < t2.length := by rw [ht2]; simp
    obtain ⟨l1, l2, l3, l4⟩ := two_levels t hx hy dx dy hl
    refine ⟨l2, l1, rfl, ⟨t2, u2, hy, l4⟩, fun z hz => ?_, Or.inr ⟨x, by simp, t1, _, hx, fun s hsm => ?_⟩⟩
    · have hz' : z ∈ t1 ++ [x] := by
        rcases List.mem_append.1 hz with hz | hz
        · exact List.mem_append_left _ (hi'.subset hz)
        · exact List.mem_append_right _ hz
      have : S.trail = (t1 ++ [x]) ++ (u1 ++ y :: u2) := by rw [hx]; simp
      rw [this, List.take_append]
      refine List.mem_append_left _ ?_
      rw [List.take_of_length_le (by rw [List.length_append, List.length_singleton]; omega)]
      exact hz'
    · obtain ⟨j, hj, ej⟩ := mem_idx hsm
      rw [List.length_take] at hj
      have ej' : S.starts.getD j 0 = s := by
        rw [← ej, List.getD_eq_getElem?_getD, List.getD_eq_getElem?_getD, List.getElem?_take_of_lt (by omega)]
      rw [← ej']
      have ex := t.lv _ _ _ hx
      unfold Sv.level at hj
      rw [ex] at hj
      exact (sorted_count t.st t1.length j (by omega)).2 (by omega)
end Go.Proofs.Ytnanofipjiclfaa
end PartQ9

section PartQ10
/- Plain facts on the solver's model: the state of a search is kept. -/
set_option linter.unusedSimpArgs false
set_option linter.unusedVariables false
namespace Go.Proofs.Ytnanofipjiclfaa
open Go Go.Ab

theorem take_of_lt {α : Type} {t u : List α} {s : Nat} (h : s ≤ t.length) : (t ++ u).take s = t.take s := List.take_append_of_le_length h
theorem Ppg.lv0 {b M : Nat} {S S' : Sv} (p : Ppg S S') (h : Lv0 b M S) : Lv0 b M S' := by
  obtain ⟨t, ht⟩ := p.ext
  refine ⟨p.gd, p.tz, fun s hs => ?_, by rw [p.stl.steps, p.stl.nlearned]; exact h.sl, fun k hk => ?_, by rw [p.stl.steps]; exact h.s12, fun l hl hd => ?_, by rw [p.stl.stamp, p.stl.nlearned]; exact h.stm⟩
  · rw [p.starts] at hs
    have := h.tz.sl s hs
    rw [ht, take_of_lt (by omega)]
    exact (h.qz s hs).stl p.stl
  · rw [p.stl.nlearned] at hk
    rw [p.stl.lits, p.stl.steps]
    exact h.cls k hk
  · obtain ⟨t2, u2, e⟩ := List.append_of_mem hl
    rcases p.tz.rs _ _ _ e with ⟨-, h2⟩ | ⟨h1, -⟩
    · rw [p.starts] at h2
      have hlt := h.tz.sl _ h2
      have e2 : S.trail = t2 ++ l :: (u2.take (S.trail.length - t2.length - 1)) := by
        have e3 : S.trail = (t2 ++ l :: u2).take S.trail.length := by rw [← e, ht, take_of_lt (Nat.le_refl _), List.take_length]
        rw [List.take_append] at e3
        rw [List.take_of_length_le (by omega)] at e3
        obtain ⟨k, hk⟩ : ∃ k, S.trail.length - t2.length = k + 1 := ⟨S.trail.length - t2.length - 1, by omega⟩
        rw [hk, List.take_succ_cons] at e3
        rw [hk, Nat.add_sub_cancel]
        exact e3
      refine h.dec l (by rw [e2]; simp) ?_
      rcases h.tz.rs _ _ _ e2 with h3 | h3
      · exact h3.1
      · exact absurd h2 h3.2.1
    · unfold IsDec at hd; omega
theorem decide_lv {b M : Nat} {S : Sv} (h : Lv b M S) (hq : S.queue = []) {l : Int} (hl : LitV S.vars l) (hb : vr l ≤ b) (hf : Free S l) (hleft : S.left ≠ 0) : (S.decide' l).2 = true ∧ Lv b M (S.decide' l).1 ∧ Stl S (S.decide' l).1 ∧ (S.decide' l).1.trail = S.trail ++ [l] ∧ (S.decide' l).1.starts = S.starts ++ [S.trail.length] ∧ (S.decide' l).1.left = S.left - 1 ∧ (S.decide' l).1.reasons = S.reasons.set (vr l) (-1) := by
  have g := h.l0.gd
  have gd0 : Gd { S with starts := S.starts ++ [S.trail.length] } := g.starts _ S.queue g.qu
  have hf0 : Free { S with starts := S.starts ++ [S.trail.length] } l := hf
  have qt := h.cmp.quiet g hq
  have s0 : Stl S { S with starts := S.starts ++ [S.trail.length] } := ⟨rfl, rfl, rfl, rfl, rfl, rfl, rfl, rfl, rfl, rfl, fun _ => Iff.rfl, fun _ => rfl⟩
  obtain ⟨e0, a, e1, e2, e3⟩ := assign_asg (S := { S with starts := S.starts ++ [S.trail.length] }) (reason := -1) gd0 hl hleft
  have g2 := gd0.assign (reason := -1) hl hf0 hleft
  unfold Sv.decide'
  generalize ({ S with starts := S.starts ++ [S.trail.length] } : Sv).assign l (-1) = p at e0 a e1 e2 e3 g2
  obtain ⟨S2, bb⟩ := p
  simp only at e0 a e1 e2 e3 g2 ⊢
  have st : Stl S S2 := s0.trans a.stl
  have hst : S2.starts = S.starts ++ [S.trail.length] := a.starts
  have htr : S2.trail = S.trail ++ [l] := a.trail
  have t2 : Tz S2 := asg_tz (S0 := S) g h.l0.tz hl hf st htr e2 (by rw [e3, a.starts]) (Or.inr ⟨hst, by omega⟩)
  have hnv := free_vr g hl hf
  refine ⟨e0, ⟨⟨g2, t2, fun s hs => ?_, by rw [st.steps, st.nlearned]; exact h.l0.sl, fun k hk => ?_, by rw [st.steps]; exact h.l0.s12, fun x hx hd => ?_, by rw [st.stamp, st.nlearned]; exact h.l0.stm⟩, fun k h1 h2 h3 => ?_, fun k hk => ?_⟩, st, htr, hst, e1, e2⟩
  · rw [hst, List.mem_append, List.mem_singleton] at hs
    rw [htr]
    rcases hs with hs | rfl
    · have := h.l0.tz.sl s hs
      rw [take_of_lt (by omega)]
      exact (h.l0.qz s hs).stl st
    · rw [take_of_lt (Nat.le_refl _), List.take_length]
      exact qt.stl st
  · rw [st.nlearned] at hk
    rw [st.lits, st.steps]
    exact h.l0.cls k hk
  · rw [htr, List.mem_append, List.mem_singleton] at hx
    rcases hx with hx | rfl
    · refine h.l0.dec x hx ?_
      unfold IsDec at *
      rw [e2, getD_set_ne fun e => hnv (by rw [e]; exact List.mem_map_of_mem hx)] at hd
      exact hd
    · exact hb
  · have h1' := (a.ok k).1 h1
    have hk := gd0.held_nonneg h1'
    rw [a.queue]
    by_cases hm : k ∈ S.occ.getD (code (-l)) []
    · exact Or.inr ⟨hm, h2, h3⟩
    · have e4 := a.opn k
      have e5 := a.held k
      rw [if_neg hm] at e4
      rw [e4] at h3
      rw [e5] at h2
      by_cases hm2 : k ∈ S.occ.getD (code l) []
      · rw [if_pos hm2] at h2; omega
      · rw [if_neg hm2] at h2
        exact Or.inl (h.cmp k h1' h2 h3)
  · rcases (a.queue k).1 hk with hk | hk
    · have : k ∈ S.queue := hk
      rw [hq] at this
      cases this
    · exact hk.2.2
/-- Marks that are all off. -/
theorem Lv0.wm {b M : Nat} {S : Sv} (h : Lv0 b M S) {m : List Bool} (hl : m.length = S.vars + 1) (hm : ∀ v, m.getD v false = false) : Lv0 b M { S with marked := m } := by
  have g := h.gd
  exact ⟨⟨⟨g.sh.vars, g.sh.occ, g.sh.last, g.sh.truth, g.sh.reasons, g.sh.levels, hl⟩, g.v1, g.na, g.nl, g.lits, g.ll, g.nd, g.ok, g.mem, g.low, g.hc, g.oc, g.tv, g.tn, g.tt, g.la, hm, g.qu⟩, ⟨h.tz.rs, h.tz.lv, h.tz.st, h.tz.sl⟩, h.qz, h.sl, h.cls, h.s12, h.dec, h.stm⟩
theorem sorted_lt {s : List Nat} (h : s.Pairwise (· < ·)) {i j : Nat} (hij : i < j) (hj : j < s.length) : s.getD i 0 < s.getD j 0 := by
  rw [List.getD_eq_getElem?_getD, List.getD_eq_getElem?_getD, List.getElem?_eq_getElem hj, List.getElem?_eq_getElem (Nat.lt_trans hij hj)]
  exact List.pairwise_iff_getElem.1 h i j _ _ hij
theorem tz_cut {S S' : Sv} (t : Tz S) {back n : Nat} (hb : back < S.starts.length) (hn : n = S.starts.getD back 0) (h1 : S'.trail = S.trail.take n) (h2 : S'.starts = S.starts.take back) (h3 : S'.reasons = S.reasons) (h4 : S'.levels = S.levels) (h5 : ∀ k, okId S k → okId S' k) (h6 : ∀ k, okId S k → (S'.cl k).lits = (S.cl k).lits) : Tz S' := by
  have hmem : S.starts.getD back 0 ∈ S.starts := by rw [List.getD_eq_getElem?_getD, List.getElem?_eq_getElem hb]; exact List.getElem_mem hb
  have hnl : n < S.trail.length := by rw [hn]; exact t.sl _ hmem
  have hsplit : ∀ {t' l u}, S'.trail = t' ++ l :: u → S.trail = t' ++ l :: (u ++ S.trail.drop n) ∧ t'.length < n := fun {t' l u} e => by
    rw [h1] at e
    refine ⟨?_, ?_⟩
    · have e9 := List.take_append_drop n S.trail
      rw [e, List.append_assoc] at e9
      exact e9.symm
    · have := congrArg List.length e
      rw [List.length_take, List.length_append, List.length_cons] at this
      omega
  have hlow : ∀ q, q < n → (q ∈ S.starts.take back ↔ q ∈ S.starts) := fun q hq => by
    refine ⟨fun h => List.mem_of_mem_take h, fun h => ?_⟩
    obtain ⟨j, hj, ej⟩ := mem_idx h
    have c1 := sorted_count t.st q j hj
    have c2 := sorted_count t.st q back hb
    have hjb : j < back := by omega
    rw [← ej, List.getD_eq_getElem?_getD, ← List.getElem?_take_of_lt (i := j) (j := back) hjb]
    have hj2 : j < (S.starts.take back).length := by rw [List.length_take]; omega
    rw [List.getElem?_eq_getElem hj2]
    exact List.getElem_mem hj2
  refine ⟨fun t' l u e => ?_, fun t' l u e => ?_, ?_, fun s hs => ?_⟩
  · obtain ⟨e', hlt⟩ := hsplit e
    have := t.rs _ _ _ e'
    unfold RsOk at *
    rw [h3, h2, hlow _ hlt]
    rcases this with h | ⟨p1, p2, p3, p4, p5⟩
    · exact Or.inl h
    · refine Or.inr ⟨p1, p2, h5 _ p3, ?_⟩
      rw [h6 _ p3]
      exact ⟨p4, p5⟩
  · obtain ⟨e', hlt⟩ := hsplit e
    rw [h4, h2, t.lv _ _ _ e']
    have e2 : S.starts = S.starts.take back ++ S.starts.drop back := (List.take_append_drop _ _).symm
    have e3 : (S.starts.drop back).countP (fun s => decide (s ≤ t'.length)) = 0 := by
      rw [List.countP_eq_zero]
      intro s hs
      obtain ⟨j, hj, ej⟩ := mem_idx hs
      rw [List.length_drop] at hj
      have ej' : S.starts.getD (back + j) 0 = s := by
        rw [← ej, List.getD_eq_getElem?_getD, List.getD_eq_getElem?_getD, List.getElem?_drop]
      have c1 := sorted_count t.st t'.length (back + j) (by omega)
      have c2 := sorted_count t.st t'.length back hb
      simp only [decide_eq_true_eq]
      omega
    conv => lhs; rw [e2, List.countP_append, e3]
    rfl
  · rw [h2]; exact t.st.sublist (List.take_sublist _ _)
  · rw [h2] at hs
    obtain ⟨j, hj, ej⟩ := mem_idx hs
    rw [List.length_take] at hj
    have ej' : S.starts.getD j 0 = s := by
      rw [← ej, List.getD_eq_getElem?_getD, List.getD_eq_getElem?_getD, List.getElem?_take_of_lt (by omega)]
    rw [h1, List.length_take]
    have := sorted_lt t.st (i := j) (j := back) (by omega) hb
    omega
end Go.Proofs.Ytnanofipjiclfaa
end PartQ10

section PartQ11
/- Plain facts on the solver's model: a conflict; going back keeps the state of a search. -/
set_option linter.unusedSimpArgs false
set_option linter.unusedVariables false
namespace Go.Proofs.Ytnanofipjiclfaa
open Go Go.Ab

/-- All variables below the first are assigned. -/
def Fi (S : Sv) : Prop := 1 ≤ S.first ∧ S.first ≤ S.vars + 1 ∧ ∀ v, 1 ≤ v → v < S.first → ∃ l ∈ S.trail, vr l = v
/-- A clause waits that makes a literal of an input variable true. -/
def Pend (b : Nat) (S : Sv) : Prop := ∃ id l, S.queue = [id] ∧ okId S id ∧ (S.cl id).held = 0 ∧ (S.cl id).opn ≤ 1 ∧ l ∈ (S.cl id).lits ∧ S.tr (-l) = false ∧ vr l ≤ b
theorem again_perm {S : Sv} {neg : List Int} (h : S.again neg = true) : 0 < S.steps.length ∧ (S.steps.getD (S.steps.length - 1) ([], [])).1.Perm neg := by
  unfold Sv.again at h
  cases hl : S.steps.getLast? with
  | none => rw [hl] at h; cases h
  | some s =>
    rw [hl] at h
    simp only [Sv.same, Bool.and_eq_true, List.isPerm_iff] at h
    rw [List.getLast?_eq_getElem?] at hl
    have : 0 < S.steps.length := by
      rcases Nat.eq_zero_or_pos S.steps.length with h0 | h0
      · rw [List.length_eq_zero_iff] at h0; rw [h0] at hl; cases hl
      · exact h0
    refine ⟨this, ?_⟩
    rw [List.getD_eq_getElem?_getD, hl]
    exact h.2
/-- Under the literals one goes back to, a clause of the negated decisions is open at one place only. -/
theorem not_quiet {S : Sv} (g : Gd S) {i : List Int} {y : Int} {n : Nat} (hs : (i ++ [y]).Sublist S.trail) (hi : ∀ x ∈ i, x ∈ S.trail.take n) {c : List Int} (hc : ∀ m ∈ c, -m ∈ i ++ [y]) :
    ¬ ((∃ m ∈ c, m ∈ S.trail.take n) ∨ (∃ m1 ∈ c, ∃ m2 ∈ c, m1 ≠ m2 ∧ -m1 ∉ S.trail.take n ∧ -m2 ∉ S.trail.take n)) := by
  rintro (⟨m, h1, h2⟩ | ⟨m1, h1, m2, h2, hne, n1, n2⟩)
  · have h3 := hs.subset (hc m h1)
    have h4 := List.mem_of_mem_take h2
    exact g.not_both h4 h3
  · have key : ∀ m ∈ c, -m ∉ S.trail.take n → -m = y := fun m hm hn => by
      rcases List.mem_append.1 (hc m hm) with h | h
      · exact absurd (hi _ h) hn
      · simpa using h
    have e1 := key m1 h1 n1
    have e2 := key m2 h2 n2
    exact hne (by omega)
theorem not_again {b M : Nat} {S : Sv} (h : Lv0 b M S) {i : List Int} {y : Int} (hs : (i ++ [y]).Sublist S.trail) (hd : ∀ l ∈ i ++ [y], IsDec S l) : S.again ((i ++ [y]).map (- ·)) = false := by
  rw [Bool.eq_false_iff]
  intro ha
  obtain ⟨h0, hp⟩ := again_perm ha
  have B := back_spec h.gd h.tz hs hd
  have hmem : S.starts.getD (S.backLevel (i ++ [y])) 0 ∈ S.starts := by rw [List.getD_eq_getElem?_getD, List.getElem?_eq_getElem B.lt]; exact List.getElem_mem B.lt
  have hk : S.steps.length - 1 < S.learned.length := by rw [← h.sl]; omega
  have hcl := h.cls _ hk
  have hok : okId S (cmax + (S.steps.length - 1)) := by
    unfold okId clI clL
    rw [if_pos (Nat.le_add_right _ _), if_pos (Nat.le_add_right _ _)]
    omega
  have hq := h.qz _ hmem _ hok
  rw [hcl] at hq
  refine not_quiet h.gd hs B.inn (c := (S.steps.getD (S.steps.length - 1) ([], [])).1) (fun m hm => ?_) hq
  have := hp.mem_iff.1 hm
  obtain ⟨x, hx, rfl⟩ := List.mem_map.1 this
  rw [Int.neg_neg]
  exact hx
/-- After a conflict. -/
structure Bkd (b M : Nat) (S N : Sv) (ds : List Int) (hints : List Nat) : Prop where
  lv : Lv b M N
  pend : Pend b N
  fi : Fi S → Fi N
  vars : N.vars = S.vars
  trail : N.trail = S.trail.take (S.starts.getD (S.backLevel ds) 0)
  starts : N.starts = S.starts.take (S.backLevel ds)
  left : N.left = S.left
  steps : N.steps = S.steps ++ [(ds.map (- ·), hints)]
  nadded : N.added.length = S.added.length
  nlearned : N.learned.length = S.learned.length + 1
  reasons : N.reasons = S.reasons
  solves : N.solves = S.solves
  ok : ∀ k, okId N k ↔ okId S k ∨ k = cmax + S.learned.length
  lits : ∀ k, okId S k → (N.cl k).lits = (S.cl k).lits
set_option maxHeartbeats 1000000 in
theorem back_lv {b M : Nat} {S : Sv} (hb : b ≤ 12) (h : Lv0 b M S) {i : List Int} {y : Int} (hints : List Nat) (hs : (i ++ [y]).Sublist S.trail) (hd : ∀ l ∈ i ++ [y], IsDec S l) (hst : S.steps.length < pmax) :
    (S.learn (i ++ [y]) hints).2 = true ∧ (S.learn (i ++ [y]) hints).1.level = S.level ∧ ((S.learn (i ++ [y]) hints).1.backjump (i ++ [y])).2 = S.backLevel (i ++ [y]) ∧ Bkd b M S ((S.learn (i ++ [y]) hints).1.backjump (i ++ [y])).1 (i ++ [y]) hints := by
  have B := back_spec h.gd h.tz hs hd
  have hdl : (i ++ [y]).length ≤ b := dec_len h.gd h.dec hs hd
  have hv : ∀ l ∈ i ++ [y], LitV S.vars l := fun l hl => h.gd.tv l (hs.subset hl)
  have hys : y ∈ S.trail := hs.subset (by simp)
  have na := not_again h hs hd
  rcases learn_cases (hints := hints) h.gd hv h.sl with ⟨h1, -⟩ | ⟨-, h1, -⟩ | ⟨-, -, e0, en, esteps, elen, eadd⟩
  · rw [na] at h1; cases h1
  · omega
  have g2 := en.gd h.gd (fun l hl => by
    obtain ⟨x, hx, rfl⟩ := List.mem_map.1 hl
    exact (hv x hx).neg) (by rw [List.length_map]; omega) (by rw [eadd]; exact h.gd.na) (by have := h.sl; simp only [pmax] at hst; omega)
  generalize S.learn (i ++ [y]) hints = L at e0 en esteps elen eadd g2 ⊢
  obtain ⟨S2, bb⟩ := L
  simp only at e0 en esteps elen eadd g2 ⊢
  have hlev : S2.level = S.level := by funext l; unfold Sv.level; rw [en.levels]
  have hbl : S2.backLevel (i ++ [y]) = S.backLevel (i ++ [y]) := by unfold Sv.backLevel; rw [hlev]
  refine ⟨e0, hlev, hbl, ?_⟩
  generalize hbk : S.backLevel (i ++ [y]) = back at B hbl
  unfold Sv.backjump
  simp only [hbl]
  rw [en.starts]
  generalize hn : S.starts.getD back 0 = n at B
  obtain ⟨g3, r⟩ := g2.retract n
  generalize S2.retract n = S3 at g3 r
  have hidn : cmax + S3.learned.length - 1 = cmax + S.steps.length := by rw [r.nlearned, elen, h.sl]; omega
  rw [hidn]
  have g4 := g3.starts (S3.starts.take back) [] (by intro k hk; cases hk)
  have hid3 : okId S3 (cmax + S.steps.length) := (r.ok _).2 ((en.ok _).2 (Or.inr rfl))
  have hid4 : okId { S3 with starts := S3.starts.take back, queue := [] } (cmax + S.steps.length) := hid3
  have m5 : ∀ k, k ∈ (({ S3 with starts := S3.starts.take back, queue := [] } : Sv).examine (cmax + S.steps.length)).queue ↔ (k = cmax + S.steps.length ∧ (S3.cl (cmax + S.steps.length)).held = 0 ∧ (S3.cl (cmax + S.steps.length)).opn ≤ 1) := fun k => by
    rw [mem_ex]
    exact ⟨fun h => h.elim (fun h => by cases h) fun x => x, Or.inr⟩
  have e5 : (S3.cl (cmax + S.steps.length)).held = 0 ∧ (S3.cl (cmax + S.steps.length)).opn ≤ 1 → (({ S3 with starts := S3.starts.take back, queue := [] } : Sv).examine (cmax + S.steps.length)).queue = [cmax + S.steps.length] := fun hc => by
    unfold Sv.examine
    have : (({ S3 with starts := S3.starts.take back, queue := [] } : Sv).cl (cmax + S.steps.length)).held = 0 ∧ (({ S3 with starts := S3.starts.take back, queue := [] } : Sv).cl (cmax + S.steps.length)).opn ≤ 1 := hc
    rw [if_pos this]
    show Sv.hpush [] _ = _
    have := hpush_perm [] (cmax + S.steps.length)
    rw [List.nil_append] at this
    exact List.perm_singleton.1 this
  have q5 := Qch.ex ({ S3 with starts := S3.starts.take back, queue := [] } : Sv) (cmax + S.steps.length)
  have g5 := g4.examine hid4
  generalize (({ S3 with starts := S3.starts.take back, queue := [] } : Sv).examine (cmax + S.steps.length)) = N at m5 e5 q5 g5
  have hcl5 : ∀ k, N.cl k = S3.cl k := fun k => q5.cl k
  have hok5 : ∀ k, okId N k ↔ okId S k ∨ k = cmax + S.steps.length := fun k => (q5.ok k).trans ((r.ok k).trans (en.ok k))
  obtain ⟨qq, e6⟩ := q5
  have t1 : N.trail = S.trail.take n := by rw [e6]; exact r.trail.trans (by rw [en.trail])
  have t2 : N.starts = S.starts.take back := by rw [e6]; show S3.starts.take back = _; rw [r.starts, en.starts]
  have t3 : N.reasons = S.reasons := by rw [e6]; exact r.reasons.trans en.reasons
  have t4 : N.levels = S.levels := by rw [e6]; exact r.levels.trans en.levels
  have t5 : N.steps = S.steps ++ [((i ++ [y]).map (- ·), hints)] := by rw [e6]; exact r.steps.trans esteps
  have t6 : N.learned.length = S.learned.length + 1 := by rw [e6]; exact r.nlearned.trans elen
  have t7 : N.stamp = S.stamp + 1 := by rw [e6]; exact r.stamp.trans en.stamp
  have t8 : N.left = S.left := by rw [e6]; exact r.left.trans en.left
  have t9 : N.vars = S.vars := by rw [e6]; exact r.vars.trans en.vars
  have t10 : N.solves = S.solves := by rw [e6]; exact r.solves.trans en.solves
  have t11 : N.added.length = S.added.length := by rw [e6]; exact r.nadded.trans (by rw [eadd])
  have t12 : N.first = S3.first := by rw [e6]
  have hlo : ∀ k, okId S k → (N.cl k).lits = (S.cl k).lits := fun k hk => by rw [hcl5, r.lits, en.cl k hk]
  have hln : (N.cl (cmax + S.steps.length)).lits = (i ++ [y]).map (- ·) := by rw [hcl5, r.lits, en.lits]
  have hidN : okId N (cmax + S.steps.length) := (hok5 _).2 (Or.inr rfl)
  have hmem : n ∈ S.starts := by rw [← hn, List.getD_eq_getElem?_getD, List.getElem?_eq_getElem B.lt]; exact List.getElem_mem B.lt
  have hqn := h.qz n hmem
  have tz : Tz N := tz_cut h.tz B.lt hn.symm t1 t2 t3 t4 (fun k hk => (hok5 k).2 (Or.inl hk)) hlo
  -- the literals of the new clause
  obtain ⟨ty, uy, hy, hyl⟩ := B.out
  have hnin : ∀ {t u : List Int} {x : Int} {s : Nat}, S.trail = t ++ x :: u → s ≤ t.length → x ∉ S.trail.take s := fun {t u x s} e hle hm => by
    have hnd := h.gd.tn
    rw [e, List.map_append, List.map_cons, List.nodup_append] at hnd
    rw [e, take_of_lt hle] at hm
    exact hnd.2.2 _ (List.mem_map_of_mem (List.mem_of_mem_take hm)) _ (List.mem_cons_self ..) rfl
  have hyN : y ∉ N.trail := by rw [t1]; exact hnin hy hyl
  have hneg : ∀ m ∈ (i ++ [y]).map (- ·), -m ∈ i ++ [y] := fun m hm => by
    obtain ⟨x, hx, rfl⟩ := List.mem_map.1 hm
    rw [Int.neg_neg]; exact hx
  have hheld : (N.cl (cmax + S.steps.length)).held = 0 := by
    refine (g5.held_zero hidN).2 fun l hl => ?_
    rw [hln] at hl
    rw [Bool.eq_false_iff]
    intro ht
    have hm := (g5.tt l (by have := g5.lits _ hidN l (by rw [hln]; exact hl); exact this)).1 ht
    rw [t1] at hm
    exact h.gd.not_both (List.mem_of_mem_take hm) (hs.subset (hneg l hl))
  have hopn : (N.cl (cmax + S.steps.length)).opn ≤ 1 := by
    refine Int.not_lt.1 fun h1 => ?_
    obtain ⟨l, m, hl, hm, hne, tl, tm⟩ := g5.opn_two hidN h1
    have vl := (g5.lits _ hidN l hl).neg
    have vm := (g5.lits _ hidN m hm).neg
    rw [hln] at hl hm
    refine not_quiet h.gd hs B.inn hneg (Or.inr ⟨l, hl, m, hm, hne, fun h' => ?_, fun h' => ?_⟩)
    · rw [(g5.tt _ vl).2 (by rw [t1]; exact h')] at tl; cases tl
    · rw [(g5.tt _ vm).2 (by rw [t1]; exact h')] at tm; cases tm
  have hq : N.queue = [cmax + S.steps.length] := e5 ⟨by rw [← hcl5]; exact hheld, by rw [← hcl5]; exact hopn⟩
  refine ⟨⟨⟨g5, tz, fun s hs' => ?_, by rw [t5, t6, List.length_append, h.sl]; rfl, fun k hk => ?_, fun s hs' => ?_, fun l hl hd' => ?_, by rw [t6, t7]; have := h.stm; omega⟩, fun k h1 h2 h3 => ?_, fun k hk => ?_⟩, ?_, fun hf => ?_, t9, t1.trans (by rw [hbk, hn]), t2.trans (by rw [hbk]), t8, t5, t11, t6, t3, t10, fun k => by rw [hok5, h.sl], hlo⟩
  · rw [t2] at hs'
    have hsm := List.mem_of_mem_take hs'
    have hsn : s < n := by
      obtain ⟨j, hj, ej⟩ := mem_idx hs'
      rw [List.length_take] at hj
      have ej' : S.starts.getD j 0 = s := by
        rw [← ej, List.getD_eq_getElem?_getD, List.getD_eq_getElem?_getD, List.getElem?_take_of_lt (by omega)]
      rw [← ej', ← hn]
      exact sorted_lt h.tz.st (by omega) B.lt
    rw [t1, List.take_take, Nat.min_eq_left (by omega)]
    intro k hk
    rcases (hok5 k).1 hk with hk' | rfl
    · rw [hlo k hk']; exact h.qz s hsm k hk'
    · rw [hln]
      rcases B.low with h0 | ⟨x, hx, t', u', ex, hle⟩
      · subst h0; simp at hs'
      · refine Or.inr ⟨-x, List.mem_map_of_mem (List.mem_append_left _ hx), -y, List.mem_map_of_mem (by simp), fun e => ?_, ?_, ?_⟩
        · have exy : x = y := by omega
          have := B.inn x hx
          rw [exy] at this
          exact hyN (by rw [t1]; exact this)
        · rw [Int.neg_neg]; exact hnin ex (hle s hs')
        · rw [Int.neg_neg]; exact hnin hy (by omega)
  · rw [t6] at hk
    rw [t5]
    rcases Nat.lt_or_ge k S.learned.length with hk' | hk'
    · have hok : okId S (cmax + k) := by
        unfold okId clI clL
        rw [if_pos (Nat.le_add_right _ _), if_pos (Nat.le_add_right _ _)]
        omega
      rw [hlo _ hok, h.cls k hk', List.getD_eq_getElem?_getD, List.getD_eq_getElem?_getD, List.getElem?_append_left (by rw [h.sl]; exact hk')]
    · obtain rfl : k = S.steps.length := by rw [h.sl]; omega
      rw [hln, List.getD_eq_getElem?_getD]
      simp
  · rw [t5, List.mem_append, List.mem_singleton] at hs'
    rcases hs' with hs' | rfl
    · exact h.s12 s hs'
    · rw [List.length_map]; omega
  · rw [t1] at hl
    exact h.dec l (List.mem_of_mem_take hl) ((IsDec.stl t3).1 hd')
  · rcases (hok5 k).1 h1 with hk | rfl
    · exfalso
      have := hqn k hk
      rw [← hlo k hk] at this
      rcases this with ⟨m, hm, hm'⟩ | ⟨m1, hm1, m2, hm2, hne, n1, n2⟩
      · have := (g5.held_zero h1).1 h2 m hm
        rw [(g5.tt m (g5.lits _ h1 m hm)).2 (by rw [t1]; exact hm')] at this
        cases this
      · refine hne (g5.opn_one h1 h3 hm1 hm2 ?_ ?_)
        · rw [Bool.eq_false_iff]
          intro ht
          exact n1 (by rw [← t1]; exact (g5.tt _ (g5.lits _ h1 m1 hm1).neg).1 ht)
        · rw [Bool.eq_false_iff]
          intro ht
          exact n2 (by rw [← t1]; exact (g5.tt _ (g5.lits _ h1 m2 hm2).neg).1 ht)
    · rw [hq]; simp
  · rw [hq, List.mem_singleton] at hk
    rw [hk]; exact hopn
  · refine ⟨cmax + S.steps.length, -y, hq, hidN, hheld, hopn, by rw [hln]; simp, ?_, ?_⟩
    · rw [Bool.eq_false_iff, Int.neg_neg]
      intro ht
      exact hyN ((g5.tt y (by rw [t9]; exact h.gd.tv y hys)).1 ht)
    · have := h.dec y hys (hd y (by simp))
      have e : vr (-y) = vr y := by unfold vr; omega
      rw [e]; exact this
  · obtain ⟨f1, f2, f3⟩ := hf
    have rf := r.first
    rw [en.first] at rf
    refine ⟨by rw [t12]; exact r.pos (by rw [en.first]; exact f1), by rw [t12, t9]; omega, fun v h1 h2 => ?_⟩
    rw [t12] at h2
    obtain ⟨l, hl, e⟩ := f3 v h1 (by omega)
    refine ⟨l, ?_, e⟩
    rw [t1]
    rw [← List.take_append_drop n S.trail] at hl
    rcases List.mem_append.1 hl with hl | hl
    · exact hl
    · have := r.gone l (by rw [en.trail]; exact hl)
      omega
end Go.Proofs.Ytnanofipjiclfaa
end PartQ11

section PartQ12
/- Plain facts on the solver's model: what is learned from a conflict and from a contradicted assumption. -/
set_option linter.unusedSimpArgs false
set_option linter.unusedVariables false
namespace Go.Proofs.Ytnanofipjiclfaa
open Go Go.Ab

theorem getD_false {l : List Bool} {n : Nat} (h : ∀ v, l.getD v false = true → False) (v : Nat) : l.getD v false = false := by
  cases hv : l.getD v false with
  | true => exact (h v hv).elim
  | false => rfl
/-- What explain finds for a clause that is false. -/
structure Cfl (b M : Nat) (S : Sv) (p : List Bool × List Int × List Nat) : Prop where
  l0 : Lv0 b M { S with marked := p.1 }
  len : p.1.length = S.marked.length
  sub : p.2.1.reverse.Sublist S.trail
  dec : ∀ l ∈ p.2.1, IsDec S l
  le : p.2.1.length ≤ b
  ok : ∀ h ∈ p.2.2, okId S h
  run : rup (fun i => (S.cl i).lits) p.2.1.reverse p.2.2.reverse
theorem conflict_spec {b M : Nat} {S : Sv} (h : Lv0 b M S) {id : Nat} (ho : okId S id) (hc : ∀ m ∈ (S.cl id).lits, -m ∈ S.trail) : Cfl b M S (S.explain id 0) := by
  have e := explain_spec h.gd h.tz (t1 := S.trail) (u1 := []) (by simp) ho (ex := 0) fun m hm => Or.inr (hc m hm)
  have hlen := e.len
  have hds : ∀ l ∈ (S.explain id 0).2.1.reverse, IsDec S l := fun l hl => e.dd l (List.mem_reverse.1 hl)
  refine ⟨h.wm hlen (getD_false (n := 0) fun v hv => by obtain ⟨l, hl, -⟩ := e.mked v hv; cases hl), by rw [hlen]; exact h.gd.sh.marked.symm, e.ds, e.dd, ?_, e.ok, ?_⟩
  · have := dec_len h.gd h.dec e.ds hds
    rwa [List.length_reverse] at this
  · refine e.run _ (fun l hl => by cases hl) (fun l hl => List.mem_reverse.2 hl) (fun hx => absurd rfl (h.gd.lits id ho 0 hx).1) fun l hl hd => ⟨fun hm => hd (hds l hm), fun hm => ?_⟩
    exact h.gd.not_both hl (e.ds.subset hm)
/-- What explain finds for an assumption that is false. -/
structure Ctr (b M : Nat) (S : Sv) (l : Int) (p : List Bool × List Int × List Nat) : Prop where
  l0 : Lv0 b M { S with marked := p.1 }
  len : p.1.length = S.marked.length
  sub : (p.2.1.reverse ++ [-l]).Sublist S.trail
  dec : ∀ x ∈ p.2.1, IsDec S x
  le : p.2.1.length + 1 ≤ b
  ok : ∀ h ∈ p.2.2, okId S h
  run : rup (fun i => (S.cl i).lits) (p.2.1.reverse ++ [l]) p.2.2.reverse
theorem contra_spec {b M : Nat} {S : Sv} (h : Lv0 b M S) {l : Int} (hl : LitV S.vars l) (hb : vr l ≤ b) (hm : -l ∈ S.trail) (hr : ¬ S.reasons.getD (vr l) 0 < 0) : okId S (S.reasons.getD (vr l) 0).toNat ∧ Ctr b M S l (S.explain (S.reasons.getD (vr l) 0).toNat (-l)) := by
  obtain ⟨t1, u1, ht⟩ := List.append_of_mem hm
  have hvn : vr (-l) = vr l := by unfold vr; omega
  have hrs := h.tz.rs _ _ _ ht
  unfold RsOk at hrs
  rw [hvn] at hrs
  rcases hrs with ⟨h1, -⟩ | ⟨h1, h2, h3, h4, h5⟩
  · exact absurd h1 hr
  generalize (S.reasons.getD (vr l) 0).toNat = r at h3 h4 h5 ⊢
  refine ⟨h3, ?_⟩
  have e := explain_spec h.gd h.tz (t1 := t1) (u1 := -l :: u1) ht h3 (ex := -l) h5
  have hlen := e.len
  have hds : ∀ x ∈ (S.explain r (-l)).2.1.reverse, IsDec S x := fun x hx => e.dd x (List.mem_reverse.1 hx)
  have hsub : ((S.explain r (-l)).2.1.reverse ++ [-l]).Sublist S.trail := by
    rw [ht]
    exact List.Sublist.append e.ds (List.singleton_sublist.2 (List.mem_cons_self ..))
  have hnd := h.gd.tn
  rw [ht, List.map_append, List.map_cons, List.nodup_append] at hnd
  refine ⟨h.wm hlen (getD_false (n := 0) fun v hv => by obtain ⟨x, hx, -⟩ := e.mked v hv; cases hx), by rw [hlen]; exact h.gd.sh.marked.symm, hsub, e.dd, ?_, e.ok, ?_⟩
  · have h1 := nodup_bound (n := b + 1) (l := 0 :: ((S.explain r (-l)).2.1.reverse ++ [-l]).map vr) (List.nodup_cons.2 ⟨fun hm' => by
        obtain ⟨a, ha, e'⟩ := List.mem_map.1 hm'
        have va := h.gd.tv a (hsub.subset ha)
        unfold LitV at va
        unfold vr at e'
        omega, (hsub.map vr).nodup h.gd.tn⟩) fun x hx => by
      rcases List.mem_cons.1 hx with rfl | hx
      · omega
      · obtain ⟨a, ha, rfl⟩ := List.mem_map.1 hx
        rcases List.mem_append.1 ha with ha' | ha'
        · have := h.dec a (hsub.subset ha) (hds a ha')
          omega
        · rw [List.mem_singleton] at ha'
          rw [ha', hvn]
          omega
    rw [List.length_cons, List.length_map, List.length_append, List.length_reverse, List.length_singleton] at h1
    omega
  · have hlt : ∀ x ∈ t1, vr x ≠ vr l := fun x hx e' => hnd.2.2 _ (List.mem_map_of_mem hx) _ (List.mem_cons_self ..) (by rw [hvn]; exact e')
    refine e.run _ (fun x hx => by cases hx) (fun x hx => List.mem_append_left _ (List.mem_reverse.2 hx)) (fun hx => by rw [Int.neg_neg]; simp) fun x hx hd => ?_
    have hx' : x ∈ S.trail := by rw [ht]; exact List.mem_append_left _ hx
    rw [List.mem_append, List.mem_append, List.mem_singleton, List.mem_singleton]
    exact ⟨fun hm' => hm'.elim (fun hm' => hd (hds x hm')) fun e' => hlt x hx (by rw [e']), fun hm' => hm'.elim (fun hm' => h.gd.not_both hx' (hsub.subset (List.mem_append_left _ hm'))) fun e' => hlt x hx (by rw [← e']; unfold vr; omega)⟩
end Go.Proofs.Ytnanofipjiclfaa
end PartQ12
