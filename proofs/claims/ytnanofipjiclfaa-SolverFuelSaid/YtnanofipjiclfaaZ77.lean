import Derived.Test.YtnanofipjiclfaaZ76
import Derived.Test.YtnanofipjiclfaaAbEnterN

section PartT25
/- Solve. -/
set_option linter.unusedSimpArgs false
set_option linter.unusedVariables false
set_option maxRecDepth 100000
namespace Go.Proofs.Ytnanofipjiclfaa
open Go Go.Ab
variable {I : Sl → Nat} {S : Sv} {σ : St}

def Sv.start (S : Sv) (asm : List Int) (fuel : Nat) : Sv × List Int := ({ S with satisfied := false, refuted := false, left := fuel } : Sv).different asm
def Sv.spent (S : Sv) (fuel : Nat) : Sv := { S with used := S.used + (fuel - S.left) }
def Sv.finish (S : Sv) (fuel : Nat) : Sv := { (S.spent fuel).retract 0 with starts := [], queue := [] }
/-- The deferred closure. -/
theorem end_ad (hS : Sol I S σ) (g : Gd S) (i0 i1 : Nat) (fuel : Nat) (hf : fuel ≤ 1000000000) (hl : S.left ≤ fuel) (hu : S.used ≤ 1000000000000) (hfi : S.first ≤ 1000000000)
    (h0 : σ[i0]? = some (some (.cells [.ref (I .st) 0]))) (h1 : σ[i1]? = some (some (.cells [dn fuel]))) (n0 : ∀ s, has S s → I s ≠ i0) (n1 : ∀ s, has S s → I s ≠ i1) (G : Glob) (R : St → Prop)
    (h : ∀ I' σ', Sol I' (S.finish fuel) σ' → Stp Any I S σ I' σ' → R σ') : AD Try.prog G 37 [.ref i0 0, .ref i1 0] none σ R := by
  refine ad_enter mixed (tx := ⟨false, [1, 2], true⟩) Try.func37 rfl Try.ntmps37 (by simp only [go_sem]) rfl fun hbd => ?_
  simp only [List.length_cons, List.length_nil, Nat.reduceAdd, Nat.reduceSub, List.replicate_succ, List.replicate_zero, List.cons_append, List.nil_append]
  have w1 : IntKind.i64.wrap ((fuel : Int) - (S.left : Int)) = ((fuel - S.left : Nat) : Int) := by rw [wrap64_id _ (by omega) (by omega)]; omega
  have w2 : IntKind.i64.wrap ((S.used : Int) + ((fuel - S.left : Nat) : Int)) = ((S.used + (fuel - S.left) : Nat) : Int) := by rw [wrap64_id _ (by omega) (by omega)]; omega
  refine aw_cut (fun fr st => fr = [.ref i0 0, .ref i1 0, .any, .any, .any, .any, .any, .any, .any, .any, .any, .any, .any, .any, .any, .any, .any, .any, .any, .any, .any, .any, .any, .any, .any, .any, .any, .any, .any, .any, .any, .any, .any, .any, .any] ∧ st[i0]? = some (some (.cells [.ref (I .st) 0])) ∧ Sol I (S.spent fuel) st ∧ Stp Any I S σ I st) ?_ ?_
  · simp only [go_sem, Try.results37]
    refine aw_plan (.tk 16 0 <| .done) (by kernel_rfl) ?_
    simp only [go_sem, live_of h0, objK_of h0, live_of h1, objK_of h1, hS.live .st, hS.ob .st, ct, w1, w2, Try.results37]
    exact Wk.mask [0, 1] ⟨rfl, by rw [set_other (n0 .st trivial)]; exact h0, hS.put .st trivial (fun t => by cases t <;> exact Iff.rfl) (by rfl) (fun t ht => by cases t <;> first | rfl | exact absurd rfl ht), stp_put _ .st trivial⟩
  rintro fr st ⟨rfl, hb0, hS1, hT1⟩
  have g1 : Gd (S.spent fuel) := ⟨⟨g.sh.vars, g.sh.occ, g.sh.last, g.sh.truth, g.sh.reasons, g.sh.levels, g.sh.marked⟩, g.v1, g.na, g.nl, g.lits, g.ll, g.nd, g.ok, g.mem, g.low, g.hc, g.oc, g.tv, g.tn, g.tt, g.la, g.um, g.qu⟩
  have e1 : (S.spent fuel).first = S.first ∧ (S.spent fuel).starts = S.starts ∧ (S.spent fuel).queue = S.queue := ⟨rfl, rfl, rfl⟩
  have hh1 : ∀ s, has S s ↔ has (S.spent fuel) s := fun s => by cases s <;> exact Iff.rfl
  have hfin : S.finish fuel = { (S.spent fuel).retract 0 with starts := [], queue := [] } := rfl
  rw [hfin] at h
  have m0 : ∀ s, has (S.spent fuel) s → I s ≠ i0 := fun s hs => n0 s ((hh1 s).2 hs)
  generalize S.spent fuel = S1 at hS1 g1 e1 hh1 h m0
  have htl := g1.tlen
  have hv1 := g1.v1
  obtain ⟨g2, r2⟩ := g1.retract 0
  have hh2 : ∀ s, has S1 s ↔ has (S1.retract 0) s := SameOcc.has (by unfold SameOcc; rw [r2.occ])
  refine aw_cut (fun fr st => fr = [.ref i0 0, .ref i1 0, .any, .any, .any, .any, .any, .any, .any, .any, .any, .any, .any, .any, .any, .any, .any, .any, .any, .any, .any, .any, .any, .any, .any, .any, .any, .any, .any, .any, .any, .any, .any, .any, .any] ∧ ∃ I', I' .st = I .st ∧ st[i0]? = some (some (.cells [.ref (I .st) 0])) ∧ Sol I' (S1.retract 0) st ∧ Stp Any I S σ I' st) ?_ ?_
  · simp only [go_sem, live_of hb0, objK_of hb0, Try.results37]
    refine ac' (retract_ac (n := 0) hS1 g1.sh (by omega) 1000 g1.cb (by omega) (fun l hl => ⟨g1.tv l hl, g1.occOk l, g1.occOk (-l)⟩) (by omega) (by rw [e1.1]; exact hfi) _ _ fun rr I' σ' k1 k2 => ?_)
    simp only [go_sem, Try.results37]
    exact Wk.mask [0, 1] ⟨rfl, I', k2.st, by rw [k2.keep i0 (lt_of_some hb0) (fun s hs e => m0 s hs e.symm)]; exact hb0, k1, hT1.trans hh1 k2⟩
  clear hS1 hT1 hb0
  rintro fr st ⟨rfl, I', hI', hb0, hS2, hT2⟩
  have e2 : (S1.retract 0).starts = S.starts ∧ (S1.retract 0).queue = S.queue := ⟨r2.starts.trans e1.2.1, r2.queue.trans e1.2.2⟩
  have hh3 : ∀ s, has S s ↔ has (S1.retract 0) s := fun s => (hh1 s).trans (hh2 s)
  generalize S1.retract 0 = S2 at hS2 h e2 hh3
  rw [← hI'] at hb0
  refine aw_plan (.tk 11 0 <| .tk 2 12 <| .alt 11 (.tk 4 14 <| .done) <| .alt 14 (.take 11 <| .tk 3 15 <| .done) <| .stop) (by kernel_rfl) ?_
  have l1 : ∀ x, liveId (st.set (I' .st) (some x)) (I' .st) = true := fun x => live_of (set_same (hS2.get .st trivial))
  have l2 : ∀ cs k, objK (st.set (I' .st) (some (.cells cs))) (I' .st) k = k cs := fun cs k => objK_of (set_same (hS2.get .st trivial))
  have l3 : ∀ x, liveId (st.set (I' .st) x) (I' .starts) = true := fun x => live_of (by rw [set_other (hS2.ne (by decide))]; exact hS2.get .starts trivial)
  have l4 : ∀ x, liveId (st.set (I' .st) x) (I' .queue) = true := fun x => live_of (by rw [set_other (hS2.ne (by decide))]; exact hS2.get .queue trivial)
  simp only [go_sem, live_of hb0, objK_of hb0, hS2.live .st, hS2.ob .st, hS2.live .starts, hS2.live .queue, l1, l2, l3, l4, List.set_set, ct, Try.results37]
  unfold endS
  simp only [go_sem, Try.results37]
  refine ⟨⟨by omega, by omega⟩, ⟨by omega, by omega⟩, ?_⟩
  have hne1 : I' .st ≠ I' .starts := hS2.ne (by decide)
  have hne2 : I' .st ≠ I' .queue := hS2.ne (by decide)
  have hne3 : I' .starts ≠ I' .queue := hS2.ne (by decide)
  refine ⟨_, _, (Weak.shortAt (I' .starts) 0 (cs := natsA S2.starts) (by rw [set_other hne1]; exact hS2.get .starts trivial)).trans (Weak.shortAt (I' .queue) 0 (cs := natsA S2.queue) (by rw [set_other hne3, set_other hne2]; exact hS2.get .queue trivial)), h I' _ ⟨fun s hs => ?_, fun a c ha hc => hS2.inj a c (by cases a <;> exact ha) (by cases c <;> exact hc)⟩ ?_⟩
  · have hs2 : has S2 s := by cases s <;> exact hs
    have hg := hS2.get s hs2
    by_cases e1 : s = .st
    · subst e1
      rw [set_other (Ne.symm hne2), set_other (Ne.symm hne1), set_same hg]; rfl
    by_cases e2 : s = .starts
    · subst e2
      rw [set_other (Ne.symm hne3), set_same (x := some (.cells (natsA S2.starts))) (by rw [set_other hne1]; exact hg)]; rfl
    by_cases e3 : s = .queue
    · subst e3
      rw [set_same (x := some (.cells (natsA S2.queue))) (by rw [set_other hne3, set_other hne2]; exact hg)]; rfl
    rw [set_other (fun e => e3 (hS2.inj .queue s trivial hs2 e).symm), set_other (fun e => e2 (hS2.inj .starts s trivial hs2 e).symm), set_other (fun e => e1 (hS2.inj .st s trivial hs2 e).symm), hg]
    cases s <;> first | rfl | exact absurd rfl e1 | exact absurd rfl e2 | exact absurd rfl e3
  · refine ⟨by simpa using hT2.len, hT2.st, hT2.ids, fun id hid hn => ?_⟩
    have hk : ∀ t, has S t → I' t ≠ id := fun t ht e => by
      rcases hT2.ids t with e' | e'
      · exact hn t ht (by rw [← e, e'])
      · omega
    rw [set_other (hk .queue trivial), set_other (hk .starts trivial), set_other (hk .st trivial)]
    exact hT2.keep id hid hn
@[go_sem] theorem preD_ret {P : Program} {G G' : Glob} {n0 : Nat} {tx : Md} {fr : Fr} {σ : St} (E : FuncId → List A → Fr → St → Prop) (b : Code) (QA : Pst) (QB : FuncId → List A → Fr → Nat → Pst) : preD P G G' n0 tx E b QA QB .ret fr σ = QA .ret fr σ := (rfl)
theorem diff_occ (S : Sv) (asm : List Int) : SameOcc S (S.different asm).1 := by
  unfold SameOcc Sv.different
  exact foldl_fix (fun p : Sv × List Int => p.1.occ.length) Sv.diff1 (fun p l => by unfold Sv.diff1; split <;> rfl) asm _
def Sv.reset (S : Sv) : Sv := { S with satisfied := false, refuted := false }
set_option maxHeartbeats 8000000 in
theorem solve_ac (hS : Sol I S σ) (g : Gd S) (asm : List Int) (hal : asm.length ≤ 1000000) (fuel : Int) (hstamp : S.stamp ≤ 1000000000) (hused : S.used ≤ 100000000000) (hq : S.queue = []) (b M : Nat) (hb : b ≤ 12) (hM : M ≤ 1000000)
    (G : Glob) (R : A → St → Prop) (h1 : fuel < 0 ∨ 1000000 < fuel → ∀ I' σ', Sol I' S.reset σ' → Stp Any I S σ I' σ' → R (.tup [di 0, di 1]) σ') (h2 : asm.all S.valid = false → ∀ I' σ', Sol I' S.reset σ' → Stp Any I S σ I' σ' → R (.tup [di 0, di 210]) σ')
    (h3 : ∀ F : Nat, fuel = F → F ≤ 1000000 → asm.all S.valid = true → Gd (S.start asm F).1 ∧ (S.start asm F).1.queue = [] ∧ (S.start asm F).2.length ≤ 1000000 ∧ Sr b M (S.start asm F).2 ({ (S.start asm F).1 with first := 1 } : Sv).begin' 0 0 ∧ ∃ n r, Sv.srch (S.start asm F).2 n ({ (S.start asm F).1 with first := 1 } : Sv).begin' 0 0 = some r ∧ Gd r.1 ∧ r.1.vars = S.vars ∧ r.1.left ≤ F ∧ r.1.first ≤ 1000000000 ∧ r.1.used ≤ 1000000000000 ∧
      ∀ I' σ', Sol I' (r.1.finish F) σ' → Stp Any I S σ I' σ' → R (.tup [di r.2, di 0]) σ') : AC Try.prog G 13 [.ref (I .st) 0, .d (isD asm), di fuel] σ R := by
  have hv := g.sh.vars
  refine ac_enterN mixed (tx := ⟨false, [1, 3, 4, 6, 12], true⟩) Try.func13 rfl Try.ntmps13 (by simp only [go_sem]) rfl rfl fun hbd => ?_
  simp only [List.length_cons, List.length_nil, Nat.reduceAdd, Nat.reduceSub, List.replicate_succ, List.replicate_zero, List.cons_append, List.nil_append]
  refine awD_pre rfl ?_
  simp only [go_sem]
  refine ⟨hS.live .st, ?_⟩
  have b0 : (σ ++ [some (Ob.cells [A.ref (I Sl.st) 0]), some (Ob.cells [di fuel])])[σ.length]? = some (some (.cells [.ref (I .st) 0])) := by rw [List.getElem?_append_right (Nat.le_refl _), Nat.sub_self]; rfl
  have b1 : (σ ++ [some (Ob.cells [A.ref (I Sl.st) 0]), some (Ob.cells [di fuel])])[σ.length + 1]? = some (some (.cells [di fuel])) := by rw [List.getElem?_append_right (by omega), Nat.add_sub_cancel_left]; rfl
  have hS0 := hS.app [some (Ob.cells [A.ref (I Sl.st) 0]), some (Ob.cells [di fuel])]
  have hT0 : Stp Any I S σ I (σ ++ [some (Ob.cells [A.ref (I Sl.st) 0]), some (Ob.cells [di fuel])]) := ⟨by simp, rfl, fun _ => .inl rfl, fun id hid _ => List.getElem?_append_left hid⟩
  have hlt := fun s hs => hS.lt s hs
  generalize (σ ++ [some (Ob.cells [A.ref (I Sl.st) 0]), some (Ob.cells [di fuel])] : St) = st at b0 b1 hS0 hT0
  refine awD_pre rfl ?_
  simp only [go_sem, live_of b0, objK_of b0]
  refine ⟨hS0.live .st, awD_pre rfl ?_⟩
  have l1 : ∀ x, liveId (st.set (I .st) (some x)) (I .st) = true := fun x => live_of (set_same (hS0.get .st trivial))
  have l2 : ∀ cs k, objK (st.set (I .st) (some (.cells cs))) (I .st) k = k cs := fun cs k => objK_of (set_same (hS0.get .st trivial))
  have l3 : ∀ x, liveId (st.set (I .st) x) σ.length = true := fun x => live_of (by rw [set_other (by have := hlt .st trivial; omega)]; exact b0)
  have l4 : ∀ x k, objK (st.set (I .st) x) σ.length k = k [.ref (I .st) 0] := fun x k => objK_of (by rw [set_other (by have := hlt .st trivial; omega)]; exact b0)
  refine aw_plan (.take 0 <| .tk 2 4 <| .alt 1 (.alt 2 (.alt 3 (.tk 10 6 <| .done) <| .alt 6 (.tk 2 7 <| .alt 3 (.tk 7 9 <| .done) <| .alt 9 (.tk 2 10 <| .alt 3 (.tk 4 12 <| .done) <| .alt 12 (.take 3 <| .tk 3 13 <| .done) <| .stop) <| .stop) <| .stop) <| .alt 3 (.alt 2 (.tk 10 6 <| .done) <| .alt 6 (.tk 2 7 <| .alt 2 (.tk 7 9 <| .done) <| .alt 9 (.take 2 <| .tk 6 10 <| .done) <| .stop) <| .stop) <| .alt 6 (.tk 2 7 <| .alt 2 (.alt 3 (.tk 7 9 <| .done) <| .alt 9 (.tk 2 10 <| .alt 3 (.tk 4 12 <| .done) <| .alt 12 (.take 3 <| .tk 3 13 <| .done) <| .stop) <| .stop) <| .alt 3 (.alt 2 (.tk 7 9 <| .done) <| .alt 9 (.take 2 <| .tk 6 10 <| .done) <| .stop) <| .alt 9 (.take 2 <| .tk 2 10 <| .alt 3 (.tk 4 12 <| .done) <| .alt 12 (.take 3 <| .tk 3 13 <| .done) <| .stop) <| .stop) <| .stop) <| .alt 2 (.alt 1 (.alt 3 (.tk 10 6 <| .done) <| .alt 6 (.tk 2 7 <| .alt 3 (.tk 7 9 <| .done) <| .alt 9 (.tk 2 10 <| .alt 3 (.tk 4 12 <| .done) <| .alt 12 (.take 3 <| .tk 3 13 <| .done) <| .stop) <| .stop) <| .stop) <| .alt 3 (.alt 1 (.tk 10 6 <| .done) <| .alt 6 (.take 1 <| .tk 9 7 <| .done) <| .stop) <| .alt 6 (.take 1 <| .tk 2 7 <| .alt 3 (.tk 7 9 <| .done) <| .alt 9 (.tk 2 10 <| .alt 3 (.tk 4 12 <| .done) <| .alt 12 (.take 3 <| .tk 3 13 <| .done) <| .stop) <| .stop) <| .stop) <| .alt 3 (.alt 1 (.alt 2 (.tk 10 6 <| .done) <| .alt 6 (.tk 2 7 <| .alt 2 (.tk 7 9 <| .done) <| .alt 9 (.take 2 <| .tk 6 10 <| .done) <| .stop) <| .stop) <| .alt 2 (.alt 1 (.tk 10 6 <| .done) <| .alt 6 (.take 1 <| .tk 9 7 <| .done) <| .stop) <| .alt 6 (.take 1 <| .tk 2 7 <| .alt 2 (.tk 7 9 <| .done) <| .alt 9 (.take 2 <| .tk 6 10 <| .done) <| .stop) <| .stop) <| .alt 6 (.take 1 <| .tk 2 7 <| .alt 2 (.alt 3 (.tk 7 9 <| .done) <| .alt 9 (.tk 2 10 <| .alt 3 (.tk 4 12 <| .done) <| .alt 12 (.take 3 <| .tk 3 13 <| .done) <| .stop) <| .stop) <| .alt 3 (.alt 2 (.tk 7 9 <| .done) <| .alt 9 (.take 2 <| .tk 6 10 <| .done) <| .stop) <| .alt 9 (.take 2 <| .tk 2 10 <| .alt 3 (.tk 4 12 <| .done) <| .alt 12 (.take 3 <| .tk 3 13 <| .done) <| .stop) <| .stop) <| .stop) (by kernel_rfl) ?_
  simp (config := { maxSteps := 100000000 }) only [go_sem, live_of b0, objK_of b0, hS0.live .st, hS0.ob .st, l1, l2, l3, l4, List.set_set, ct]
  have hS1 : Sol I S.reset (st.set (I .st) (some (.cells (ct I S.reset .st)))) := hS0.put .st trivial (fun t => by cases t <;> exact Iff.rfl) (by rfl) (fun t ht => by cases t <;> first | rfl | exact absurd rfl ht)
  have hT1 : Stp Any I S σ I (st.set (I .st) (some (.cells (ct I S.reset .st)))) := hT0.trans (fun _ => Iff.rfl) (stp_put _ .st trivial)
  have b0' : (st.set (I .st) (some (.cells (ct I S.reset .st))))[σ.length]? = some (some (.cells [.ref (I .st) 0])) := by rw [set_other (by have := hlt .st trivial; omega)]; exact b0
  have b1' : (st.set (I .st) (some (.cells (ct I S.reset .st))))[σ.length + 1]? = some (some (.cells [di fuel])) := by rw [set_other (by have := hlt .st trivial; omega)]; exact b1
  have hce : ct I S.reset .st = [A.rs (I .steps) 2 0 S.steps.length (some 41), dn S.used, dn S.vars, A.rs (I .added) 3 0 S.added.length (some 79), A.rs (I .learned) 3 0 S.learned.length (some 79), A.rs (I .occ) 1 0 S.occ.length (some 28), A.rs (I .last) 1 0 S.last.length (some 3), dn S.stamp,
      A.rs (I .truth) 1 0 S.truth.length (some 4), A.rs (I .trail) 1 0 S.trail.length (some 3), A.rs (I .reasons) 1 0 S.reasons.length (some 3), A.rs (I .levels) 1 0 S.levels.length (some 3), A.rs (I .starts) 1 0 S.starts.length (some 3), A.rs (I .marked) 1 0 S.marked.length (some 4), A.rs (I .queue) 1 0 S.queue.length (some 3), dn S.left, dn S.first, A.d .nils, A.d .nils, A.d (.bool false), A.d (.bool false)] := rfl
  rw [← hce]
  generalize (st.set (I .st) (some (.cells (ct I S.reset .st))) : St) = st1 at hS1 hT1 b0' b1'
  clear l1 l2 l3 l4 hS0 hT0 b0 b1 hce st
  have g1 : Gd S.reset := ⟨⟨g.sh.vars, g.sh.occ, g.sh.last, g.sh.truth, g.sh.reasons, g.sh.levels, g.sh.marked⟩, g.v1, g.na, g.nl, g.lits, g.ll, g.nd, g.ok, g.mem, g.low, g.hc, g.oc, g.tv, g.tn, g.tt, g.la, g.um, g.qu⟩
  refine awD_pre rfl ?_
  by_cases he : fuel < 0 ∨ 1000000 < fuel
  · have h1 := h1 he I st1 hS1 hT1
    by_cases he1 : fuel < 0
    · have d1 : decide (fuel < 0) = true := decide_eq_true he1
      simp only [go_sem, live_of b1', objK_of b1', d1, Try.results13]
      exact ⟨_, _, Weak.refl _ _ _ _, h1⟩
    · have d1 : decide (fuel < 0) = false := decide_eq_false he1
      have d2 : decide (1000000 < fuel) = true := decide_eq_true (by omega)
      simp only [go_sem, live_of b1', objK_of b1', d1, d2, Try.results13]
      exact ⟨_, _, Weak.refl _ _ _ _, h1⟩
  obtain ⟨F, rfl⟩ : ∃ F : Nat, fuel = F := ⟨fuel.toNat, by omega⟩
  have d1 : decide ((F : Int) < 0) = false := decide_eq_false (by omega)
  have d2 : decide ((1000000 : Int) < (F : Int)) = false := decide_eq_false (by omega)
  simp only [go_sem, live_of b1', objK_of b1', d1, d2]
  refine awD_pre rfl ?_
  unfold isD
  simp only [go_sem, List.length_map]
  refine aw_loop (fun m fr s => ∃ j : Nat, j ≤ asm.length ∧ m = asm.length - j ∧ (asm.take j).all S.valid = true ∧ fr = [.ref (I .st) 0, .d (isD asm), dn F, .ref σ.length 0, .any, .ref (σ.length + 1) 0, .any, .any, .any, .any, .any, .any, .any, .any, .any, .any, .any, .any, .any, .any, .any, .any, .any, .any, .any, .any, .any, .any, .any, .any, .d (isD asm), dn asm.length, dn j, .any, .any, .any, .any, .any, .any, .any, .any, .any, .any, .any, .any, .any, .any, .any, .any, .any, .any] ∧ s = st1) asm.length _
    (Wk.mask [0, 1, 2, 3, 5, 30, 31, 32] ⟨0, by omega, by omega, rfl, rfl, rfl⟩) ?_
  rintro m fr s ⟨j, hj, hm, hal', rfl, rfl⟩
  rcases Nat.lt_or_ge j asm.length with hlt' | hge
  · have hd : decide ((j : Int) < (asm.length : Int)) = true := by simp; omega
    have w2 := wrapS j (by omega)
    have g0 : List.getD (asm.map iD) j default = iD (asm.getD j 0) := getD_mapD hlt'
    unfold isD
    simp only [go_sem, List.length_map, hd, g0, w2, live_of b0', objK_of b0', Try.results13]
    refine ⟨⟨by omega, by omega⟩, ac' (valid_ac hS1 g1.sh.vars _ _ _ ?_)⟩
    have hvr : S.reset.valid (asm.getD j 0) = S.valid (asm.getD j 0) := rfl
    rw [hvr]
    cases hvv : S.valid (asm.getD j 0) with
    | true =>
      simp only [go_sem, w2, Try.results13]
      exact Wk.mask [0, 1, 2, 3, 5, 30, 31, 32] ⟨asm.length - (j + 1), by omega, j + 1, by omega, rfl, by rw [take_getD 0 hlt', List.all_append, hal', List.all_cons, hvv]; rfl, rfl, rfl⟩
    | false =>
      simp only [go_sem, w2, Try.results13]
      refine ⟨_, _, Weak.refl _ _ _ _, h2 ?_ I _ hS1 hT1⟩
      rw [Bool.eq_false_iff]
      intro e
      rw [List.all_eq_true] at e
      have := e _ (getD_mem 0 hlt')
      rw [hvv] at this; cases this
  have hd : decide ((j : Int) < (asm.length : Int)) = false := by simp; omega
  rw [List.take_of_length_le hge] at hal'
  simp only [go_sem, hd]
  refine awD_pre rfl ?_
  have hcl : ∀ k, objK s (I .st) k = k (ct I S.reset .st) := fun k => hS1.ob .st
  simp only [go_sem, live_of b0', objK_of b0', live_of b1', objK_of b1', hS1.live .st, hcl, ct]
  obtain ⟨g3, hq3, hl3, hsr, n, r, hr, g4, hv4, hle4, hf4, hu4, hfin⟩ := h3 F rfl (by omega) hal'
  have hS2 : Sol I { S.reset with left := F } (s.set (I .st) (some (.cells (ct I { S.reset with left := F } .st)))) := hS1.put .st trivial (fun t => by cases t <;> exact Iff.rfl) (by rfl) (fun t ht => by cases t <;> first | rfl | exact absurd rfl ht)
  have hT2 : Stp Any I S σ I (s.set (I .st) (some (.cells (ct I { S.reset with left := F } .st)))) := hT1.trans (fun t => by cases t <;> exact Iff.rfl) (stp_put (S := S.reset) _ .st trivial)
  have b0 : (s.set (I .st) (some (.cells (ct I { S.reset with left := F } .st))))[σ.length]? = some (some (.cells [.ref (I .st) 0])) := by rw [set_other (by have := hlt .st trivial; omega)]; exact b0'
  have b1 : (s.set (I .st) (some (.cells (ct I { S.reset with left := F } .st))))[σ.length + 1]? = some (some (.cells [dn F])) := by rw [set_other (by have := hlt .st trivial; omega)]; exact b1'
  have hce : ct I { S.reset with left := F } .st = [A.rs (I .steps) 2 0 S.reset.steps.length (some 41), dn S.reset.used, dn S.reset.vars, A.rs (I .added) 3 0 S.reset.added.length (some 79), A.rs (I .learned) 3 0 S.reset.learned.length (some 79), A.rs (I .occ) 1 0 S.reset.occ.length (some 28), A.rs (I .last) 1 0 S.reset.last.length (some 3), dn S.reset.stamp,
      A.rs (I .truth) 1 0 S.reset.truth.length (some 4), A.rs (I .trail) 1 0 S.reset.trail.length (some 3), A.rs (I .reasons) 1 0 S.reset.reasons.length (some 3), A.rs (I .levels) 1 0 S.reset.levels.length (some 3), A.rs (I .starts) 1 0 S.reset.starts.length (some 3), A.rs (I .marked) 1 0 S.reset.marked.length (some 4), A.rs (I .queue) 1 0 S.reset.queue.length (some 3), dn F, dn S.reset.first, valA S.reset, coreA S.reset, db S.reset.refuted, db S.reset.satisfied] := rfl
  rw [← hce]
  have hlt2 : ∀ x, has S x → I x < σ.length := fun x hx => hS.lt x hx
  generalize (s.set (I .st) (some (.cells (ct I { S.reset with left := F } .st))) : St) = st2 at hS2 hT2 b0 b1
  clear hS1 hT1 b0' b1' hce hcl
  have hst : S.start asm F = ({ S.reset with left := F } : Sv).different asm := rfl
  rw [hst] at g3 hq3 hl3 hsr hr
  have hh : ∀ s, has S s ↔ has ({ S.reset with left := F } : Sv) s := fun s => by cases s <;> exact Iff.rfl
  have g2 : Gd ({ S.reset with left := F } : Sv) := ⟨⟨g.sh.vars, g.sh.occ, g.sh.last, g.sh.truth, g.sh.reasons, g.sh.levels, g.sh.marked⟩, g.v1, g.na, g.nl, g.lits, g.ll, g.nd, g.ok, g.mem, g.low, g.hc, g.oc, g.tv, g.tn, g.tt, g.la, g.um, g.qu⟩
  have hv2 : ∀ l ∈ asm, LitV ({ S.reset with left := F } : Sv).vars l := fun l hl => valid_lit.1 (List.all_eq_true.1 hal' l hl)
  have hso : ({ S.reset with left := F } : Sv).stamp ≤ 1000000000000 := by show S.stamp ≤ _; omega
  generalize ({ S.reset with left := F } : Sv) = S2 at hS2 g3 hq3 hl3 hsr hr hh g2 hv2 hso
  have hdif := different_ac hS2 g2.sh asm hv2 (by omega) hso
  refine awD_at rfl ?_
  simp only [go_sem]
  refine aw_plan (.tk 2 1 <| .alt 0 (.tk 4 3 <| .done) <| .alt 3 (.take 0 <| .tk 3 4 <| .done) <| .stop) (by kernel_rfl) ?_
  simp only [go_sem, live_of b0, objK_of b0]
  have hh4 : ∀ s, has S s ↔ has r.1 s := SameOcc.has (by unfold SameOcc; rw [g4.sh.occ, g.sh.occ, hv4])
  have hl1 := lt_of_some b1
  have key : ∀ I' σ' fr, fr.getD 6 .any = di r.2 → fr.getD 7 .any = di 0 → Sol I' r.1 σ' → Stp Any I S2 st2 I' σ' → AD Try.prog ⟨G.g, fun _ _ => False⟩ 37 [.ref σ.length 0, .ref (σ.length + 1) 0] none σ' fun σ2 => RetOK Try.prog G σ.length Try.f13 R fr σ2 := fun I' σ' fr q6 q7 k1 k2 => by
    have e3 : I' .st = I .st := k2.st
    have hid : ∀ x, has S x → I' x ≠ σ.length ∧ I' x ≠ σ.length + 1 := fun x hx => by
      have := hlt2 x hx
      rcases k2.ids x with e | e <;> omega
    have hne : ∀ (q : Nat), σ.length ≤ q → q < st2.length → ∀ x, has S2 x → q ≠ I x := fun q h1 h2 x hx e => by
      have := hlt2 x ((hh x).2 hx)
      omega
    refine end_ad k1 g4 σ.length (σ.length + 1) F (by omega) hle4 hu4 hf4 ?_ ?_ (fun x hx => (hid x ((hh4 x).2 hx)).1) (fun x hx => (hid x ((hh4 x).2 hx)).2) _ _ fun I2 σ2 m1 m2 => ?_
    · rw [k2.keep _ (by omega) (hne _ (Nat.le_refl _) (by omega)), e3]; exact b0
    · rw [k2.keep _ (by omega) (hne _ (by omega) (by omega))]; exact b1
    · have := hfin I2 σ2 m1 ((hT2.trans hh k2).trans hh4 m2)
      unfold RetOK
      simp only [go_sem, Try.results13, q6, q7]
      exact ⟨_, _, Weak.refl _ _ _ _, this⟩
  have hgd := g3
  refine ⟨?_, ?_⟩ <;>
  · refine ac' (hdif _ _ fun σ3 k1 k2 => ?_)
    have c0 : σ3[σ.length]? = some (some (.cells [.ref (I .st) 0])) := by
      rw [k2.keep _ (by omega) fun x hx e => (by have := hlt2 x ((hh x).2 hx); omega)]; exact b0
    simp only [go_sem, live_of c0, objK_of c0, Try.results13]
    refine ac' (search_ac k1 g3 hq3 b M hb hM _ hl3 hsr n r hr _ _ fun I4 σ4 k3 k4 => ?_)
    simp only [go_sem, Try.results13]
    exact key _ _ _ rfl rfl k3 (k2.trans (SameOcc.has (diff_occ S2 asm)) k4)
end Go.Proofs.Ytnanofipjiclfaa
end PartT25

section PartT22
/- Proof. -/
set_option linter.unusedSimpArgs false
set_option linter.unusedVariables false
set_option maxRecDepth 100000
namespace Go.Proofs.Ytnanofipjiclfaa
open Go Go.Ab
variable {I : Sl → Nat} {S : Sv} {σ : St}

def shiftH (n id : Nat) : Nat := if 40000 ≤ id then n + id - 40000 else id
def lnD (s : List Int × List Nat) : D := .agg [isD s.1, nsD s.2]
def proofM (S : Sv) : List (List Int × List Nat) := S.steps.map fun s => (s.1, s.2.map (shiftH S.added.length))
def prfD (l : List (List Int × List Nat)) : D := .sl 2 (l.map lnD)
theorem flat_lns (l : List (List Int × List Nat)) : flat (l.map lnD) = stepsA l := by
  induction l with
  | nil => rfl
  | cons x l ih => simp only [List.map_cons, flat_cons, ih]; rfl
theorem lies_lns (l : List (List Int × List Nat)) : Lies (stepsA l) 2 0 (l.map lnD) := by
  rw [← flat_lns]
  refine lies_of fun x hx => ?_
  obtain ⟨d, -, rfl⟩ := List.mem_map.1 hx
  refine ⟨rfl, fun y hy => ?_⟩
  simp only [lnD, D.cells, List.mem_cons, List.not_mem_nil, or_false] at hy
  rcases hy with rfl | rfl <;> rfl
theorem stepsA_cells {l : List (List Int × List Nat)} {j : Nat} (h : j < l.length) : ((stepsA l).drop (j * 2)).take 2 = [.d (isD (l.getD j ([], [])).1), .d (nsD (l.getD j ([], [])).2)] := by
  have hl : (stepsA (l.take j)).length = j * 2 := by rw [stepsA_len, List.length_take, Nat.min_eq_left (Nat.le_of_lt h)]
  rw [stepsA_split h, List.drop_append, hl, Nat.sub_self, List.drop_of_length_le (by omega), List.nil_append, List.drop_zero]
  rfl
theorem frz_steps (id sz off : Nat) (xs : List D) (l : List (List Int × List Nat)) (r : List A) : frzL id sz off xs (stepsA l ++ r) = stepsA l ++ frzL id sz off xs r := by
  induction l with
  | nil => rfl
  | cons x l ih => simp only [stepsA, List.flatMap_cons, stepA', List.cons_append, List.nil_append, frzL, A.frz] at ih ⊢; rw [ih]
theorem ren_steps (n0 : Nat) (p : List Nat) (l : List (List Int × List Nat)) (r : List A) : renL n0 p (stepsA l ++ r) = stepsA l ++ renL n0 p r := by
  induction l with
  | nil => rfl
  | cons x l ih => simp only [stepsA, List.flatMap_cons, stepA', List.cons_append, List.nil_append, renL, A.ren] at ih ⊢; rw [ih]
set_option maxHeartbeats 8000000 in
theorem proof_ac (hS : Sol I S σ) (hst : S.steps.length ≤ 20000) (ha : S.added.length ≤ 40000) (hl : ∀ s ∈ S.steps, s.1.length ≤ 1000000 ∧ s.2.length ≤ 1000000 ∧ ∀ id ∈ s.2, id < 1000000)
    (G : Glob) (R : A → St → Prop) (h : R (.d (prfD (proofM S))) σ) : AC Try.prog G 14 [.ref (I .st) 0] σ R := by
  refine ac_enterC [4] mixed Try.func14 rfl Try.ntmps14 (by simp only [go_sem]) fun hbd => ?_
  simp only [List.length_cons, List.length_nil, Nat.reduceAdd, Nat.reduceSub, List.replicate_succ, List.replicate_zero, List.cons_append, List.nil_append]
  simp only [go_sem, hS.live .st, Try.results14]
  refine aw_cut (fun fr st => fr = [.ref (I .st) 0, .any, .any, .rs σ.length 2 0 0 (some 41), .any, .any, .any, .any, .any, .any, .any, .any, .any, .any, .any, .any, .any, .any, .any, .any, .any, .any, .any, .any, .any, .any, .any, .any, .any, .any, .any, .any, .any, .any, .any, .any, .any, .any, .any, .any, .any, .any, .any, .any, .any, .any, .any, .any, .any, .any, .any, .any, .any, .any, .any, .any, .any, .any, .any, .any, .any, .any] ∧ st = σ ++ [some (.cells [])]) ?_ ?_
  · simp only [go_sem, Try.results14]
    exact Wk.via (Weak.empty 3 2 (some 41) rfl) (Wk.mask [0, 3] ⟨rfl, rfl⟩)
  rintro fr st ⟨rfl, rfl⟩
  have hA : ∀ l, Sol I S (σ ++ l) := fun l => hS.app l
  simp only [go_sem, (hA _).live .st, (hA _).ob .st, (hA _).live .steps, ct, Try.results14]
  refine aw_loop (fun m fr st => ∃ j : Nat, j ≤ S.steps.length ∧ m = S.steps.length - j ∧ fr = [.ref (I .st) 0, .any, .any, .rs σ.length 2 0 j (some 41), .any, .any, .any, .any, .any, .any, .any, .any, .any, .any, .any, .rs (I .steps) 2 0 S.steps.length (some 41), dn S.steps.length, dn j, .any, .any, .any, .any, .any, .any, .any, .any, .any, .any, .any, .any, .any, .any, .any, .any, .any, .any, .any, .any, .any, .any, .any, .any, .any, .any, .any, .any, .any, .any, .any, .any, .any, .any, .any, .any, .any, .any, .any, .any, .any, .any, .any, .any] ∧ st = σ ++ [some (.cells (stepsA ((proofM S).take j)))]) S.steps.length _
    (Wk.mask [0, 3, 15, 16, 17] ⟨0, by omega, by omega, rfl, rfl⟩) ?_
  rintro m fr st ⟨j, hj, hm, rfl, rfl⟩
  have hpl : (proofM S).length = S.steps.length := by unfold proofM; simp
  rcases Nat.lt_or_ge j S.steps.length with hlt | hge
  · have hd : decide ((j : Int) < (S.steps.length : Int)) = true := by simp; omega
    have w2 := wrapS j (by omega)
    have gc := stepsA_cells hlt
    obtain ⟨hl1, hl2, hl3⟩ := hl _ (getD_mem ([], []) hlt)
    have hnx : (proofM S).take (j + 1) = (proofM S).take j ++ [((S.steps.getD j ([], [])).1, (S.steps.getD j ([], [])).2.map (shiftH S.added.length))] := by
      rw [take_getD ([], []) (by omega)]
      unfold proofM
      rw [List.getD_eq_getElem?_getD, List.getElem?_map, List.getD_eq_getElem?_getD, List.getElem?_eq_getElem hlt]; rfl
    have hsl := stepsA_len ((proofM S).take j)
    rw [List.length_take, hpl, Nat.min_eq_left hj] at hsl
    have hsl2 := stepsA_len S.steps
    have hfp := fun id sz off xs r => frz_steps id sz off xs ((proofM S).take j) r
    have hrp := fun n0 p r => ren_steps n0 p ((proofM S).take j) r
    have hsn : stepsA ((proofM S).take (j + 1)) = stepsA ((proofM S).take j) ++ [.d (isD (S.steps.getD j ([], [])).1), .d (nsD ((S.steps.getD j ([], [])).2.map (shiftH S.added.length)))] := by rw [hnx, stepsA_snoc]
    generalize stepsA ((proofM S).take j) = pre at hsl hfp hrp hsn ⊢
    generalize S.steps.getD j ([], []) = s at gc hl1 hl2 hl3 hsn
    obtain ⟨ls, hs⟩ := s
    simp only at gc hl1 hl2 hl3 hsn
    unfold isD nsD at gc
    simp only [go_sem, hd, (hA _).live .st, (hA _).ob .st, (hA _).live .steps, (hA _).ob .steps, ct, gc, hsl2, w2, List.length_map, Try.results14]
    rw [reps0]
    refine ⟨⟨by omega, by omega⟩, by omega, by omega, ?_⟩
    have e0 : intsA (List.replicate hs.length 0) = natsA (List.replicate hs.length 0) := by simp [intsA, natsA]
    rw [e0]
    refine aw_loop (fun q fr st => ∃ (k : Nat) (v : List Nat), k ≤ hs.length ∧ q = hs.length - k ∧ v.length = hs.length ∧ v.take k = (hs.map (shiftH S.added.length)).take k ∧ fr = [.ref (I .st) 0, .any, .any, .rs σ.length 2 0 j (some 41), .any, .ref (σ.length + 1) 0, .rs (σ.length + 2) 1 0 hs.length (some 3), .any, .any, .any, .any, .any, .any, .any, .any, .rs (I .steps) 2 0 S.steps.length (some 41), dn S.steps.length, dn j, .any, .any, .any, .any, .any, .any, .any, .any, .d (nsD hs), dn hs.length, dn k, .any, .any, .any, .any, .any, .any, .any, .any, .any, .any, .any, .any, .any, .any, .any, .any, .any, .any, .any, .any, .any, .any, .any, .any, .any, .any, .any, .any, .any, .any, .any, .any, .any]
        ∧ st = σ ++ [some (.cells pre), some (.cells [.d (isD ls), .d (nsD hs)]), some (.cells (natsA v))]) hs.length _
      (Wk.mask [0, 3, 5, 6, 15, 16, 17, 26, 27, 28] ⟨0, List.replicate hs.length 0, by omega, by omega, by simp, rfl, rfl, rfl⟩) ?_
    rintro q fr st ⟨k, v, hk, hq, hvl, htk, rfl, rfl⟩
    have hml : (hs.map (shiftH S.added.length)).length = hs.length := by simp
    rcases Nat.lt_or_ge k hs.length with hkl | hkg
    · have hd2 : decide ((k : Int) < (hs.length : Int)) = true := by simp; omega
      have w4 := wrapS k (by omega)
      have g0 : List.getD (hs.map fun n : Nat => iD n) k default = iD (hs.getD k 0 : Int) := getD_mapD (f := fun n : Nat => iD n) hkl
      have hid := hl3 _ (getD_mem 0 hkl)
      have gm : (hs.map (shiftH S.added.length)).getD k 0 = shiftH S.added.length (hs.getD k 0) := by
        rw [List.getD_eq_getElem?_getD, List.getElem?_map, List.getD_eq_getElem?_getD, List.getElem?_eq_getElem hkl]; rfl
      generalize hs.getD k 0 = id at g0 hid gm
      have hkv : k < v.length := by omega
      have hkv2 : k < (v.set k id).length := by simpa using hkv
      have fin : ∀ x, x = shiftH S.added.length id → (v.set k x).take (k + 1) = (hs.map (shiftH S.added.length)).take (k + 1) := fun x hx => by
        rw [take_getD 0 (by simpa using hkv), take_getD 0 (by omega), List.take_set_of_le (Nat.le_refl k), htk, gm, getD_set hkv, if_pos rfl, hx]
      unfold nsD
      by_cases hc : 40000 ≤ id
      · have d3 : decide ((40000 : Int) ≤ (id : Int)) = true := decide_eq_true (by omega)
        have w5 : IntKind.i64.wrap ((S.added.length : Int) + (id : Int)) = (S.added.length : Int) + (id : Int) := wrap64_id _ (by omega) (by omega)
        have w6 : IntKind.i64.wrap ((S.added.length : Int) + (id : Int) - 40000) = ((S.added.length + id - 40000 : Nat) : Int) := by rw [wrap64_id _ (by omega) (by omega)]; omega
        simp only [go_sem, hd2, g0, d3, w4, w5, w6, natsA_len, natsA_set _ hkv, natsA_set _ hkv2, (hA _).live .st, (hA _).ob .st, (hA _).live .added, ct, List.length_map, List.set_set, Nat.mul_one, Try.results14]
        refine ⟨⟨by omega, by omega⟩, ⟨by omega, by omega⟩, by omega, ⟨by omega, by omega⟩, by omega, Wk.mask [0, 3, 5, 6, 15, 16, 17, 26, 27, 28] ⟨hs.length - (k + 1), by omega, k + 1, v.set k (S.added.length + id - 40000), by omega, rfl, by simpa using hvl, fin _ (by unfold shiftH; rw [if_pos hc]), rfl, rfl⟩⟩
      · have d3 : decide ((40000 : Int) ≤ (id : Int)) = false := decide_eq_false (by omega)
        simp only [go_sem, hd2, g0, d3, w4, natsA_len, natsA_set _ hkv, List.length_map, Nat.mul_one, Try.results14]
        refine ⟨⟨by omega, by omega⟩, ⟨by omega, by omega⟩, by omega, Wk.mask [0, 3, 5, 6, 15, 16, 17, 26, 27, 28] ⟨hs.length - (k + 1), by omega, k + 1, v.set k id, by omega, rfl, by simpa using hvl, fin _ (by unfold shiftH; rw [if_neg hc]), rfl, rfl⟩⟩
    · have hd2 : decide ((k : Int) < (hs.length : Int)) = false := by simp; omega
      have e : v = hs.map (shiftH S.added.length) := by
        rw [List.take_of_length_le (by omega), List.take_of_length_le (by omega)] at htk
        exact htk
      unfold isD nsD
      simp only [go_sem, hd2, w2, hsl, natsA_len, flat_ints, List.length_map, Nat.mul_one, Try.results14]
      refine ⟨⟨by simp only [maxLen]; omega, by omega⟩, ⟨by simp only [maxLen]; omega, by omega⟩, ?_⟩
      refine Wk.via (Weak.freezeIn (σ := σ) 4 6 1 0 (ls.map iD) rfl (lies_ints ls) rfl (by decide)) ?_
      refine Wk.via (Weak.freezeIn (σ := σ) 2 6 1 0 (v.map fun n : Nat => iD n) rfl (lies_nats v) rfl (by decide)) ?_
      have e6 : frzL (σ.length + 2) 1 0 (v.map fun n : Nat => iD n) (frzL (σ.length + 4) 1 0 (ls.map iD) (pre ++ [A.rs (σ.length + 4) 1 0 ls.length (some 3), A.rs (σ.length + 2) 1 0 hs.length (some 3)])) = stepsA ((proofM S).take (j + 1)) := by
        rw [hfp, hfp, hsn, ← e]
        simp [frzL, A.frz, isD, nsD, hvl]
      simp only [List.set_cons_succ, List.set_cons_zero, e6]
      refine Wk.keep [0, 3, 15, 16, 17] [6] (by decide) (Nat.le_refl _) hbd ⟨S.steps.length - (j + 1), by omega, j + 1, by omega, rfl, ?_, ?_⟩
      · have hI1 := hS.lt .st
        have hI2 := hS.lt .steps
        simp only [frzL, A.frz, go_sem, false_and, and_false, if_false]
        simp only [frzL, A.frz, newId_old hI1, newId_old hI2, go_sem, false_and, and_false, if_false]
      · have := ren_steps σ.length [6] ((proofM S).take (j + 1)) []
        simp only [List.append_nil, renL] at this
        simp only [go_sem, this]
  · have hd : decide ((j : Int) < (S.steps.length : Int)) = false := by simp; omega
    obtain rfl : j = S.steps.length := by omega
    rw [List.take_of_length_le (by omega)]
    simp only [go_sem, hd, Try.results14]
    refine ret_frz 0 2 0 ((proofM S).map lnD) rfl (lies_lns _) ?_
    have e : A.frz (σ.length + 0) 2 0 ((proofM S).map lnD) (A.rs σ.length 2 0 S.steps.length (some 41)) = .d (prfD (proofM S)) := by simp [A.frz, prfD, hpl]
    rw [e]
    exact ret_bd hbd rfl h
end Go.Proofs.Ytnanofipjiclfaa
end PartT22

section PartX1
/- The law package's small functions, the reference's tests of lists. -/
set_option linter.unusedSimpArgs false
set_option linter.unusedVariables false
set_option maxRecDepth 100000
namespace Go.Proofs.Ytnanofipjiclfaa
open Go Go.Ab
variable {I : Sl → Nat} {S : Sv} {σ : St}

def csD (C : List (List Int)) : D := .sl 1 (C.map isD)
/-- The reference's and the solver's test of a literal. -/
def litB (n l : Int) : Bool := !(l == 0 || decide (n < l) || decide (l < -n))
def validB (n : Int) (c : List Int) : Bool := c.all (litB n)
theorem all_step {α : Type} {p : α → Bool} {l : List α} {j : Nat} (d : α) (h : j < l.length) (hal : (l.take j).all p = true) : (l.take (j + 1)).all p = p (l.getD j d) := by
  rw [take_getD d h, List.all_append, hal, List.all_cons]
  simp
theorem all_stop {α : Type} {p : α → Bool} {l : List α} {j : Nat} (d : α) (h : j < l.length) (hp : p (l.getD j d) = false) : l.all p = false := by
  rw [Bool.eq_false_iff]
  intro e
  rw [List.all_eq_true] at e
  have := e _ (getD_mem d h)
  rw [hp] at this; cases this
theorem validR_ac (n : Int) (hn : 0 ≤ n ∧ n ≤ 1000000) (c : List Int) (hc : c.length ≤ 1000000000000000) (σ : St) (G : Glob) (R : A → St → Prop) (h : R (db (validB n c)) σ) : AC Try.prog G 20 [di n, .d (isD c)] σ R := by
  unfold isD
  refine ac_enter mixed Try.func20 rfl Try.ntmps20 (by simp only [go_sem]) fun hbd => ?_
  simp only [List.length_cons, List.length_nil, Nat.reduceAdd, Nat.reduceSub, List.replicate_succ, List.replicate_zero, List.cons_append, List.nil_append]
  simp only [go_sem, Try.results20]
  refine aw_loop (fun m fr st => ∃ j : Nat, j ≤ c.length ∧ m = c.length - j ∧ (c.take j).all (litB n) = true ∧ fr = [di n, .d (isD c), .any, .any, db false, dn j, .any, .any, .any, .any, .any, .any, .any, .any, .any, .any, .any, .any, .any, .any, .any, .any, .any, .any, .any, .any, .any, .any, .any, .any, .any, .any, .any, .any] ∧ st = σ) c.length _
    (Wk.mask [0, 1, 4, 5] ⟨0, by omega, by omega, rfl, rfl, rfl⟩) ?_
  rintro m fr st ⟨j, hj, hm, hal, rfl, rfl⟩
  have wn : IntKind.i64.wrap (0 - n) = -n := by rw [wrap64_id _ (by omega) (by omega)]; omega
  unfold isD
  rcases Nat.lt_or_ge j c.length with hlt | hge
  · have hd : decide ((j : Int) < (c.length : Int)) = true := by simp; omega
    have w2 := wrapS j (by omega)
    have g0 : List.getD (c.map iD) j default = iD (c.getD j 0) := getD_mapD hlt
    simp only [go_sem, List.length_map, hd, g0, w2, wn, Try.results20]
    refine ⟨⟨by omega, by omega⟩, fun e => ⟨by omega, by omega⟩, fun e => ⟨by omega, by omega⟩, fun e => ?_, fun e => ?_⟩
    · have hv : validB n c = false := all_stop 0 hlt (by unfold litB; rw [e]; rfl)
      rw [hv] at h
      exact ret_d0 h
    · exact Wk.mask [0, 1, 4, 5] ⟨c.length - (j + 1), by omega, j + 1, by omega, rfl, by rw [all_step 0 hlt hal]; unfold litB; rw [e]; rfl, rfl, rfl⟩
  · have hd : decide ((j : Int) < (c.length : Int)) = false := by simp; omega
    rw [List.take_of_length_le hge] at hal
    have hv : validB n c = true := hal
    rw [hv] at h
    simp only [go_sem, List.length_map, hd, Try.results20]
    exact ret_d0 h
theorem has_ac (c : List Int) (hc : c.length ≤ 1000000000000000) (x : Int) (σ : St) (G : Glob) (R : A → St → Prop) (h : R (db (c.contains x)) σ) : AC Try.prog G 18 [.d (isD c), di x] σ R := by
  unfold isD
  refine ac_enter mixed Try.func18 rfl Try.ntmps18 (by simp only [go_sem]) fun hbd => ?_
  simp only [List.length_cons, List.length_nil, Nat.reduceAdd, Nat.reduceSub, List.replicate_succ, List.replicate_zero, List.cons_append, List.nil_append]
  simp only [go_sem, Try.results18]
  refine aw_loop (fun m fr st => ∃ j : Nat, j ≤ c.length ∧ m = c.length - j ∧ (c.take j).all (fun y => !(y == x)) = true ∧ fr = [.d (isD c), di x, .any, .any, db false, dn j, .any, .any, .any, .any, .any, .any, .any, .any, .any, .any, .any, .any] ∧ st = σ) c.length _
    (Wk.mask [0, 1, 4, 5] ⟨0, by omega, by omega, rfl, rfl, rfl⟩) ?_
  rintro m fr st ⟨j, hj, hm, hal, rfl, rfl⟩
  unfold isD
  rcases Nat.lt_or_ge j c.length with hlt | hge
  · have hd : decide ((j : Int) < (c.length : Int)) = true := by simp; omega
    have w2 := wrapS j (by omega)
    have g0 : List.getD (c.map iD) j default = iD (c.getD j 0) := getD_mapD hlt
    simp only [go_sem, List.length_map, hd, g0, w2, Try.results18]
    refine ⟨⟨by omega, by omega⟩, fun e => ?_, fun e => ?_⟩
    · have hv : c.contains x = true := by
        rw [List.contains_iff_mem]
        rw [beq_iff_eq] at e
        rw [← e]
        exact getD_mem 0 hlt
      rw [hv] at h
      exact ret_d0 h
    · exact Wk.mask [0, 1, 4, 5] ⟨c.length - (j + 1), by omega, j + 1, by omega, rfl, by rw [all_step 0 hlt hal, e]; rfl, rfl, rfl⟩
  · have hd : decide ((j : Int) < (c.length : Int)) = false := by simp; omega
    rw [List.take_of_length_le hge] at hal
    have hv : c.contains x = false := by
      rw [Bool.eq_false_iff]
      intro e
      rw [List.contains_iff_mem] at e
      have := List.all_eq_true.1 hal x e
      simp at this
    rw [hv] at h
    simp only [go_sem, List.length_map, hd, Try.results18]
    exact ret_d0 h
theorem nodup_take {l : List Int} {j : Nat} (h : j < l.length) : (l.take (j + 1)).Nodup ↔ (l.take j).Nodup ∧ l.getD j 0 ∉ l.take j := by
  rw [take_getD 0 h, List.nodup_append]
  constructor
  · rintro ⟨h1, -, h3⟩
    exact ⟨h1, fun hm => h3 _ hm _ (by simp) rfl⟩
  · rintro ⟨h1, h2⟩
    refine ⟨h1, by simp, fun a ha b hb e => ?_⟩
    rw [List.mem_singleton] at hb
    subst hb; subst e
    exact h2 ha
theorem distinct_ac (c : List Int) (hc : c.length ≤ 1000000000) (σ : St) (G : Glob) (R : A → St → Prop) (h : R (db (decide c.Nodup)) σ) : AC Try.prog G 34 [.d (isD c)] σ R := by
  unfold isD
  refine ac_enter mixed Try.func34 rfl Try.ntmps34 (by simp only [go_sem]) fun hbd => ?_
  simp only [List.length_cons, List.length_nil, Nat.reduceAdd, Nat.reduceSub, List.replicate_succ, List.replicate_zero, List.cons_append, List.nil_append]
  simp only [go_sem, Try.results34]
  refine aw_loop (fun m fr st => ∃ j : Nat, j ≤ c.length ∧ m = c.length - j ∧ (c.take j).Nodup ∧ fr = [.d (isD c), .any, db false, dn j, .any, .any, .any, .any, .any, .any, .any, .any, .any, .any, .any, .any, .any, .any] ∧ st = σ) c.length _
    (Wk.mask [0, 2, 3] ⟨0, by omega, by omega, List.nodup_nil, rfl, rfl⟩) ?_
  rintro m fr st ⟨j, hj, hm, hal, rfl, rfl⟩
  unfold isD
  rcases Nat.lt_or_ge j c.length with hlt | hge
  · have hd : decide ((j : Int) < (c.length : Int)) = true := by simp; omega
    have w2 := wrapS j (by omega)
    have g0 : List.getD (c.map iD) j default = iD (c.getD j 0) := getD_mapD hlt
    have g1 : ((c.map iD).take (Int.toNat (j : Int))).drop (Int.toNat 0) = (c.take j).map iD := by rw [Int.toNat_natCast]; simp [List.map_take]
    simp only [go_sem, List.length_map, hd, g0, w2, g1, Try.results34]
    rw [← List.map_take]
    refine ⟨⟨by omega, by omega, by omega⟩, ⟨by omega, by omega⟩, ac' (has_ac (c.take j) (by simp; omega) _ _ _ _ ?_)⟩
    cases hb : (c.take j).contains (c.getD j 0) with
    | true =>
      have hv : decide c.Nodup = false := by
        rw [decide_eq_false_iff_not]
        intro hn
        have := (nodup_take hlt).1 ((List.take_sublist (j + 1) c).nodup hn)
        exact this.2 (List.contains_iff_mem.1 hb)
      rw [hv] at h
      simp only [go_sem, w2, Try.results34]
      exact ret_d0 h
    | false =>
      simp only [go_sem, w2, Try.results34]
      exact Wk.mask [0, 2, 3] ⟨c.length - (j + 1), by omega, j + 1, by omega, rfl, (nodup_take hlt).2 ⟨hal, fun hm => by rw [← List.contains_iff_mem, hb] at hm; cases hm⟩, rfl, rfl⟩
  · have hd : decide ((j : Int) < (c.length : Int)) = false := by simp; omega
    rw [List.take_of_length_le hge] at hal
    rw [decide_eq_true hal] at h
    simp only [go_sem, List.length_map, hd, Try.results34]
    exact ret_d0 h
def fitsC (n : Int) (C : List (List Int)) : Bool := C.all fun c => !(decide ((20 : Int) < (c.length : Int)) || !(validB n c))
def fitsB (n : Int) (C : List (List Int)) : Bool := !(decide (n < 0) || decide (12 < n) || decide ((60 : Int) < (C.length : Int))) && fitsC n C
theorem fits_ac (n : Int) (C : List (List Int)) (hC : C.length ≤ 1000000000000000) (hc : ∀ c ∈ C, c.length ≤ 1000000000000000) (σ : St) (G : Glob) (R : A → St → Prop) (h : R (db (fitsB n C)) σ) : AC Try.prog G 19 [di n, .d (csD C)] σ R := by
  unfold csD
  refine ac_enter mixed Try.func19 rfl Try.ntmps19 (by simp only [go_sem]) fun hbd => ?_
  simp only [List.length_cons, List.length_nil, Nat.reduceAdd, Nat.reduceSub, List.replicate_succ, List.replicate_zero, List.cons_append, List.nil_append]
  simp only [go_sem, List.length_map, Try.results19]
  cases hb : (decide (n < 0) || decide (12 < n) || decide ((60 : Int) < (C.length : Int))) with
  | true =>
    have hf : fitsB n C = false := by unfold fitsB; rw [hb]; rfl
    rw [hf] at h
    simp only [go_sem, hb, Try.results19]
    exact ret_d0 h
  | false =>
    have hf : fitsB n C = fitsC n C := by unfold fitsB; rw [hb]; rfl
    rw [hf] at h
    simp only [Bool.or_eq_false_iff, decide_eq_false_iff_not] at hb
    have hb' : (decide (n < 0) || decide (12 < n) || decide ((60 : Int) < (C.length : Int))) = false := by simp only [Bool.or_eq_false_iff, decide_eq_false_iff_not]; exact hb
    simp only [go_sem, hb', Try.results19]
    refine aw_loop (fun m fr st => ∃ j : Nat, j ≤ C.length ∧ m = C.length - j ∧ (C.take j).all (fun c => !(decide ((20 : Int) < (c.length : Int)) || !(validB n c))) = true ∧ fr = [di n, .d (csD C), .any, .any, db false, dn j, .any, .any, .any, .any, .any, .any, .any, .any, .any, .any, .any, .any, .any, .any, .any, .any, .any, .any, .any, .any, .any, .any, .any, .any, .any, .any, .any, .any, .any, .any, .any, .any] ∧ st = σ) C.length _
      (Wk.mask [0, 1, 4, 5] ⟨0, by omega, by omega, rfl, rfl, rfl⟩) ?_
    rintro m fr st ⟨j, hj, hm, hal, rfl, rfl⟩
    unfold csD
    rcases Nat.lt_or_ge j C.length with hlt | hge
    · have hd : decide ((j : Int) < (C.length : Int)) = true := by simp; omega
      have w2 := wrapS j (by omega)
      have g0 : List.getD (C.map isD) j default = isD (C.getD j []) := getD_mapD hlt
      have hcl := hc _ (getD_mem [] hlt)
      generalize hce : C.getD j [] = c at g0 hcl
      simp only [go_sem, List.length_map, hd, g0, w2, isD, Try.results19]
      refine ⟨⟨by omega, by omega⟩, fun e => ⟨by omega, by omega⟩, ex' (.bool (validB n c)) ⟨fun e => ?_, ?_⟩⟩
      · simp only [go_sem]
        refine ⟨e, ac' (validR_ac n (by omega) c (by omega) _ _ _ ⟨rfl, rfl⟩)⟩
      simp only [go_sem, List.length_map, hd, g0, w2, isD, Try.results19]
      refine ⟨fun e => ?_, fun e => ?_⟩
      · have hv : fitsC n C = false := all_stop [] hlt (by rw [hce, e]; rfl)
        rw [hv] at h
        exact ret_d0 h
      · exact Wk.mask [0, 1, 4, 5] ⟨C.length - (j + 1), by omega, j + 1, by omega, rfl, by rw [all_step [] hlt hal, hce, e]; rfl, rfl, rfl⟩
    · have hd : decide ((j : Int) < (C.length : Int)) = false := by simp; omega
      rw [List.take_of_length_le hge] at hal
      have hv : fitsC n C = true := hal
      rw [hv] at h
      simp only [go_sem, List.length_map, hd, Try.results19]
      exact ret_d0 h
/-- What is known of a log's sizes. -/
def Szs (S : Sv) : Prop := S.steps.length ≤ 20000 ∧ S.added.length ≤ 40000 ∧ ∀ s ∈ S.steps, s.1.length ≤ 1000000 ∧ s.2.length ≤ 1000000 ∧ ∀ id ∈ s.2, id < 1000000
theorem full_ac (hS : Sol I S σ) (hz : Szs S) (G : Glob) (R : A → St → Prop) (h : R (db (decide (10000 ≤ S.steps.length))) σ) : AC Try.prog G 22 [.ref (I .st) 0] σ R := by
  refine ac_enter mixed Try.func22 rfl Try.ntmps22 (by simp only [go_sem]) fun hbd => ?_
  simp only [List.length_cons, List.length_nil, Nat.reduceAdd, Nat.reduceSub, List.replicate_succ, List.replicate_zero, List.cons_append, List.nil_append]
  simp only [go_sem, Try.results22]
  refine ac' (proof_ac hS hz.1 hz.2.1 hz.2.2 _ _ ?_)
  have e : decide ((10000 : Int) ≤ ((proofM S).length : Int)) = decide (10000 ≤ S.steps.length) := by
    unfold proofM
    rw [List.length_map]
    exact decide_eq_decide.2 (by omega)
  unfold prfD
  simp only [go_sem, List.length_map, e, Try.results22]
  exact ret_d0 h
end Go.Proofs.Ytnanofipjiclfaa
end PartX1

section PartQ14
/- Plain facts on the solver's model: more fuel changes nothing. -/
set_option linter.unusedSimpArgs false
set_option linter.unusedVariables false
namespace Go.Proofs.Ytnanofipjiclfaa
open Go Go.Ab

def upL (d : Nat) (S : Sv) : Sv := { S with left := S.left + d }
theorem up_fold {β : Type} (d : Nat) (g : Sv → β → Sv) (h : ∀ S x, g (upL d S) x = upL d (g S x)) : ∀ (l : List β) (S : Sv), l.foldl g (upL d S) = upL d (l.foldl g S)
  | [], S => rfl
  | x :: l, S => by rw [List.foldl_cons, List.foldl_cons, h, up_fold d g h l]
theorem up_hold (d : Nat) (S : Sv) (id : Nat) (k : Int) : (upL d S).hold id k = upL d (S.hold id k) := rfl
theorem up_open (d : Nat) (S : Sv) (id : Nat) (k : Int) : (upL d S).openD id k = upL d (S.openD id k) := rfl
theorem up_cl (d : Nat) (S : Sv) (id : Nat) : (upL d S).cl id = S.cl id := rfl
theorem up_ex (d : Nat) (S : Sv) (id : Nat) : (upL d S).examine id = upL d (S.examine id) := by
  unfold Sv.examine
  rw [up_cl]
  split <;> rfl
theorem up_assign (d : Nat) {S : Sv} (l reason : Int) (h : S.left ≠ 0) : (upL d S).assign l reason = (upL d (S.assign l reason).1, true) ∧ (S.assign l reason).2 = true := by
  unfold Sv.assign
  have h2 : (upL d S).left ≠ 0 := by unfold upL; simp only; omega
  rw [if_neg h, if_neg h2]
  have e1 : (upL d S).mark1 l reason = upL d (S.mark1 l reason) := by
    unfold Sv.mark1 upL
    simp only [Sv.mk.injEq]
    refine ⟨trivial, trivial, trivial, trivial, trivial, trivial, trivial, trivial, trivial, trivial, trivial, trivial, trivial, trivial, trivial, by omega, trivial, trivial, trivial, trivial, trivial, trivial⟩
  refine ⟨?_, rfl⟩
  simp only [e1]
  have o1 : (upL d (S.mark1 l reason)).occ = (S.mark1 l reason).occ := rfl
  rw [o1, up_fold d (fun S id => S.hold id 1) (fun S x => up_hold d S x 1)]
  generalize ((S.mark1 l reason).occ.getD (code l) []).foldl (fun S id => S.hold id 1) (S.mark1 l reason) = S2
  have o2 : (upL d S2).occ = S2.occ := rfl
  rw [o2, up_fold d (fun S id => (S.openD id (-1)).examine id) (fun S x => by rw [up_open, up_ex])]
theorem prop_up (d : Nat) : ∀ (n : Nat) {S S' : Sv} {c : Int}, Sv.prop n S = some (S', c, true) → Sv.prop n (upL d S) = some (upL d S', c, true)
  | 0, S, S', c, h => by unfold Sv.prop at h; cases h
  | n + 1, S, S', c, h => by
    unfold Sv.prop at h ⊢
    have hq : (upL d S).queue = S.queue := rfl
    rw [hq]
    cases hq' : S.queue with
    | nil =>
      rw [hq'] at h
      simp only [Option.some.injEq, Prod.mk.injEq] at h ⊢
      obtain ⟨rfl, rfl, -⟩ := h
      exact ⟨rfl, rfl, trivial⟩
    | cons a q =>
      rw [hq'] at h
      simp only at h ⊢
      have e0 : ({ upL d S with queue := (Sv.hpop (a :: q)).dropLast } : Sv) = upL d { S with queue := (Sv.hpop (a :: q)).dropLast } := rfl
      rw [e0]
      generalize ({ S with queue := (Sv.hpop (a :: q)).dropLast } : Sv) = S1 at h ⊢
      generalize (Sv.hpop (a :: q)).getLastD 0 = id at h ⊢
      rw [up_cl]
      by_cases h1 : 0 < (S1.cl id).held
      · rw [if_pos h1] at h ⊢
        exact prop_up d n h
      rw [if_neg h1] at h ⊢
      by_cases h2 : (S1.cl id).opn = 0
      · rw [if_pos h2] at h ⊢
        simp only [Option.some.injEq, Prod.mk.injEq] at h ⊢
        obtain ⟨rfl, rfl, -⟩ := h
        exact ⟨rfl, rfl, trivial⟩
      rw [if_neg h2] at h ⊢
      have e2 : (fun l => !(upL d S1).tr (-l)) = fun l => !S1.tr (-l) := rfl
      rw [e2]
      cases hf : (S1.cl id).lits.find? (fun l => !S1.tr (-l)) with
      | none => rw [hf] at h; cases h
      | some l =>
        rw [hf] at h
        simp only at h ⊢
        by_cases hl : S1.left = 0
        · have e : S1.assign l (id : Int) = (S1, false) := by unfold Sv.assign; rw [if_pos hl]
          rw [e] at h
          simp at h
        · obtain ⟨e3, e4⟩ := up_assign d l (id : Int) hl
          rw [e3]
          generalize S1.assign l (id : Int) = p at h e4 ⊢
          obtain ⟨S2, b⟩ := p
          simp only at e4
          subst e4
          exact prop_up d n h
end Go.Proofs.Ytnanofipjiclfaa
end PartQ14

section PartQ15
/- Plain facts on the solver's model: more fuel changes nothing in a search that ends. -/
set_option linter.unusedSimpArgs false
set_option linter.unusedVariables false
namespace Go.Proofs.Ytnanofipjiclfaa
open Go Go.Ab

theorem up_enter1 (d id : Nat) (p : Sv × Cl) (l : Int) : Sv.enter1 id (upL d p.1, p.2) l = (upL d (Sv.enter1 id p l).1, (Sv.enter1 id p l).2) := by
  have e : Sv.enter1 id (upL d p.1, p.2) l = if p.1.last.getD (code l) 0 = p.1.stamp then (upL d p.1, p.2) else ({ upL d p.1 with last := p.1.last.set (code l) p.1.stamp, occ := p.1.occ.set (code l) (p.1.occ.getD (code l) [] ++ [id]) }, ⟨p.2.lits, if p.1.tr (-l) then p.2.opn else p.2.opn + 1, if p.1.tr l then p.2.held + 1 else p.2.held⟩) := rfl
  rw [e]
  unfold Sv.enter1
  split
  · rfl
  · rfl
theorem up_enterF (d id : Nat) : ∀ (lits : List Int) (p : Sv × Cl), lits.foldl (Sv.enter1 id) (upL d p.1, p.2) = (upL d (lits.foldl (Sv.enter1 id) p).1, (lits.foldl (Sv.enter1 id) p).2)
  | [], p => rfl
  | l :: lits, p => by
    rw [List.foldl_cons, List.foldl_cons, up_enter1]
    exact up_enterF d id lits (Sv.enter1 id p l)
theorem up_enter (d : Nat) (S : Sv) (lits : List Int) (id : Nat) : (upL d S).enter lits id = (upL d (S.enter lits id).1, (S.enter lits id).2) :=
  up_enterF d id lits ({ S with stamp := S.stamp + 1 }, ⟨lits, 0, 0⟩)
theorem up_learn (d : Nat) (S : Sv) (lits : List Int) (hints : List Nat) : (upL d S).learn lits hints = (upL d (S.learn lits hints).1, (S.learn lits hints).2) := by
  unfold Sv.learn
  have e1 : (upL d S).again (lits.map (- ·)) = S.again (lits.map (- ·)) := rfl
  have e2 : (upL d S).steps = S.steps := rfl
  simp only [e1, e2]
  split
  · rfl
  · split
    · rfl
    · have e3 : ({ upL d S with steps := S.steps ++ [(lits.map (- ·), hints)] } : Sv) = upL d { S with steps := S.steps ++ [(lits.map (- ·), hints)] } := rfl
      simp only [e3, up_enter]
      rfl
theorem up_drop1 (d : Nat) (S : Sv) (l : Int) : (upL d S).drop1 l = upL d (S.drop1 l) := by
  rw [drop1_eq, drop1_eq]
  have e1 : drop0 (upL d S) l = upL d (drop0 S l) := rfl
  have e2 : (upL d S).occ = S.occ := rfl
  rw [e1, e2]
  unfold holds opens
  rw [up_fold d (fun S id => S.hold id (-1)) (fun S x => up_hold d S x (-1)), up_fold d (fun S id => S.openD id 1) (fun S x => up_open d S x 1)]
theorem up_retract (d : Nat) (S : Sv) (n : Nat) : (upL d S).retract n = upL d (S.retract n) := by
  unfold Sv.retract
  exact up_fold d Sv.drop1 (up_drop1 d) _ S
theorem up_backjump (d : Nat) (S : Sv) (ds : List Int) : (upL d S).backjump ds = (upL d (S.backjump ds).1, (S.backjump ds).2) := by
  unfold Sv.backjump
  have e1 : (upL d S).backLevel ds = S.backLevel ds := rfl
  have e2 : (upL d S).starts = S.starts := rfl
  simp only [e1, e2, up_retract]
  generalize S.retract (S.starts.getD (S.backLevel ds) 0) = S3
  exact Prod.ext (up_ex d ({ S3 with starts := S3.starts.take (S.backLevel ds), queue := [] } : Sv) (cmax + S3.learned.length - 1)) rfl
theorem up_explain (d : Nat) (S : Sv) (id : Nat) (ex : Int) : (upL d S).explain id ex = S.explain id ex := rfl
theorem up_contradict (d : Nat) (S : Sv) (l : Int) : (upL d S).contradict l = (upL d (S.contradict l).1, (S.contradict l).2) := by
  unfold Sv.contradict
  have e1 : (upL d S).reasons = S.reasons := rfl
  simp only [e1, up_explain]
  split
  · rfl
  · have e3 := up_learn d ({ S with marked := (S.explain (S.reasons.getD (vr l) 0).toNat (-l)).1 } : Sv) ((S.explain (S.reasons.getD (vr l) 0).toNat (-l)).2.1.reverse ++ [l]) (S.explain (S.reasons.getD (vr l) 0).toNat (-l)).2.2.reverse
    change (match (upL d ({ S with marked := (S.explain (S.reasons.getD (vr l) 0).toNat (-l)).1 } : Sv)).learn ((S.explain (S.reasons.getD (vr l) 0).toNat (-l)).2.1.reverse ++ [l]) (S.explain (S.reasons.getD (vr l) 0).toNat (-l)).2.2.reverse with
      | (S1, false) => (S1, (0 : Int))
      | (S1, true) => (S1.refute ((S.explain (S.reasons.getD (vr l) 0).toNat (-l)).2.1.reverse ++ [l]), 2)) = _
    rw [e3]
    generalize ({ S with marked := (S.explain (S.reasons.getD (vr l) 0).toNat (-l)).1 } : Sv).learn ((S.explain (S.reasons.getD (vr l) 0).toNat (-l)).2.1.reverse ++ [l]) (S.explain (S.reasons.getD (vr l) 0).toNat (-l)).2.2.reverse = L
    obtain ⟨S2, b⟩ := L
    cases b <;> rfl
theorem up_decide (d : Nat) {S : Sv} (l : Int) (h : S.left ≠ 0) : (upL d S).decide' l = (upL d (S.decide' l).1, true) ∧ (S.decide' l).2 = true := by
  have := up_assign d (S := { S with starts := S.starts ++ [S.trail.length] }) l (-1) h
  exact this
theorem decide_left0 {S : Sv} (h : S.left = 0) (l : Int) : (S.decide' l).2 = false := by unfold Sv.decide' Sv.assign; rw [if_pos h]
theorem srch_up (d : Nat) (asm : List Int) : ∀ (n : Nat) {S S' : Sv} {a x : Nat} {v : Int}, Sv.srch asm n S a x = some (S', v) → v ≠ 0 → Sv.srch asm n (upL d S) a x = some (upL d S', v)
  | 0, S, S', a, x, v, h, _ => by unfold Sv.srch at h; cases h
  | n + 1, S, S', a, x, v, h, hv => by
    unfold Sv.srch at h ⊢
    cases hp : S.prop (n + 1) with
    | none => rw [hp] at h; cases h
    | some p =>
      rw [hp] at h
      obtain ⟨S1, c, ok⟩ := p
      cases ok with
      | false =>
        simp only [Option.some.injEq, Prod.mk.injEq] at h
        exact absurd h.2.symm hv
      | true =>
        rw [prop_up d _ hp]
        simp only at h ⊢
        by_cases hc : 0 ≤ c
        · rw [if_pos hc] at h ⊢
          change (match (upL d ({ S1 with marked := (S1.explain c.toNat 0).1 } : Sv)).learn (S1.explain c.toNat 0).2.1.reverse (S1.explain c.toNat 0).2.2.reverse with
            | (S2, false) => some (S2, (0 : Int))
            | (S2, true) =>
              if (S1.explain c.toNat 0).2.1.reverse.length = 0 ∨ S2.level ((S1.explain c.toNat 0).2.1.reverse.getD ((S1.explain c.toNat 0).2.1.reverse.length - 1) 0) ≤ a then some (S2.refute (S1.explain c.toNat 0).2.1.reverse, 2)
              else if (S2.backjump (S1.explain c.toNat 0).2.1.reverse).2 < a then Sv.srch asm n (S2.backjump (S1.explain c.toNat 0).2.1.reverse).1 (S2.backjump (S1.explain c.toNat 0).2.1.reverse).2 0 else Sv.srch asm n (S2.backjump (S1.explain c.toNat 0).2.1.reverse).1 a x) = some (upL d S', v)
          rw [up_learn]
          generalize ({ S1 with marked := (S1.explain c.toNat 0).1 } : Sv).learn (S1.explain c.toNat 0).2.1.reverse (S1.explain c.toNat 0).2.2.reverse = L at h ⊢
          generalize (S1.explain c.toNat 0).2.1.reverse = ds at h ⊢
          obtain ⟨S2, b⟩ := L
          cases b with
          | false =>
            simp only [Option.some.injEq, Prod.mk.injEq] at h
            exact absurd h.2.symm hv
          | true =>
            simp only at h ⊢
            have e3 : (upL d S2).level = S2.level := rfl
            rw [e3]
            by_cases hcond : ds.length = 0 ∨ S2.level (ds.getD (ds.length - 1) 0) ≤ a
            · rw [if_pos hcond] at h ⊢
              simp only [Option.some.injEq, Prod.mk.injEq] at h ⊢
              obtain ⟨rfl, rfl⟩ := h
              exact ⟨rfl, rfl⟩
            · rw [if_neg hcond] at h ⊢
              rw [up_backjump]
              simp only at h ⊢
              by_cases hb : (S2.backjump ds).2 < a
              · rw [if_pos hb] at h ⊢
                exact srch_up d asm n h hv
              · rw [if_neg hb] at h ⊢
                exact srch_up d asm n h hv
        · rw [if_neg hc] at h ⊢
          have e4 : (upL d S1).nextA asm x = S1.nextA asm x := rfl
          have e5 : (upL d S1).tr = S1.tr := rfl
          rw [e4, e5]
          by_cases hx : S1.nextA asm x < asm.length
          · rw [if_pos hx] at h ⊢
            cases ht : S1.tr (-(asm.getD (S1.nextA asm x) 0)) with
            | true =>
              rw [ht] at h
              simp only [if_true, Option.some.injEq] at h ⊢
              rw [up_contradict, h]
            | false =>
              rw [ht] at h
              simp only [Bool.false_eq_true, if_false] at h ⊢
              by_cases hl : S1.left = 0
              · have := decide_left0 hl (asm.getD (S1.nextA asm x) 0)
                generalize S1.decide' (asm.getD (S1.nextA asm x) 0) = D at h this
                obtain ⟨S2, b⟩ := D
                simp only at this
                subst this
                simp only [Option.some.injEq, Prod.mk.injEq] at h
                exact absurd h.2.symm hv
              · obtain ⟨e6, e7⟩ := up_decide d (asm.getD (S1.nextA asm x) 0) hl
                rw [e6]
                generalize S1.decide' (asm.getD (S1.nextA asm x) 0) = D at h e7 ⊢
                obtain ⟨S2, b⟩ := D
                simp only at e7
                subst e7
                exact srch_up d asm n h hv
          · rw [if_neg hx] at h ⊢
            have e8 : (upL d S1).firstV = S1.firstV := rfl
            have e9 : ({ upL d S1 with first := S1.firstV } : Sv) = upL d { S1 with first := S1.firstV } := rfl
            simp only [e8, e9] at h ⊢
            generalize hS2 : ({ S1 with first := S1.firstV } : Sv) = S2 at h ⊢
            have e10 : (upL d S1).vars = S1.vars := rfl
            rw [e10]
            by_cases hcond : S1.vars < S1.firstV
            · rw [if_pos hcond] at h ⊢
              simp only [Option.some.injEq, Prod.mk.injEq] at h ⊢
              obtain ⟨rfl, rfl⟩ := h
              exact ⟨rfl, rfl⟩
            · rw [if_neg hcond] at h ⊢
              by_cases hl : S2.left = 0
              · have := decide_left0 hl (-(S1.firstV : Int))
                generalize S2.decide' (-(S1.firstV : Int)) = D at h this
                obtain ⟨S3, b⟩ := D
                simp only at this
                subst this
                simp only [Option.some.injEq, Prod.mk.injEq] at h
                exact absurd h.2.symm hv
              · obtain ⟨e6, e7⟩ := up_decide d (-(S1.firstV : Int)) hl
                rw [e6]
                generalize S2.decide' (-(S1.firstV : Int)) = D at h e7 ⊢
                obtain ⟨S3, b⟩ := D
                simp only at e7
                subst e7
                exact srch_up d asm n h hv
end Go.Proofs.Ytnanofipjiclfaa
end PartQ15

section PartQ16
/- Plain facts on the solver's model: what an assignment of all variables says. -/
set_option linter.unusedSimpArgs false
set_option linter.unusedVariables false
namespace Go.Proofs.Ytnanofipjiclfaa
open Go Go.Ab

/-- All is quiet and all is assigned: every clause has a true literal. -/
theorem sat_of_quiet {S : Sv} (g : Gd S) (hq : Quiet S S.trail) (hall : ∀ v, 1 ≤ v → v ≤ S.vars → ∃ l ∈ S.trail, vr l = v) (id : Nat) (ho : okId S id) : ∃ m ∈ (S.cl id).lits, m ∈ S.trail := by
  rcases hq id ho with h | ⟨m1, h1, m2, h2, hne, n1, n2⟩
  · exact h
  · have hv := g.lits id ho m1 h1
    have hv' := hv
    unfold LitV at hv'
    obtain ⟨l, hl, e⟩ := hall (vr m1) (by unfold vr; omega) (by unfold vr; omega)
    rcases vr_code (g.tv l hl).1 hv.1 e with rfl | rfl
    · exact ⟨l, h1, hl⟩
    · exact absurd hl n1
/-- The values that are kept are those of the trail. -/
theorem keep_vals {S : Sv} (g : Gd S) (hall : ∀ v, 1 ≤ v → v ≤ S.vars → ∃ l ∈ S.trail, vr l = v) {l : Int} (hl : LitV S.vars l) : (S.keep.values.getD (vr l - 1) false = decide (0 < l)) ↔ l ∈ S.trail := by
  have hl2 := hl
  unfold LitV at hl2
  have hk : vr l - 1 < S.vars := by unfold vr; omega
  have e : S.keep.values.getD (vr l - 1) false = S.truth.getD (2 * (vr l - 1 + 1)) false := by
    unfold Sv.keep
    simp only
    rw [List.getD_eq_getElem?_getD, List.getElem?_map, List.getElem?_range hk]
    rfl
  rw [e]
  have e1 : vr l - 1 + 1 = vr l := by unfold vr; omega
  rw [e1]
  have hp : LitV S.vars (vr l : Int) := by unfold LitV vr; omega
  have hc : code (vr l : Int) = 2 * vr l := by unfold code; rw [if_neg (by omega)]; omega
  have ht := g.tt _ hp
  unfold Sv.tr at ht
  rw [hc] at ht
  by_cases hpos : 0 < l
  · have e2 : (vr l : Int) = l := by unfold vr; omega
    rw [decide_eq_true hpos, ht, e2]
  · have e2 : (vr l : Int) = -l := by unfold vr; omega
    rw [decide_eq_false hpos]
    rw [e2] at ht
    constructor
    · intro hf
      obtain ⟨x, hx, ex⟩ := hall (vr l) (by unfold vr; omega) (by unfold vr; omega)
      rcases vr_code (g.tv x hx).1 hl.1 ex with rfl | rfl
      · exact hx
      · have := ht.2 hx
        rw [hf] at this
        cases this
    · intro hm
      rw [Bool.eq_false_iff]
      intro h'
      exact g.not_both hm (ht.1 h')
end Go.Proofs.Ytnanofipjiclfaa
end PartQ16

section PartQ17
/- Plain facts on the solver's model: propagation ends. -/
set_option linter.unusedSimpArgs false
set_option linter.unusedVariables false
namespace Go.Proofs.Ytnanofipjiclfaa
open Go Go.Ab

theorem prop_ends : ∀ (n : Nat) {S : Sv}, Gd S → S.queue.length + 60001 * (S.vars - S.trail.length) < n → ∃ r, Sv.prop n S = some r
  | 0, S, _, h => by omega
  | n + 1, S, g, h => by
    unfold Sv.prop
    cases hq : S.queue with
    | nil => exact ⟨_, rfl⟩
    | cons a q =>
      have hne : S.queue ≠ [] := by rw [hq]; exact List.cons_ne_nil _ _
      simp only
      rw [← hq]
      obtain ⟨g1, ho⟩ := g.pop hne
      have hpl := hpop_len hne
      generalize (Sv.hpop S.queue).getLastD 0 = id at ho ⊢
      have ho1 : okId { S with queue := (Sv.hpop S.queue).dropLast } id := ho
      have f1 : ({ S with queue := (Sv.hpop S.queue).dropLast } : Sv).vars = S.vars ∧ ({ S with queue := (Sv.hpop S.queue).dropLast } : Sv).trail = S.trail ∧ ({ S with queue := (Sv.hpop S.queue).dropLast } : Sv).queue.length + 1 = S.queue.length := ⟨rfl, rfl, hpl⟩
      generalize ({ S with queue := (Sv.hpop S.queue).dropLast } : Sv) = S1 at g1 ho1 f1 ⊢
      obtain ⟨f1, f2, f3⟩ := f1
      have hnn := g1.held_nonneg ho1
      by_cases hh : 0 < (S1.cl id).held
      · rw [if_pos hh]
        exact prop_ends n g1 (by rw [f1, f2]; omega)
      rw [if_neg hh]
      by_cases h0 : (S1.cl id).opn = 0
      · rw [if_pos h0]; exact ⟨_, rfl⟩
      rw [if_neg h0]
      cases hfd : (S1.cl id).lits.find? (fun l => !S1.tr (-l)) with
      | none =>
        exfalso
        refine h0 ((g1.opn_zero ho1).2 fun l hl => ?_)
        have := List.find?_eq_none.1 hfd l hl
        simpa using this
      | some l =>
        have hlm := List.mem_of_find?_eq_some hfd
        have hlt := List.find?_some hfd
        have hlv := g1.lits id ho1 l hlm
        have hfree : Free S1 l := ⟨(g1.held_zero ho1).1 (by omega) l hlm, by simpa using hlt⟩
        simp only
        by_cases hl0 : S1.left = 0
        · have e : S1.assign l (id : Int) = (S1, false) := by unfold Sv.assign; rw [if_pos hl0]
          rw [e]
          exact ⟨_, rfl⟩
        · obtain ⟨e0, as1, -, -, -⟩ := assign_asg (reason := (id : Int)) g1 hlv hl0
          have g2 := g1.assign (reason := (id : Int)) hlv hfree hl0
          have hn := as1.nqueue
          have hol := g1.occLen (code (-l))
          have htl := g2.tlen
          rw [as1.vars, as1.trail, List.length_append, List.length_singleton] at htl
          have hv := as1.vars
          have ht := as1.trail
          generalize S1.assign l (id : Int) = p at e0 g2 hn hv ht ⊢
          obtain ⟨S2, b⟩ := p
          simp only at e0 g2 hn hv ht
          subst e0
          simp only
          refine prop_ends n g2 ?_
          rw [hv, ht, List.length_append, List.length_singleton, f1, f2]
          rw [f1, f2] at htl
          omega
end Go.Proofs.Ytnanofipjiclfaa
end PartQ17

section PartQ18
/- Plain facts on the solver's model: the check of a step under other numbers. -/
set_option linter.unusedSimpArgs false
set_option linter.unusedVariables false
namespace Go.Proofs.Ytnanofipjiclfaa
open Go Go.Ab

theorem rup_map {cls cls' : Nat → List Int} {f : Nat → Nat} : ∀ (hs : List Nat) (K : List Int), (∀ x ∈ hs, cls' (f x) = cls x) → rup cls K hs → rup cls' K (hs.map f)
  | [], _, _, h => h
  | [x], K, hf, h => by
    show ∀ m ∈ cls' (f x), -m ∈ K
    rw [hf x (by simp)]
    exact h
  | x :: y :: hs, K, hf, h => by
    obtain ⟨l, h1, h2, h3, h4, h5⟩ := h
    show ∃ l ∈ cls' (f x), l ∉ K ∧ -l ∉ K ∧ (∀ m ∈ cls' (f x), m = l ∨ -m ∈ K) ∧ rup cls' (K ++ [l]) ((y :: hs).map f)
    rw [hf x (by simp)]
    exact ⟨l, h1, h2, h3, h4, rup_map (y :: hs) (K ++ [l]) (fun z hz => hf z (List.mem_cons_of_mem _ hz)) h5⟩
end Go.Proofs.Ytnanofipjiclfaa
end PartQ18

section PartQ19
/- Plain facts on the solver's model: the weight of a trail. -/
set_option linter.unusedSimpArgs false
set_option linter.unusedVariables false
namespace Go.Proofs.Ytnanofipjiclfaa
open Go Go.Ab

/-- Letters (true: implied) as a binary number of b places. -/
def val : Nat → List Bool → Nat
  | 0, _ => 0
  | _ + 1, [] => 0
  | b + 1, x :: w => (if x then 2 ^ b else 0) + val b w
theorem val_nil (b : Nat) : val b [] = 0 := by cases b <;> rfl
theorem val_lt : ∀ (b : Nat) (w : List Bool), val b w < 2 ^ b
  | 0, _ => by simp [val]
  | b + 1, [] => by rw [val_nil]; exact Nat.two_pow_pos _
  | b + 1, x :: w => by
    have := val_lt b w
    have h2 : 2 ^ (b + 1) = 2 * 2 ^ b := by rw [Nat.pow_succ]; omega
    unfold val
    split <;> omega
theorem val_mono : ∀ (b : Nat) (w s : List Bool), val b w ≤ val b (w ++ s)
  | 0, _, _ => Nat.le_refl _
  | b + 1, [], s => by rw [val_nil]; exact Nat.zero_le _
  | b + 1, x :: w, s => by
    have := val_mono b w s
    show (if x then 2 ^ b else 0) + val b w ≤ (if x then 2 ^ b else 0) + val b (w ++ s)
    omega
/-- A decision that turns into an implied literal raises the weight. -/
theorem val_jump : ∀ (b : Nat) (p s : List Bool), p.length < b → val b (p ++ false :: s) < val b (p ++ [true])
  | 0, p, s, h => by omega
  | b + 1, [], s, h => by
    have := val_lt b s
    show (if false = true then 2 ^ b else 0) + val b s < (if true = true then 2 ^ b else 0) + val b []
    rw [val_nil, if_neg (by simp), if_pos rfl]
    omega
  | b + 1, x :: p, s, h => by
    have := val_jump b p s (by simpa using h)
    show (if x then 2 ^ b else 0) + val b (p ++ false :: s) < (if x then 2 ^ b else 0) + val b (p ++ [true])
    omega
/-- The letters of a trail: its literals of the first b variables; false at the places where levels start. -/
def wd (b : Nat) (starts : List Nat) : Nat → List Int → List Bool
  | _, [] => []
  | k, l :: t => (if vr l ≤ b then [!decide (k ∈ starts)] else []) ++ wd b starts (k + 1) t
theorem wd_append (b : Nat) (starts : List Nat) : ∀ (t u : List Int) (k : Nat), wd b starts k (t ++ u) = wd b starts k t ++ wd b starts (k + t.length) u
  | [], u, k => rfl
  | l :: t, u, k => by
    show _ ++ wd b starts (k + 1) (t ++ u) = (_ ++ wd b starts (k + 1) t) ++ _
    rw [wd_append b starts t u (k + 1), List.append_assoc]
    congr 3
    rw [List.length_cons]; omega
theorem wd_congr (b : Nat) {s s' : List Nat} : ∀ (t : List Int) (k : Nat), (∀ i, k ≤ i → i < k + t.length → (i ∈ s ↔ i ∈ s')) → wd b s k t = wd b s' k t
  | [], k, _ => rfl
  | l :: t, k, h => by
    show (if vr l ≤ b then [!decide (k ∈ s)] else []) ++ wd b s (k + 1) t = (if vr l ≤ b then [!decide (k ∈ s')] else []) ++ wd b s' (k + 1) t
    have e : (k ∈ s) = (k ∈ s') := propext (h k (Nat.le_refl _) (by rw [List.length_cons]; omega))
    simp only [e]
    rw [wd_congr b t (k + 1) fun i h1 h2 => h i (by omega) (by rw [List.length_cons]; omega)]
theorem wd_len (b : Nat) (s : List Nat) : ∀ (t : List Int) (k : Nat), (wd b s k t).length = (t.filter fun l => decide (vr l ≤ b)).length
  | [], _ => rfl
  | l :: t, k => by
    show (_ ++ wd b s (k + 1) t).length = _
    rw [List.length_append, wd_len b s t (k + 1), List.filter_cons]
    by_cases h : vr l ≤ b
    · simp [h]; omega
    · simp [h]
def word (b : Nat) (S : Sv) : List Bool := wd b S.starts 0 S.trail
theorem few_vars {b : Nat} {S : Sv} (g : Gd S) {ls : List Int} (hs : ls.Sublist S.trail) (hb : ∀ l ∈ ls, vr l ≤ b) : ls.length ≤ b := by
  have h1 := nodup_bound (n := b + 1) (l := 0 :: ls.map vr) (List.nodup_cons.2 ⟨fun hm => by
      obtain ⟨a, ha, e⟩ := List.mem_map.1 hm
      have va := g.tv a (hs.subset ha)
      unfold LitV at va
      unfold vr at e
      omega, (hs.map vr).nodup g.tn⟩) fun x hx => by
    rcases List.mem_cons.1 hx with rfl | hx
    · omega
    · obtain ⟨a, ha, rfl⟩ := List.mem_map.1 hx
      have := hb a ha
      omega
  rw [List.length_cons, List.length_map] at h1
  omega
theorem word_len {b : Nat} {S : Sv} (g : Gd S) : (word b S).length ≤ b := by
  unfold word
  rw [wd_len]
  exact few_vars g List.filter_sublist fun l hl => by
    have := (List.mem_filter.1 hl).2
    simpa using this
/-- A clause that waits alone is seen to first. -/
theorem pend_first {b n : Nat} {S : Sv} {r : Sv × Int × Bool} (hr : Sv.prop n S = some r) (g : Gd S) (t : Tz S) (c : Cmp S) (w : Wt S) (hp : Pend b S) (hok : r.2.2 = true) : ∃ l u, r.1.trail = S.trail ++ l :: u ∧ vr l ≤ b := by
  obtain ⟨P, out⟩ := prop_ppg n hr g t c w
  obtain ⟨id, l, hq, hid, hh, ho, hl, htr, hv⟩ := hp
  obtain ⟨u, hu⟩ := P.ext
  have hnf : -l ∉ S.trail := fun hm => by
    rw [(g.tt _ (g.lits id hid l hl).neg).2 hm] at htr; cases htr
  cases u with
  | nil =>
    exfalso
    rw [List.append_nil] at hu
    have heq : ∀ m, LitV S.vars m → r.1.tr m = S.tr m := fun m hm => by
      rw [Bool.eq_iff_iff, P.gd.tt m (by rw [P.stl.vars]; exact hm), g.tt m hm, hu]
    rcases out with ⟨-, -, hq1, hc1⟩ | ⟨-, -, hk, hf⟩ | ⟨h1, -⟩
    · have hid1 := (P.stl.ok id).2 hid
      have := hc1 id hid1 ((P.gd.held_zero hid1).2 fun m hm => by
        rw [P.stl.lits] at hm
        rw [heq m (g.lits id hid m hm)]
        exact (g.held_zero hid).1 hh m hm) (Int.not_lt.1 fun h1 => by
        obtain ⟨x, y, hx, hy, hne, tx, ty⟩ := P.gd.opn_two hid1 h1
        rw [P.stl.lits] at hx hy
        rw [heq _ (g.lits id hid x hx).neg] at tx
        rw [heq _ (g.lits id hid y hy).neg] at ty
        exact hne (g.opn_one hid ho hx hy tx ty))
      rw [hq1] at this
      cases this
    · have hk0 := (P.stl.ok _).1 hk
      have hf0 : ∀ m ∈ (S.cl r.2.1.toNat).lits, S.tr (-m) = true := fun m hm => by
        refine (g.tt _ (g.lits _ hk0 m hm).neg).2 ?_
        rw [← hu]
        exact hf m (by rw [P.stl.lits]; exact hm)
      have hm := c _ hk0 ((g.held_zero hk0).2 fun m hm => by
        rw [Bool.eq_false_iff]
        intro h'
        exact g.not_both ((g.tt _ (g.lits _ hk0 m hm)).1 h') ((g.tt _ (g.lits _ hk0 m hm).neg).1 (hf0 m hm))) (by rw [(g.opn_zero hk0).2 hf0]; omega)
      rw [hq, List.mem_singleton] at hm
      rw [hm] at hf0
      rw [hf0 l hl] at htr
      cases htr
    · rw [hok] at h1; cases h1
  | cons x u =>
    refine ⟨x, u, hu, ?_⟩
    have hrs := P.tz.rs _ _ _ hu
    rcases hrs with ⟨-, h2⟩ | ⟨h1, h2, h3, h4, h5⟩
    · rw [P.starts] at h2
      have := t.sl _ h2
      omega
    · generalize (r.1.reasons.getD (vr x) 0).toNat = k at h3 h4 h5
      have hk0 := (P.stl.ok k).1 h3
      rw [P.stl.lits] at h4 h5
      have hxn : x ∉ S.trail := fun hm => by
        have := P.gd.tn
        rw [hu, List.map_append, List.map_cons, List.nodup_append] at this
        exact this.2.2 _ (List.mem_map_of_mem hm) _ (List.mem_cons_self ..) rfl
      have hm := c k hk0 ((g.held_zero hk0).2 fun m hm => by
        rw [Bool.eq_false_iff]
        intro h'
        have hmt := (g.tt _ (g.lits _ hk0 m hm)).1 h'
        rcases h5 m hm with rfl | h6
        · exact hxn hmt
        · exact g.not_both hmt h6) (Int.not_lt.1 fun h1 => by
        obtain ⟨y, z, hy, hz, hne, ty, tz⟩ := g.opn_two hk0 h1
        have key : ∀ m ∈ (S.cl k).lits, S.tr (-m) = false → m = x := fun m hm tm => by
          rcases h5 m hm with e | h6
          · exact e
          · rw [(g.tt _ (g.lits _ hk0 m hm).neg).2 h6] at tm; cases tm
        exact hne ((key y hy ty).trans (key z hz tz).symm))
      rw [hq, List.mem_singleton] at hm
      subst hm
      rcases h5 l hl with e | h6
      · rw [← e]; exact hv
      · exact absurd h6 hnf
end Go.Proofs.Ytnanofipjiclfaa
end PartQ19

section PartQ20
/- Plain facts on the solver's model: the weight grows. -/
set_option linter.unusedSimpArgs false
set_option linter.unusedVariables false
namespace Go.Proofs.Ytnanofipjiclfaa
open Go Go.Ab

/-- The weight of a state; pend: a literal is about to be implied. -/
def wgt (b : Nat) (S : Sv) (pend : Bool) : Nat := val b (if pend then word b S ++ [true] else word b S)
def pot (b : Nat) (S : Sv) (pend : Bool) : Nat := (2 ^ b - 1 - wgt b S pend) * (S.vars + 1) + (S.vars - S.trail.length)
theorem wgt_lt (b : Nat) (S : Sv) (pend : Bool) : wgt b S pend < 2 ^ b := val_lt _ _
/-- Propagation does not lower the weight. -/
theorem wgt_prop {b n : Nat} {S : Sv} {r : Sv × Int × Bool} {pend : Bool} (hr : Sv.prop n S = some r) (g : Gd S) (t : Tz S) (c : Cmp S) (w : Wt S) (hp : pend = true → Pend b S) (hok : r.2.2 = true) : wgt b S pend ≤ wgt b r.1 false := by
  obtain ⟨P, -⟩ := prop_ppg n hr g t c w
  unfold wgt
  have key : ∀ u, r.1.trail = S.trail ++ u → word b r.1 = word b S ++ wd b S.starts S.trail.length u := fun u hu => by
    unfold word
    rw [hu, P.starts, wd_append, Nat.zero_add]
  cases pend with
  | false =>
    obtain ⟨u, hu⟩ := P.ext
    rw [key u hu]
    simp only [Bool.false_eq_true, if_false]
    exact val_mono _ _ _
  | true =>
    obtain ⟨l, u, hu, hl⟩ := pend_first hr g t c w (hp rfl) hok
    rw [key _ hu]
    have e : wd b S.starts S.trail.length (l :: u) = [true] ++ wd b S.starts (S.trail.length + 1) u := by
      show (if vr l ≤ b then [!decide (S.trail.length ∈ S.starts)] else []) ++ _ = _
      rw [if_pos hl, decide_eq_false (fun hm => by have := t.sl _ hm; omega)]
      rfl
    rw [e, ← List.append_assoc]
    simp only [if_true, Bool.false_eq_true, if_false]
    exact val_mono _ _ _
theorem pot_prop {b n : Nat} {S : Sv} {r : Sv × Int × Bool} {pend : Bool} (hr : Sv.prop n S = some r) (g : Gd S) (t : Tz S) (c : Cmp S) (w : Wt S) (hp : pend = true → Pend b S) (hok : r.2.2 = true) : pot b r.1 false + (r.1.trail.length - S.trail.length) ≤ pot b S pend ∧ S.trail.length ≤ r.1.trail.length := by
  have h1 := wgt_prop hr g t c w hp hok
  obtain ⟨P, -⟩ := prop_ppg n hr g t c w
  obtain ⟨u, hu⟩ := P.ext
  have h2 := P.gd.tlen
  unfold pot
  rw [P.stl.vars] at *
  have h3 : r.1.trail.length = S.trail.length + u.length := by rw [hu, List.length_append]
  have h4 : (2 ^ b - 1 - wgt b r.1 false) * (S.vars + 1) ≤ (2 ^ b - 1 - wgt b S pend) * (S.vars + 1) := Nat.mul_le_mul_right _ (by omega)
  omega
/-- A decision. -/
theorem pot_decide {b M : Nat} {S : Sv} (h : Lv b M S) (hq : S.queue = []) {l : Int} (hl : LitV S.vars l) (hb : vr l ≤ b) (hf : Free S l) (hleft : S.left ≠ 0) : pot b (S.decide' l).1 false + 1 ≤ pot b S false := by
  obtain ⟨-, lv, st, e1, e2, e3, -⟩ := decide_lv h hq hl hb hf hleft
  have h2 := lv.l0.gd.tlen
  have hw : word b (S.decide' l).1 = word b S ++ wd b (S.starts ++ [S.trail.length]) S.trail.length [l] := by
    unfold word
    rw [e1, e2, wd_append, Nat.zero_add]
    congr 1
    exact wd_congr b _ _ fun i h1 h2 => by
      rw [List.mem_append, List.mem_singleton]
      exact ⟨fun h => h.elim (fun x => x) fun e => by omega, Or.inl⟩
  have h1 : wgt b S false ≤ wgt b (S.decide' l).1 false := by
    unfold wgt
    simp only [Bool.false_eq_true, if_false]
    rw [hw]
    exact val_mono _ _ _
  unfold pot
  rw [st.vars] at *
  rw [e1, List.length_append, List.length_singleton] at *
  have h4 : (2 ^ b - 1 - wgt b (S.decide' l).1 false) * (S.vars + 1) ≤ (2 ^ b - 1 - wgt b S false) * (S.vars + 1) := Nat.mul_le_mul_right _ (by omega)
  omega
theorem wgt_decide {b M : Nat} {S : Sv} (h : Lv b M S) (hq : S.queue = []) {l : Int} (hl : LitV S.vars l) (hb : vr l ≤ b) (hf : Free S l) (hleft : S.left ≠ 0) : wgt b S false ≤ wgt b (S.decide' l).1 false := by
  obtain ⟨-, lv, st, e1, e2, e3, -⟩ := decide_lv h hq hl hb hf hleft
  have hw : word b (S.decide' l).1 = word b S ++ wd b (S.starts ++ [S.trail.length]) S.trail.length [l] := by
    unfold word
    rw [e1, e2, wd_append, Nat.zero_add]
    congr 1
    exact wd_congr b _ _ fun i h1 h2 => by
      rw [List.mem_append, List.mem_singleton]
      exact ⟨fun h => h.elim (fun x => x) fun e => by omega, Or.inl⟩
  unfold wgt
  simp only [Bool.false_eq_true, if_false]
  rw [hw]
  exact val_mono _ _ _
/-- Going back. -/
theorem pot_back {b M : Nat} {S N : Sv} {i : List Int} {y : Int} {hints : List Nat} (h : Lv0 b M S) (hs : (i ++ [y]).Sublist S.trail) (hd : ∀ l ∈ i ++ [y], IsDec S l) (B : Bkd b M S N (i ++ [y]) hints) : wgt b S false < wgt b N true ∧ pot b N true < pot b S false := by
  have bs := back_spec h.gd h.tz hs hd
  have t1 := B.trail
  have t2 := B.starts
  have hv := B.vars
  have hlen := word_len (b := b) B.lv.l0.gd
  generalize S.backLevel (i ++ [y]) = back at bs t1 t2
  generalize hn : S.starts.getD back 0 = n at bs t1
  have hmem : n ∈ S.starts := by rw [← hn, List.getD_eq_getElem?_getD, List.getElem?_eq_getElem bs.lt]; exact List.getElem_mem bs.lt
  have hnl := h.tz.sl n hmem
  have hw1 : word b N = wd b S.starts 0 (S.trail.take n) := by
    unfold word
    rw [t1, t2]
    refine wd_congr b _ _ fun q h1 h2 => ?_
    rw [List.length_take] at h2
    refine ⟨fun h => List.mem_of_mem_take h, fun hm => ?_⟩
    obtain ⟨j, hj, ej⟩ := mem_idx hm
    have hjb : j < back := by
      rcases Nat.lt_or_ge j back with hlt | hge
      · exact hlt
      · rcases Nat.eq_or_lt_of_le hge with e | hlt
        · subst e; omega
        · have := sorted_lt h.tz.st hlt hj; omega
    rw [← ej, List.getD_eq_getElem?_getD, ← List.getElem?_take_of_lt (i := j) (j := back) hjb]
    have hj2 : j < (S.starts.take back).length := by rw [List.length_take]; omega
    rw [List.getElem?_eq_getElem hj2]
    exact List.getElem_mem hj2
  obtain ⟨z, rest, hz⟩ : ∃ z rest, S.trail.drop n = z :: rest := by
    have : S.trail.drop n ≠ [] := fun e => by
      have := congrArg List.length e
      rw [List.length_drop] at this
      simp at this
      omega
    exact List.exists_cons_of_ne_nil this
  have hsp : S.trail = S.trail.take n ++ z :: rest := by rw [← hz, List.take_append_drop]
  have hzl : (S.trail.take n).length = n := by rw [List.length_take]; omega
  have hzd : IsDec S z := by
    rcases h.tz.rs _ _ _ hsp with h1 | h1
    · exact h1.1
    · rw [hzl] at h1; exact absurd hmem h1.2.1
  have hzb : vr z ≤ b := h.dec z (by rw [hsp]; simp) hzd
  have hw2 : word b S = word b N ++ false :: wd b S.starts (n + 1) rest := by
    unfold word at hw1 ⊢
    rw [hw1]
    conv => lhs; rw [hsp, wd_append, Nat.zero_add, hzl]
    congr 1
    show (if vr z ≤ b then [!decide (n ∈ S.starts)] else []) ++ _ = _
    rw [if_pos hzb, decide_eq_true hmem]
    rfl
  have hpl : (word b N).length < b := by
    have := word_len (b := b) h.gd
    rw [hw2, List.length_append, List.length_cons] at this
    omega
  have hj : wgt b S false < wgt b N true := by
    unfold wgt
    simp only [Bool.false_eq_true, if_false, if_true]
    rw [hw2]
    exact val_jump _ _ _ hpl
  refine ⟨hj, ?_⟩
  have h5 := wgt_lt b N true
  unfold pot
  rw [hv]
  have h6 : (2 ^ b - 1 - wgt b N true) + 1 ≤ 2 ^ b - 1 - wgt b S false := by omega
  have h7 := Nat.mul_le_mul_right (S.vars + 1) h6
  rw [Nat.add_mul, Nat.one_mul] at h7
  omega
end Go.Proofs.Ytnanofipjiclfaa
end PartQ20
