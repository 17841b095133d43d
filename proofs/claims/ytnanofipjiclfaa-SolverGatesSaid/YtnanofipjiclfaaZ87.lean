import Derived.Test.YtnanofipjiclfaaZ86
import Derived.Test.YtnanofipjiclfaaAbEnterN

section PartT25
/- Solve. -/
set_option linter.unusedSimpArgs false
set_option linter.unusedVariables false
set_option maxRecDepth 100000
namespace Go.Proofs.Ytnanofipjiclfaa
open Go Go.Ab
variable {I : Sl → Nat} {S : Sv} {σ : St}

def Sv.start (S : Sv) (asm : List Int) (fuel : Nat) : Sv × List Int := ({ S with satisfied := false, refuted := false, left := fuel } : Sv).different asm
def Sv.spent (S : Sv) (fuel : Nat) : Sv := { S with used := S.used + (fuel - S.left) }
def Sv.finish (S : Sv) (fuel : Nat) : Sv := { (S.spent fuel).retract 0 with starts := [], queue := [] }
/-- The deferred closure. -/
theorem end_ad (hS : Sol I S σ) (g : Gd S) (i0 i1 : Nat) (fuel : Nat) (hf : fuel ≤ 1000000000) (hl : S.left ≤ fuel) (hu : S.used ≤ 1000000000000) (hfi : S.first ≤ 1000000000)
    (h0 : σ[i0]? = some (some (.cells [.ref (I .st) 0]))) (h1 : σ[i1]? = some (some (.cells [dn fuel]))) (n0 : ∀ s, has S s → I s ≠ i0) (n1 : ∀ s, has S s → I s ≠ i1) (G : Glob) (R : St → Prop)
    (h : ∀ I' σ', Sol I' (S.finish fuel) σ' → Stp Any I S σ I' σ' → R σ') : AD Try.prog G 37 [.ref i0 0, .ref i1 0] none σ R := by
  refine ad_enter mixed (tx := ⟨false, [1, 2], true⟩) Try.func37 rfl Try.ntmps37 (by simp only [go_sem]) rfl fun hbd => ?_
  simp only [List.length_cons, List.length_nil, Nat.reduceAdd, Nat.reduceSub, List.replicate_succ, List.replicate_zero, List.cons_append, List.nil_append]
  have w1 : IntKind.i64.wrap ((fuel : Int) - (S.left : Int)) = ((fuel - S.left : Nat) : Int) := by rw [wrap64_id _ (by omega) (by omega)]; omega
  have w2 : IntKind.i64.wrap ((S.used : Int) + ((fuel - S.left : Nat) : Int)) = ((S.used + (fuel - S.left) : Nat) : Int) := by rw [wrap64_id _ (by omega) (by omega)]; omega
  refine aw_cut (fun fr st => fr = [.ref i0 0, .ref i1 0, .any, .any, .any, .any, .any, .any, .any, .any, .any, .any, .any, .any, .any, .any, .any, .any, .any, .any, .any, .any, .any, .any, .any, .any, .any, .any, .any, .any, .any, .any, .any, .any, .any] ∧ st[i0]? = some (some (.cells [.ref (I .st) 0])) ∧ Sol I (S.spent fuel) st ∧ Stp Any I S σ I st) ?_ ?_
  · simp only [go_sem, Try.results37]
    refine aw_plan (.tk 16 0 <| .done) (by kernel_rfl) ?_
    simp only [go_sem, live_of h0, objK_of h0, live_of h1, objK_of h1, hS.live .st, hS.ob .st, ct, w1, w2, Try.results37]
    exact Wk.mask [0, 1] ⟨rfl, by rw [set_other (n0 .st trivial)]; exact h0, hS.put .st trivial (fun t => by cases t <;> exact Iff.rfl) (by rfl) (fun t ht => by cases t <;> first | rfl | exact absurd rfl ht), stp_put _ .st trivial⟩
  rintro fr st ⟨rfl, hb0, hS1, hT1⟩
  have g1 : Gd (S.spent fuel) := ⟨⟨g.sh.vars, g.sh.occ, g.sh.last, g.sh.truth, g.sh.reasons, g.sh.levels, g.sh.marked⟩, g.v1, g.na, g.nl, g.lits, g.ll, g.nd, g.ok, g.mem, g.low, g.hc, g.oc, g.tv, g.tn, g.tt, g.la, g.um, g.qu⟩
  have e1 : (S.spent fuel).first = S.first ∧ (S.spent fuel).starts = S.starts ∧ (S.spent fuel).queue = S.queue := ⟨rfl, rfl, rfl⟩
  have hh1 : ∀ s, has S s ↔ has (S.spent fuel) s := fun s => by cases s <;> exact Iff.rfl
  have hfin : S.finish fuel = { (S.spent fuel).retract 0 with starts := [], queue := [] } := rfl
  rw [hfin] at h
  have m0 : ∀ s, has (S.spent fuel) s → I s ≠ i0 := fun s hs => n0 s ((hh1 s).2 hs)
  generalize S.spent fuel = S1 at hS1 g1 e1 hh1 h m0
  have htl := g1.tlen
  have hv1 := g1.v1
  obtain ⟨g2, r2⟩ := g1.retract 0
  have hh2 : ∀ s, has S1 s ↔ has (S1.retract 0) s := SameOcc.has (by unfold SameOcc; rw [r2.occ])
  refine aw_cut (fun fr st => fr = [.ref i0 0, .ref i1 0, .any, .any, .any, .any, .any, .any, .any, .any, .any, .any, .any, .any, .any, .any, .any, .any, .any, .any, .any, .any, .any, .any, .any, .any, .any, .any, .any, .any, .any, .any, .any, .any, .any] ∧ ∃ I', I' .st = I .st ∧ st[i0]? = some (some (.cells [.ref (I .st) 0])) ∧ Sol I' (S1.retract 0) st ∧ Stp Any I S σ I' st) ?_ ?_
  · simp only [go_sem, live_of hb0, objK_of hb0, Try.results37]
    refine ac' (retract_ac (n := 0) hS1 g1.sh (by omega) 1000 g1.cb (by omega) (fun l hl => ⟨g1.tv l hl, g1.occOk l, g1.occOk (-l)⟩) (by omega) (by rw [e1.1]; exact hfi) _ _ fun rr I' σ' k1 k2 => ?_)
    simp only [go_sem, Try.results37]
    exact Wk.mask [0, 1] ⟨rfl, I', k2.st, by rw [k2.keep i0 (lt_of_some hb0) (fun s hs e => m0 s hs e.symm)]; exact hb0, k1, hT1.trans hh1 k2⟩
  clear hS1 hT1 hb0
  rintro fr st ⟨rfl, I', hI', hb0, hS2, hT2⟩
  have e2 : (S1.retract 0).starts = S.starts ∧ (S1.retract 0).queue = S.queue := ⟨r2.starts.trans e1.2.1, r2.queue.trans e1.2.2⟩
  have hh3 : ∀ s, has S s ↔ has (S1.retract 0) s := fun s => (hh1 s).trans (hh2 s)
  generalize S1.retract 0 = S2 at hS2 h e2 hh3
  rw [← hI'] at hb0
  refine aw_plan (.tk 11 0 <| .tk 2 12 <| .alt 11 (.tk 4 14 <| .done) <| .alt 14 (.take 11 <| .tk 3 15 <| .done) <| .stop) (by kernel_rfl) ?_
  have l1 : ∀ x, liveId (st.set (I' .st) (some x)) (I' .st) = true := fun x => live_of (set_same (hS2.get .st trivial))
  have l2 : ∀ cs k, objK (st.set (I' .st) (some (.cells cs))) (I' .st) k = k cs := fun cs k => objK_of (set_same (hS2.get .st trivial))
  have l3 : ∀ x, liveId (st.set (I' .st) x) (I' .starts) = true := fun x => live_of (by rw [set_other (hS2.ne (by decide))]; exact hS2.get .starts trivial)
  have l4 : ∀ x, liveId (st.set (I' .st) x) (I' .queue) = true := fun x => live_of (by rw [set_other (hS2.ne (by decide))]; exact hS2.get .queue trivial)
  simp only [go_sem, live_of hb0, objK_of hb0, hS2.live .st, hS2.ob .st, hS2.live .starts, hS2.live .queue, l1, l2, l3, l4, List.set_set, ct, Try.results37]
  unfold endS
  simp only [go_sem, Try.results37]
  refine ⟨⟨by omega, by omega⟩, ⟨by omega, by omega⟩, ?_⟩
  have hne1 : I' .st ≠ I' .starts := hS2.ne (by decide)
  have hne2 : I' .st ≠ I' .queue := hS2.ne (by decide)
  have hne3 : I' .starts ≠ I' .queue := hS2.ne (by decide)
  refine ⟨_, _, (Weak.shortAt (I' .starts) 0 (cs := natsA S2.starts) (by rw [set_other hne1]; exact hS2.get .starts trivial)).trans (Weak.shortAt (I' .queue) 0 (cs := natsA S2.queue) (by rw [set_other hne3, set_other hne2]; exact hS2.get .queue trivial)), h I' _ ⟨fun s hs => ?_, fun a c ha hc => hS2.inj a c (by cases a <;> exact ha) (by cases c <;> exact hc)⟩ ?_⟩
  · have hs2 : has S2 s := by cases s <;> exact hs
    have hg := hS2.get s hs2
    by_cases e1 : s = .st
    · subst e1
      rw [set_other (Ne.symm hne2), set_other (Ne.symm hne1), set_same hg]; rfl
    by_cases e2 : s = .starts
    · subst e2
      rw [set_other (Ne.symm hne3), set_same (x := some (.cells (natsA S2.starts))) (by rw [set_other hne1]; exact hg)]; rfl
    by_cases e3 : s = .queue
    · subst e3
      rw [set_same (x := some (.cells (natsA S2.queue))) (by rw [set_other hne3, set_other hne2]; exact hg)]; rfl
    rw [set_other (fun e => e3 (hS2.inj .queue s trivial hs2 e).symm), set_other (fun e => e2 (hS2.inj .starts s trivial hs2 e).symm), set_other (fun e => e1 (hS2.inj .st s trivial hs2 e).symm), hg]
    cases s <;> first | rfl | exact absurd rfl e1 | exact absurd rfl e2 | exact absurd rfl e3
  · refine ⟨by simpa using hT2.len, hT2.st, hT2.ids, fun id hid hn => ?_⟩
    have hk : ∀ t, has S t → I' t ≠ id := fun t ht e => by
      rcases hT2.ids t with e' | e'
      · exact hn t ht (by rw [← e, e'])
      · omega
    rw [set_other (hk .queue trivial), set_other (hk .starts trivial), set_other (hk .st trivial)]
    exact hT2.keep id hid hn
@[go_sem] theorem preD_ret {P : Program} {G G' : Glob} {n0 : Nat} {tx : Md} {fr : Fr} {σ : St} (E : FuncId → List A → Fr → St → Prop) (b : Code) (QA : Pst) (QB : FuncId → List A → Fr → Nat → Pst) : preD P G G' n0 tx E b QA QB .ret fr σ = QA .ret fr σ := (rfl)
theorem diff_occ (S : Sv) (asm : List Int) : SameOcc S (S.different asm).1 := by
  unfold SameOcc Sv.different
  exact foldl_fix (fun p : Sv × List Int => p.1.occ.length) Sv.diff1 (fun p l => by unfold Sv.diff1; split <;> rfl) asm _
def Sv.reset (S : Sv) : Sv := { S with satisfied := false, refuted := false }
set_option maxHeartbeats 8000000 in
theorem solve_ac (hS : Sol I S σ) (g : Gd S) (asm : List Int) (hal : asm.length ≤ 1000000) (fuel : Int) (hstamp : S.stamp ≤ 1000000000) (hused : S.used ≤ 100000000000) (hq : S.queue = []) (b M : Nat) (hb : b ≤ 12) (hM : M ≤ 1000000)
    (G : Glob) (R : A → St → Prop) (h1 : fuel < 0 ∨ 1000000 < fuel → ∀ I' σ', Sol I' S.reset σ' → Stp Any I S σ I' σ' → R (.tup [di 0, di 1]) σ') (h2 : asm.all S.valid = false → ∀ I' σ', Sol I' S.reset σ' → Stp Any I S σ I' σ' → R (.tup [di 0, di 210]) σ')
    (h3 : ∀ F : Nat, fuel = F → F ≤ 1000000 → asm.all S.valid = true → Gd (S.start asm F).1 ∧ (S.start asm F).1.queue = [] ∧ (S.start asm F).2.length ≤ 1000000 ∧ Sr b M (S.start asm F).2 ({ (S.start asm F).1 with first := 1 } : Sv).begin' 0 0 ∧ ∃ n r, Sv.srch (S.start asm F).2 n ({ (S.start asm F).1 with first := 1 } : Sv).begin' 0 0 = some r ∧ Gd r.1 ∧ r.1.vars = S.vars ∧ r.1.left ≤ F ∧ r.1.first ≤ 1000000000 ∧ r.1.used ≤ 1000000000000 ∧
      ∀ I' σ', Sol I' (r.1.finish F) σ' → Stp Any I S σ I' σ' → R (.tup [di r.2, di 0]) σ') : AC Try.prog G 13 [.ref (I .st) 0, .d (isD asm), di fuel] σ R := by
  have hv := g.sh.vars
  refine ac_enterN mixed (tx := ⟨false, [1, 3, 4, 6, 12], true⟩) Try.func13 rfl Try.ntmps13 (by simp only [go_sem]) rfl rfl fun hbd => ?_
  simp only [List.length_cons, List.length_nil, Nat.reduceAdd, Nat.reduceSub, List.replicate_succ, List.replicate_zero, List.cons_append, List.nil_append]
  refine awD_pre rfl ?_
  simp only [go_sem]
  refine ⟨hS.live .st, ?_⟩
  have b0 : (σ ++ [some (Ob.cells [A.ref (I Sl.st) 0]), some (Ob.cells [di fuel])])[σ.length]? = some (some (.cells [.ref (I .st) 0])) := by rw [List.getElem?_append_right (Nat.le_refl _), Nat.sub_self]; rfl
  have b1 : (σ ++ [some (Ob.cells [A.ref (I Sl.st) 0]), some (Ob.cells [di fuel])])[σ.length + 1]? = some (some (.cells [di fuel])) := by rw [List.getElem?_append_right (by omega), Nat.add_sub_cancel_left]; rfl
  have hS0 := hS.app [some (Ob.cells [A.ref (I Sl.st) 0]), some (Ob.cells [di fuel])]
  have hT0 : Stp Any I S σ I (σ ++ [some (Ob.cells [A.ref (I Sl.st) 0]), some (Ob.cells [di fuel])]) := ⟨by simp, rfl, fun _ => .inl rfl, fun id hid _ => List.getElem?_append_left hid⟩
  have hlt := fun s hs => hS.lt s hs
  generalize (σ ++ [some (Ob.cells [A.ref (I Sl.st) 0]), some (Ob.cells [di fuel])] : St) = st at b0 b1 hS0 hT0
  refine awD_pre rfl ?_
  simp only [go_sem, live_of b0, objK_of b0]
  refine ⟨hS0.live .st, awD_pre rfl ?_⟩
  have l1 : ∀ x, liveId (st.set (I .st) (some x)) (I .st) = true := fun x => live_of (set_same (hS0.get .st trivial))
  have l2 : ∀ cs k, objK (st.set (I .st) (some (.cells cs))) (I .st) k = k cs := fun cs k => objK_of (set_same (hS0.get .st trivial))
  have l3 : ∀ x, liveId (st.set (I .st) x) σ.length = true := fun x => live_of (by rw [set_other (by have := hlt .st trivial; omega)]; exact b0)
  have l4 : ∀ x k, objK (st.set (I .st) x) σ.length k = k [.ref (I .st) 0] := fun x k => objK_of (by rw [set_other (by have := hlt .st trivial; omega)]; exact b0)
  refine aw_plan (.take 0 <| .tk 2 4 <| .alt 1 (.alt 2 (.alt 3 (.tk 10 6 <| .done) <| .alt 6 (.tk 2 7 <| .alt 3 (.tk 7 9 <| .done) <| .alt 9 (.tk 2 10 <| .alt 3 (.tk 4 12 <| .done) <| .alt 12 (.take 3 <| .tk 3 13 <| .done) <| .stop) <| .stop) <| .stop) <| .alt 3 (.alt 2 (.tk 10 6 <| .done) <| .alt 6 (.tk 2 7 <| .alt 2 (.tk 7 9 <| .done) <| .alt 9 (.take 2 <| .tk 6 10 <| .done) <| .stop) <| .stop) <| .alt 6 (.tk 2 7 <| .alt 2 (.alt 3 (.tk 7 9 <| .done) <| .alt 9 (.tk 2 10 <| .alt 3 (.tk 4 12 <| .done) <| .alt 12 (.take 3 <| .tk 3 13 <| .done) <| .stop) <| .stop) <| .alt 3 (.alt 2 (.tk 7 9 <| .done) <| .alt 9 (.take 2 <| .tk 6 10 <| .done) <| .stop) <| .alt 9 (.take 2 <| .tk 2 10 <| .alt 3 (.tk 4 12 <| .done) <| .alt 12 (.take 3 <| .tk 3 13 <| .done) <| .stop) <| .stop) <| .stop) <| .alt 2 (.alt 1 (.alt 3 (.tk 10 6 <| .done) <| .alt 6 (.tk 2 7 <| .alt 3 (.tk 7 9 <| .done) <| .alt 9 (.tk 2 10 <| .alt 3 (.tk 4 12 <| .done) <| .alt 12 (.take 3 <| .tk 3 13 <| .done) <| .stop) <| .stop) <| .stop) <| .alt 3 (.alt 1 (.tk 10 6 <| .done) <| .alt 6 (.take 1 <| .tk 9 7 <| .done) <| .stop) <| .alt 6 (.take 1 <| .tk 2 7 <| .alt 3 (.tk 7 9 <| .done) <| .alt 9 (.tk 2 10 <| .alt 3 (.tk 4 12 <| .done) <| .alt 12 (.take 3 <| .tk 3 13 <| .done) <| .stop) <| .stop) <| .stop) <| .alt 3 (.alt 1 (.alt 2 (.tk 10 6 <| .done) <| .alt 6 (.tk 2 7 <| .alt 2 (.tk 7 9 <| .done) <| .alt 9 (.take 2 <| .tk 6 10 <| .done) <| .stop) <| .stop) <| .alt 2 (.alt 1 (.tk 10 6 <| .done) <| .alt 6 (.take 1 <| .tk 9 7 <| .done) <| .stop) <| .alt 6 (.take 1 <| .tk 2 7 <| .alt 2 (.tk 7 9 <| .done) <| .alt 9 (.take 2 <| .tk 6 10 <| .done) <| .stop) <| .stop) <| .alt 6 (.take 1 <| .tk 2 7 <| .alt 2 (.alt 3 (.tk 7 9 <| .done) <| .alt 9 (.tk 2 10 <| .alt 3 (.tk 4 12 <| .done) <| .alt 12 (.take 3 <| .tk 3 13 <| .done) <| .stop) <| .stop) <| .alt 3 (.alt 2 (.tk 7 9 <| .done) <| .alt 9 (.take 2 <| .tk 6 10 <| .done) <| .stop) <| .alt 9 (.take 2 <| .tk 2 10 <| .alt 3 (.tk 4 12 <| .done) <| .alt 12 (.take 3 <| .tk 3 13 <| .done) <| .stop) <| .stop) <| .stop) (by kernel_rfl) ?_
  simp (config := { maxSteps := 100000000 }) only [go_sem, live_of b0, objK_of b0, hS0.live .st, hS0.ob .st, l1, l2, l3, l4, List.set_set, ct]
  have hS1 : Sol I S.reset (st.set (I .st) (some (.cells (ct I S.reset .st)))) := hS0.put .st trivial (fun t => by cases t <;> exact Iff.rfl) (by rfl) (fun t ht => by cases t <;> first | rfl | exact absurd rfl ht)
  have hT1 : Stp Any I S σ I (st.set (I .st) (some (.cells (ct I S.reset .st)))) := hT0.trans (fun _ => Iff.rfl) (stp_put _ .st trivial)
  have b0' : (st.set (I .st) (some (.cells (ct I S.reset .st))))[σ.length]? = some (some (.cells [.ref (I .st) 0])) := by rw [set_other (by have := hlt .st trivial; omega)]; exact b0
  have b1' : (st.set (I .st) (some (.cells (ct I S.reset .st))))[σ.length + 1]? = some (some (.cells [di fuel])) := by rw [set_other (by have := hlt .st trivial; omega)]; exact b1
  have hce : ct I S.reset .st = [A.rs (I .steps) 2 0 S.steps.length (some 41), dn S.used, dn S.vars, A.rs (I .added) 3 0 S.added.length (some 79), A.rs (I .learned) 3 0 S.learned.length (some 79), A.rs (I .occ) 1 0 S.occ.length (some 28), A.rs (I .last) 1 0 S.last.length (some 3), dn S.stamp,
      A.rs (I .truth) 1 0 S.truth.length (some 4), A.rs (I .trail) 1 0 S.trail.length (some 3), A.rs (I .reasons) 1 0 S.reasons.length (some 3), A.rs (I .levels) 1 0 S.levels.length (some 3), A.rs (I .starts) 1 0 S.starts.length (some 3), A.rs (I .marked) 1 0 S.marked.length (some 4), A.rs (I .queue) 1 0 S.queue.length (some 3), dn S.left, dn S.first, A.d .nils, A.d .nils, A.d (.bool false), A.d (.bool false)] := rfl
  rw [← hce]
  generalize (st.set (I .st) (some (.cells (ct I S.reset .st))) : St) = st1 at hS1 hT1 b0' b1'
  clear l1 l2 l3 l4 hS0 hT0 b0 b1 hce st
  have g1 : Gd S.reset := ⟨⟨g.sh.vars, g.sh.occ, g.sh.last, g.sh.truth, g.sh.reasons, g.sh.levels, g.sh.marked⟩, g.v1, g.na, g.nl, g.lits, g.ll, g.nd, g.ok, g.mem, g.low, g.hc, g.oc, g.tv, g.tn, g.tt, g.la, g.um, g.qu⟩
  refine awD_pre rfl ?_
  by_cases he : fuel < 0 ∨ 1000000 < fuel
  · have h1 := h1 he I st1 hS1 hT1
    by_cases he1 : fuel < 0
    · have d1 : decide (fuel < 0) = true := decide_eq_true he1
      simp only [go_sem, live_of b1', objK_of b1', d1, Try.results13]
      exact ⟨_, _, Weak.refl _ _ _ _, h1⟩
    · have d1 : decide (fuel < 0) = false := decide_eq_false he1
      have d2 : decide (1000000 < fuel) = true := decide_eq_true (by omega)
      simp only [go_sem, live_of b1', objK_of b1', d1, d2, Try.results13]
      exact ⟨_, _, Weak.refl _ _ _ _, h1⟩
  obtain ⟨F, rfl⟩ : ∃ F : Nat, fuel = F := ⟨fuel.toNat, by omega⟩
  have d1 : decide ((F : Int) < 0) = false := decide_eq_false (by omega)
  have d2 : decide ((1000000 : Int) < (F : Int)) = false := decide_eq_false (by omega)
  simp only [go_sem, live_of b1', objK_of b1', d1, d2]
  refine awD_pre rfl ?_
  unfold isD
  simp only [go_sem, List.length_map]
  refine aw_loop (fun m fr s => ∃ j : Nat, j ≤ asm.length ∧ m = asm.length - j ∧ (asm.take j).all S.valid = true ∧ fr = [.ref (I .st) 0, .d (isD asm), dn F, .ref σ.length 0, .any, .ref (σ.length + 1) 0, .any, .any, .any, .any, .any, .any, .any, .any, .any, .any, .any, .any, .any, .any, .any, .any, .any, .any, .any, .any, .any, .any, .any, .any, .d (isD asm), dn asm.length, dn j, .any, .any, .any, .any, .any, .any, .any, .any, .any, .any, .any, .any, .any, .any, .any, .any, .any, .any] ∧ s = st1) asm.length _
    (Wk.mask [0, 1, 2, 3, 5, 30, 31, 32] ⟨0, by omega, by omega, rfl, rfl, rfl⟩) ?_
  rintro m fr s ⟨j, hj, hm, hal', rfl, rfl⟩
  rcases Nat.lt_or_ge j asm.length with hlt' | hge
  · have hd : decide ((j : Int) < (asm.length : Int)) = true := by simp; omega
    have w2 := wrapS j (by omega)
    have g0 : List.getD (asm.map iD) j default = iD (asm.getD j 0) := getD_mapD hlt'
    unfold isD
    simp only [go_sem, List.length_map, hd, g0, w2, live_of b0', objK_of b0', Try.results13]
    refine ⟨⟨by omega, by omega⟩, ac' (valid_ac hS1 g1.sh.vars _ _ _ ?_)⟩
    have hvr : S.reset.valid (asm.getD j 0) = S.valid (asm.getD j 0) := rfl
    rw [hvr]
    cases hvv : S.valid (asm.getD j 0) with
    | true =>
      simp only [go_sem, w2, Try.results13]
      exact Wk.mask [0, 1, 2, 3, 5, 30, 31, 32] ⟨asm.length - (j + 1), by omega, j + 1, by omega, rfl, by rw [take_getD 0 hlt', List.all_append, hal', List.all_cons, hvv]; rfl, rfl, rfl⟩
    | false =>
      simp only [go_sem, w2, Try.results13]
      refine ⟨_, _, Weak.refl _ _ _ _, h2 ?_ I _ hS1 hT1⟩
      rw [Bool.eq_false_iff]
      intro e
      rw [List.all_eq_true] at e
      have := e _ (getD_mem 0 hlt')
      rw [hvv] at this; cases this
  have hd : decide ((j : Int) < (asm.length : Int)) = false := by simp; omega
  rw [List.take_of_length_le hge] at hal'
  simp only [go_sem, hd]
  refine awD_pre rfl ?_
  have hcl : ∀ k, objK s (I .st) k = k (ct I S.reset .st) := fun k => hS1.ob .st
  simp only [go_sem, live_of b0', objK_of b0', live_of b1', objK_of b1', hS1.live .st, hcl, ct]
  obtain ⟨g3, hq3, hl3, hsr, n, r, hr, g4, hv4, hle4, hf4, hu4, hfin⟩ := h3 F rfl (by omega) hal'
  have hS2 : Sol I { S.reset with left := F } (s.set (I .st) (some (.cells (ct I { S.reset with left := F } .st)))) := hS1.put .st trivial (fun t => by cases t <;> exact Iff.rfl) (by rfl) (fun t ht => by cases t <;> first | rfl | exact absurd rfl ht)
  have hT2 : Stp Any I S σ I (s.set (I .st) (some (.cells (ct I { S.reset with left := F } .st)))) := hT1.trans (fun t => by cases t <;> exact Iff.rfl) (stp_put (S := S.reset) _ .st trivial)
  have b0 : (s.set (I .st) (some (.cells (ct I { S.reset with left := F } .st))))[σ.length]? = some (some (.cells [.ref (I .st) 0])) := by rw [set_other (by have := hlt .st trivial; omega)]; exact b0'
  have b1 : (s.set (I .st) (some (.cells (ct I { S.reset with left := F } .st))))[σ.length + 1]? = some (some (.cells [dn F])) := by rw [set_other (by have := hlt .st trivial; omega)]; exact b1'
  have hce : ct I { S.reset with left := F } .st = [A.rs (I .steps) 2 0 S.reset.steps.length (some 41), dn S.reset.used, dn S.reset.vars, A.rs (I .added) 3 0 S.reset.added.length (some 79), A.rs (I .learned) 3 0 S.reset.learned.length (some 79), A.rs (I .occ) 1 0 S.reset.occ.length (some 28), A.rs (I .last) 1 0 S.reset.last.length (some 3), dn S.reset.stamp,
      A.rs (I .truth) 1 0 S.reset.truth.length (some 4), A.rs (I .trail) 1 0 S.reset.trail.length (some 3), A.rs (I .reasons) 1 0 S.reset.reasons.length (some 3), A.rs (I .levels) 1 0 S.reset.levels.length (some 3), A.rs (I .starts) 1 0 S.reset.starts.length (some 3), A.rs (I .marked) 1 0 S.reset.marked.length (some 4), A.rs (I .queue) 1 0 S.reset.queue.length (some 3), dn F, dn S.reset.first, valA S.reset, coreA S.reset, db S.reset.refuted, db S.reset.satisfied] := rfl
  rw [← hce]
  have hlt2 : ∀ x, has S x → I x < σ.length := fun x hx => hS.lt x hx
  generalize (s.set (I .st) (some (.cells (ct I { S.reset with left := F } .st))) : St) = st2 at hS2 hT2 b0 b1
  clear hS1 hT1 b0' b1' hce hcl
  have hst : S.start asm F = ({ S.reset with left := F } : Sv).different asm := rfl
  rw [hst] at g3 hq3 hl3 hsr hr
  have hh : ∀ s, has S s ↔ has ({ S.reset with left := F } : Sv) s := fun s => by cases s <;> exact Iff.rfl
  have g2 : Gd ({ S.reset with left := F } : Sv) := ⟨⟨g.sh.vars, g.sh.occ, g.sh.last, g.sh.truth, g.sh.reasons, g.sh.levels, g.sh.marked⟩, g.v1, g.na, g.nl, g.lits, g.ll, g.nd, g.ok, g.mem, g.low, g.hc, g.oc, g.tv, g.tn, g.tt, g.la, g.um, g.qu⟩
  have hv2 : ∀ l ∈ asm, LitV ({ S.reset with left := F } : Sv).vars l := fun l hl => valid_lit.1 (List.all_eq_true.1 hal' l hl)
  have hso : ({ S.reset with left := F } : Sv).stamp ≤ 1000000000000 := by show S.stamp ≤ _; omega
  generalize ({ S.reset with left := F } : Sv) = S2 at hS2 g3 hq3 hl3 hsr hr hh g2 hv2 hso
  have hdif := different_ac hS2 g2.sh asm hv2 (by omega) hso
  refine awD_at rfl ?_
  simp only [go_sem]
  refine aw_plan (.tk 2 1 <| .alt 0 (.tk 4 3 <| .done) <| .alt 3 (.take 0 <| .tk 3 4 <| .done) <| .stop) (by kernel_rfl) ?_
  simp only [go_sem, live_of b0, objK_of b0]
  have hh4 : ∀ s, has S s ↔ has r.1 s := SameOcc.has (by unfold SameOcc; rw [g4.sh.occ, g.sh.occ, hv4])
  have hl1 := lt_of_some b1
  have key : ∀ I' σ' fr, fr.getD 6 .any = di r.2 → fr.getD 7 .any = di 0 → Sol I' r.1 σ' → Stp Any I S2 st2 I' σ' → AD Try.prog ⟨G.g, fun _ _ => False⟩ 37 [.ref σ.length 0, .ref (σ.length + 1) 0] none σ' fun σ2 => RetOK Try.prog G σ.length Try.f13 R fr σ2 := fun I' σ' fr q6 q7 k1 k2 => by
    have e3 : I' .st = I .st := k2.st
    have hid : ∀ x, has S x → I' x ≠ σ.length ∧ I' x ≠ σ.length + 1 := fun x hx => by
      have := hlt2 x hx
      rcases k2.ids x with e | e <;> omega
    have hne : ∀ (q : Nat), σ.length ≤ q → q < st2.length → ∀ x, has S2 x → q ≠ I x := fun q h1 h2 x hx e => by
      have := hlt2 x ((hh x).2 hx)
      omega
    refine end_ad k1 g4 σ.length (σ.length + 1) F (by omega) hle4 hu4 hf4 ?_ ?_ (fun x hx => (hid x ((hh4 x).2 hx)).1) (fun x hx => (hid x ((hh4 x).2 hx)).2) _ _ fun I2 σ2 m1 m2 => ?_
    · rw [k2.keep _ (by omega) (hne _ (Nat.le_refl _) (by omega)), e3]; exact b0
    · rw [k2.keep _ (by omega) (hne _ (by omega) (by omega))]; exact b1
    · have := hfin I2 σ2 m1 ((hT2.trans hh k2).trans hh4 m2)
      unfold RetOK
      simp only [go_sem, Try.results13, q6, q7]
      exact ⟨_, _, Weak.refl _ _ _ _, this⟩
  have hgd := g3
  refine ⟨?_, ?_⟩ <;>
  · refine ac' (hdif _ _ fun σ3 k1 k2 => ?_)
    have c0 : σ3[σ.length]? = some (some (.cells [.ref (I .st) 0])) := by
      rw [k2.keep _ (by omega) fun x hx e => (by have := hlt2 x ((hh x).2 hx); omega)]; exact b0
    simp only [go_sem, live_of c0, objK_of c0, Try.results13]
    refine ac' (search_ac k1 g3 hq3 b M hb hM _ hl3 hsr n r hr _ _ fun I4 σ4 k3 k4 => ?_)
    simp only [go_sem, Try.results13]
    exact key _ _ _ rfl rfl k3 (k2.trans (SameOcc.has (diff_occ S2 asm)) k4)
end Go.Proofs.Ytnanofipjiclfaa
end PartT25

section PartT22
/- Proof. -/
set_option linter.unusedSimpArgs false
set_option linter.unusedVariables false
set_option maxRecDepth 100000
namespace Go.Proofs.Ytnanofipjiclfaa
open Go Go.Ab
variable {I : Sl → Nat} {S : Sv} {σ : St}

def shiftH (n id : Nat) : Nat := if 40000 ≤ id then n + id - 40000 else id
def lnD (s : List Int × List Nat) : D := .agg [isD s.1, nsD s.2]
def proofM (S : Sv) : List (List Int × List Nat) := S.steps.map fun s => (s.1, s.2.map (shiftH S.added.length))
def prfD (l : List (List Int × List Nat)) : D := .sl 2 (l.map lnD)
theorem flat_lns (l : List (List Int × List Nat)) : flat (l.map lnD) = stepsA l := by
  induction l with
  | nil => rfl
  | cons x l ih => simp only [List.map_cons, flat_cons, ih]; rfl
theorem lies_lns (l : List (List Int × List Nat)) : Lies (stepsA l) 2 0 (l.map lnD) := by
  rw [← flat_lns]
  refine lies_of fun x hx => ?_
  obtain ⟨d, -, rfl⟩ := List.mem_map.1 hx
  refine ⟨rfl, fun y hy => ?_⟩
  simp only [lnD, D.cells, List.mem_cons, List.not_mem_nil, or_false] at hy
  rcases hy with rfl | rfl <;> rfl
theorem stepsA_cells {l : List (List Int × List Nat)} {j : Nat} (h : j < l.length) : ((stepsA l).drop (j * 2)).take 2 = [.d (isD (l.getD j ([], [])).1), .d (nsD (l.getD j ([], [])).2)] := by
  have hl : (stepsA (l.take j)).length = j * 2 := by rw [stepsA_len, List.length_take, Nat.min_eq_left (Nat.le_of_lt h)]
  rw [stepsA_split h, List.drop_append, hl, Nat.sub_self, List.drop_of_length_le (by omega), List.nil_append, List.drop_zero]
  rfl
theorem frz_steps (id sz off : Nat) (xs : List D) (l : List (List Int × List Nat)) (r : List A) : frzL id sz off xs (stepsA l ++ r) = stepsA l ++ frzL id sz off xs r := by
  induction l with
  | nil => rfl
  | cons x l ih => simp only [stepsA, List.flatMap_cons, stepA', List.cons_append, List.nil_append, frzL, A.frz] at ih ⊢; rw [ih]
theorem ren_steps (n0 : Nat) (p : List Nat) (l : List (List Int × List Nat)) (r : List A) : renL n0 p (stepsA l ++ r) = stepsA l ++ renL n0 p r := by
  induction l with
  | nil => rfl
  | cons x l ih => simp only [stepsA, List.flatMap_cons, stepA', List.cons_append, List.nil_append, renL, A.ren] at ih ⊢; rw [ih]
set_option maxHeartbeats 8000000 in
theorem proof_ac (hS : Sol I S σ) (hst : S.steps.length ≤ 20000) (ha : S.added.length ≤ 40000) (hl : ∀ s ∈ S.steps, s.1.length ≤ 1000000 ∧ s.2.length ≤ 1000000 ∧ ∀ id ∈ s.2, id < 1000000)
    (G : Glob) (R : A → St → Prop) (h : R (.d (prfD (proofM S))) σ) : AC Try.prog G 14 [.ref (I .st) 0] σ R := by
  refine ac_enterC [4] mixed Try.func14 rfl Try.ntmps14 (by simp only [go_sem]) fun hbd => ?_
  simp only [List.length_cons, List.length_nil, Nat.reduceAdd, Nat.reduceSub, List.replicate_succ, List.replicate_zero, List.cons_append, List.nil_append]
  simp only [go_sem, hS.live .st, Try.results14]
  refine aw_cut (fun fr st => fr = [.ref (I .st) 0, .any, .any, .rs σ.length 2 0 0 (some 41), .any, .any, .any, .any, .any, .any, .any, .any, .any, .any, .any, .any, .any, .any, .any, .any, .any, .any, .any, .any, .any, .any, .any, .any, .any, .any, .any, .any, .any, .any, .any, .any, .any, .any, .any, .any, .any, .any, .any, .any, .any, .any, .any, .any, .any, .any, .any, .any, .any, .any, .any, .any, .any, .any, .any, .any, .any, .any] ∧ st = σ ++ [some (.cells [])]) ?_ ?_
  · simp only [go_sem, Try.results14]
    exact Wk.via (Weak.empty 3 2 (some 41) rfl) (Wk.mask [0, 3] ⟨rfl, rfl⟩)
  rintro fr st ⟨rfl, rfl⟩
  have hA : ∀ l, Sol I S (σ ++ l) := fun l => hS.app l
  simp only [go_sem, (hA _).live .st, (hA _).ob .st, (hA _).live .steps, ct, Try.results14]
  refine aw_loop (fun m fr st => ∃ j : Nat, j ≤ S.steps.length ∧ m = S.steps.length - j ∧ fr = [.ref (I .st) 0, .any, .any, .rs σ.length 2 0 j (some 41), .any, .any, .any, .any, .any, .any, .any, .any, .any, .any, .any, .rs (I .steps) 2 0 S.steps.length (some 41), dn S.steps.length, dn j, .any, .any, .any, .any, .any, .any, .any, .any, .any, .any, .any, .any, .any, .any, .any, .any, .any, .any, .any, .any, .any, .any, .any, .any, .any, .any, .any, .any, .any, .any, .any, .any, .any, .any, .any, .any, .any, .any, .any, .any, .any, .any, .any, .any] ∧ st = σ ++ [some (.cells (stepsA ((proofM S).take j)))]) S.steps.length _
    (Wk.mask [0, 3, 15, 16, 17] ⟨0, by omega, by omega, rfl, rfl⟩) ?_
  rintro m fr st ⟨j, hj, hm, rfl, rfl⟩
  have hpl : (proofM S).length = S.steps.length := by unfold proofM; simp
  rcases Nat.lt_or_ge j S.steps.length with hlt | hge
  · have hd : decide ((j : Int) < (S.steps.length : Int)) = true := by simp; omega
    have w2 := wrapS j (by omega)
    have gc := stepsA_cells hlt
    obtain ⟨hl1, hl2, hl3⟩ := hl _ (getD_mem ([], []) hlt)
    have hnx : (proofM S).take (j + 1) = (proofM S).take j ++ [((S.steps.getD j ([], [])).1, (S.steps.getD j ([], [])).2.map (shiftH S.added.length))] := by
      rw [take_getD ([], []) (by omega)]
      unfold proofM
      rw [List.getD_eq_getElem?_getD, List.getElem?_map, List.getD_eq_getElem?_getD, List.getElem?_eq_getElem hlt]; rfl
    have hsl := stepsA_len ((proofM S).take j)
    rw [List.length_take, hpl, Nat.min_eq_left hj] at hsl
    have hsl2 := stepsA_len S.steps
    have hfp := fun id sz off xs r => frz_steps id sz off xs ((proofM S).take j) r
    have hrp := fun n0 p r => ren_steps n0 p ((proofM S).take j) r
    have hsn : stepsA ((proofM S).take (j + 1)) = stepsA ((proofM S).take j) ++ [.d (isD (S.steps.getD j ([], [])).1), .d (nsD ((S.steps.getD j ([], [])).2.map (shiftH S.added.length)))] := by rw [hnx, stepsA_snoc]
    generalize stepsA ((proofM S).take j) = pre at hsl hfp hrp hsn ⊢
    generalize S.steps.getD j ([], []) = s at gc hl1 hl2 hl3 hsn
    obtain ⟨ls, hs⟩ := s
    simp only at gc hl1 hl2 hl3 hsn
    unfold isD nsD at gc
    simp only [go_sem, hd, (hA _).live .st, (hA _).ob .st, (hA _).live .steps, (hA _).ob .steps, ct, gc, hsl2, w2, List.length_map, Try.results14]
    rw [reps0]
    refine ⟨⟨by omega, by omega⟩, by omega, by omega, ?_⟩
    have e0 : intsA (List.replicate hs.length 0) = natsA (List.replicate hs.length 0) := by simp [intsA, natsA]
    rw [e0]
    refine aw_loop (fun q fr st => ∃ (k : Nat) (v : List Nat), k ≤ hs.length ∧ q = hs.length - k ∧ v.length = hs.length ∧ v.take k = (hs.map (shiftH S.added.length)).take k ∧ fr = [.ref (I .st) 0, .any, .any, .rs σ.length 2 0 j (some 41), .any, .ref (σ.length + 1) 0, .rs (σ.length + 2) 1 0 hs.length (some 3), .any, .any, .any, .any, .any, .any, .any, .any, .rs (I .steps) 2 0 S.steps.length (some 41), dn S.steps.length, dn j, .any, .any, .any, .any, .any, .any, .any, .any, .d (nsD hs), dn hs.length, dn k, .any, .any, .any, .any, .any, .any, .any, .any, .any, .any, .any, .any, .any, .any, .any, .any, .any, .any, .any, .any, .any, .any, .any, .any, .any, .any, .any, .any, .any, .any, .any, .any, .any]
        ∧ st = σ ++ [some (.cells pre), some (.cells [.d (isD ls), .d (nsD hs)]), some (.cells (natsA v))]) hs.length _
      (Wk.mask [0, 3, 5, 6, 15, 16, 17, 26, 27, 28] ⟨0, List.replicate hs.length 0, by omega, by omega, by simp, rfl, rfl, rfl⟩) ?_
    rintro q fr st ⟨k, v, hk, hq, hvl, htk, rfl, rfl⟩
    have hml : (hs.map (shiftH S.added.length)).length = hs.length := by simp
    rcases Nat.lt_or_ge k hs.length with hkl | hkg
    · have hd2 : decide ((k : Int) < (hs.length : Int)) = true := by simp; omega
      have w4 := wrapS k (by omega)
      have g0 : List.getD (hs.map fun n : Nat => iD n) k default = iD (hs.getD k 0 : Int) := getD_mapD (f := fun n : Nat => iD n) hkl
      have hid := hl3 _ (getD_mem 0 hkl)
      have gm : (hs.map (shiftH S.added.length)).getD k 0 = shiftH S.added.length (hs.getD k 0) := by
        rw [List.getD_eq_getElem?_getD, List.getElem?_map, List.getD_eq_getElem?_getD, List.getElem?_eq_getElem hkl]; rfl
      generalize hs.getD k 0 = id at g0 hid gm
      have hkv : k < v.length := by omega
      have hkv2 : k < (v.set k id).length := by simpa using hkv
      have fin : ∀ x, x = shiftH S.added.length id → (v.set k x).take (k + 1) = (hs.map (shiftH S.added.length)).take (k + 1) := fun x hx => by
        rw [take_getD 0 (by simpa using hkv), take_getD 0 (by omega), List.take_set_of_le (Nat.le_refl k), htk, gm, getD_set hkv, if_pos rfl, hx]
      unfold nsD
      by_cases hc : 40000 ≤ id
      · have d3 : decide ((40000 : Int) ≤ (id : Int)) = true := decide_eq_true (by omega)
        have w5 : IntKind.i64.wrap ((S.added.length : Int) + (id : Int)) = (S.added.length : Int) + (id : Int) := wrap64_id _ (by omega) (by omega)
        have w6 : IntKind.i64.wrap ((S.added.length : Int) + (id : Int) - 40000) = ((S.added.length + id - 40000 : Nat) : Int) := by rw [wrap64_id _ (by omega) (by omega)]; omega
        simp only [go_sem, hd2, g0, d3, w4, w5, w6, natsA_len, natsA_set _ hkv, natsA_set _ hkv2, (hA _).live .st, (hA _).ob .st, (hA _).live .added, ct, List.length_map, List.set_set, Nat.mul_one, Try.results14]
        refine ⟨⟨by omega, by omega⟩, ⟨by omega, by omega⟩, by omega, ⟨by omega, by omega⟩, by omega, Wk.mask [0, 3, 5, 6, 15, 16, 17, 26, 27, 28] ⟨hs.length - (k + 1), by omega, k + 1, v.set k (S.added.length + id - 40000), by omega, rfl, by simpa using hvl, fin _ (by unfold shiftH; rw [if_pos hc]), rfl, rfl⟩⟩
      · have d3 : decide ((40000 : Int) ≤ (id : Int)) = false := decide_eq_false (by omega)
        simp only [go_sem, hd2, g0, d3, w4, natsA_len, natsA_set _ hkv, List.length_map, Nat.mul_one, Try.results14]
        refine ⟨⟨by omega, by omega⟩, ⟨by omega, by omega⟩, by omega, Wk.mask [0, 3, 5, 6, 15, 16, 17, 26, 27, 28] ⟨hs.length - (k + 1), by omega, k + 1, v.set k id, by omega, rfl, by simpa using hvl, fin _ (by unfold shiftH; rw [if_neg hc]), rfl, rfl⟩⟩
    · have hd2 : decide ((k : Int) < (hs.length : Int)) = false := by simp; omega
      have e : v = hs.map (shiftH S.added.length) := by
        rw [List.take_of_length_le (by omega), List.take_of_length_le (by omega)] at htk
        exact htk
      unfold isD nsD
      simp only [go_sem, hd2, w2, hsl, natsA_len, flat_ints, List.length_map, Nat.mul_one, Try.results14]
      refine ⟨⟨by simp only [maxLen]; omega, by omega⟩, ⟨by simp only [maxLen]; omega, by omega⟩, ?_⟩
      refine Wk.via (Weak.freezeIn (σ := σ) 4 6 1 0 (ls.map iD) rfl (lies_ints ls) rfl (by decide)) ?_
      refine Wk.via (Weak.freezeIn (σ := σ) 2 6 1 0 (v.map fun n : Nat => iD n) rfl (lies_nats v) rfl (by decide)) ?_
      have e6 : frzL (σ.length + 2) 1 0 (v.map fun n : Nat => iD n) (frzL (σ.length + 4) 1 0 (ls.map iD) (pre ++ [A.rs (σ.length + 4) 1 0 ls.length (some 3), A.rs (σ.length + 2) 1 0 hs.length (some 3)])) = stepsA ((proofM S).take (j + 1)) := by
        rw [hfp, hfp, hsn, ← e]
        simp [frzL, A.frz, isD, nsD, hvl]
      simp only [List.set_cons_succ, List.set_cons_zero, e6]
      refine Wk.keep [0, 3, 15, 16, 17] [6] (by decide) (Nat.le_refl _) hbd ⟨S.steps.length - (j + 1), by omega, j + 1, by omega, rfl, ?_, ?_⟩
      · have hI1 := hS.lt .st
        have hI2 := hS.lt .steps
        simp only [frzL, A.frz, go_sem, false_and, and_false, if_false]
        simp only [frzL, A.frz, newId_old hI1, newId_old hI2, go_sem, false_and, and_false, if_false]
      · have := ren_steps σ.length [6] ((proofM S).take (j + 1)) []
        simp only [List.append_nil, renL] at this
        simp only [go_sem, this]
  · have hd : decide ((j : Int) < (S.steps.length : Int)) = false := by simp; omega
    obtain rfl : j = S.steps.length := by omega
    rw [List.take_of_length_le (by omega)]
    simp only [go_sem, hd, Try.results14]
    refine ret_frz 0 2 0 ((proofM S).map lnD) rfl (lies_lns _) ?_
    have e : A.frz (σ.length + 0) 2 0 ((proofM S).map lnD) (A.rs σ.length 2 0 S.steps.length (some 41)) = .d (prfD (proofM S)) := by simp [A.frz, prfD, hpl]
    rw [e]
    exact ret_bd hbd rfl h
end Go.Proofs.Ytnanofipjiclfaa
end PartT22

section PartX1
/- The law package's small functions, the reference's tests of lists. -/
set_option linter.unusedSimpArgs false
set_option linter.unusedVariables false
set_option maxRecDepth 100000
namespace Go.Proofs.Ytnanofipjiclfaa
open Go Go.Ab
variable {I : Sl → Nat} {S : Sv} {σ : St}

def csD (C : List (List Int)) : D := .sl 1 (C.map isD)
/-- The reference's and the solver's test of a literal. -/
def litB (n l : Int) : Bool := !(l == 0 || decide (n < l) || decide (l < -n))
def validB (n : Int) (c : List Int) : Bool := c.all (litB n)
theorem all_step {α : Type} {p : α → Bool} {l : List α} {j : Nat} (d : α) (h : j < l.length) (hal : (l.take j).all p = true) : (l.take (j + 1)).all p = p (l.getD j d) := by
  rw [take_getD d h, List.all_append, hal, List.all_cons]
  simp
theorem all_stop {α : Type} {p : α → Bool} {l : List α} {j : Nat} (d : α) (h : j < l.length) (hp : p (l.getD j d) = false) : l.all p = false := by
  rw [Bool.eq_false_iff]
  intro e
  rw [List.all_eq_true] at e
  have := e _ (getD_mem d h)
  rw [hp] at this; cases this
theorem validR_ac (n : Int) (hn : 0 ≤ n ∧ n ≤ 1000000) (c : List Int) (hc : c.length ≤ 1000000000000000) (σ : St) (G : Glob) (R : A → St → Prop) (h : R (db (validB n c)) σ) : AC Try.prog G 20 [di n, .d (isD c)] σ R := by
  unfold isD
  refine ac_enter mixed Try.func20 rfl Try.ntmps20 (by simp only [go_sem]) fun hbd => ?_
  simp only [List.length_cons, List.length_nil, Nat.reduceAdd, Nat.reduceSub, List.replicate_succ, List.replicate_zero, List.cons_append, List.nil_append]
  simp only [go_sem, Try.results20]
  refine aw_loop (fun m fr st => ∃ j : Nat, j ≤ c.length ∧ m = c.length - j ∧ (c.take j).all (litB n) = true ∧ fr = [di n, .d (isD c), .any, .any, db false, dn j, .any, .any, .any, .any, .any, .any, .any, .any, .any, .any, .any, .any, .any, .any, .any, .any, .any, .any, .any, .any, .any, .any, .any, .any, .any, .any, .any, .any] ∧ st = σ) c.length _
    (Wk.mask [0, 1, 4, 5] ⟨0, by omega, by omega, rfl, rfl, rfl⟩) ?_
  rintro m fr st ⟨j, hj, hm, hal, rfl, rfl⟩
  have wn : IntKind.i64.wrap (0 - n) = -n := by rw [wrap64_id _ (by omega) (by omega)]; omega
  unfold isD
  rcases Nat.lt_or_ge j c.length with hlt | hge
  · have hd : decide ((j : Int) < (c.length : Int)) = true := by simp; omega
    have w2 := wrapS j (by omega)
    have g0 : List.getD (c.map iD) j default = iD (c.getD j 0) := getD_mapD hlt
    simp only [go_sem, List.length_map, hd, g0, w2, wn, Try.results20]
    refine ⟨⟨by omega, by omega⟩, fun e => ⟨by omega, by omega⟩, fun e => ⟨by omega, by omega⟩, fun e => ?_, fun e => ?_⟩
    · have hv : validB n c = false := all_stop 0 hlt (by unfold litB; rw [e]; rfl)
      rw [hv] at h
      exact ret_d0 h
    · exact Wk.mask [0, 1, 4, 5] ⟨c.length - (j + 1), by omega, j + 1, by omega, rfl, by rw [all_step 0 hlt hal]; unfold litB; rw [e]; rfl, rfl, rfl⟩
  · have hd : decide ((j : Int) < (c.length : Int)) = false := by simp; omega
    rw [List.take_of_length_le hge] at hal
    have hv : validB n c = true := hal
    rw [hv] at h
    simp only [go_sem, List.length_map, hd, Try.results20]
    exact ret_d0 h
theorem has_ac (c : List Int) (hc : c.length ≤ 1000000000000000) (x : Int) (σ : St) (G : Glob) (R : A → St → Prop) (h : R (db (c.contains x)) σ) : AC Try.prog G 18 [.d (isD c), di x] σ R := by
  unfold isD
  refine ac_enter mixed Try.func18 rfl Try.ntmps18 (by simp only [go_sem]) fun hbd => ?_
  simp only [List.length_cons, List.length_nil, Nat.reduceAdd, Nat.reduceSub, List.replicate_succ, List.replicate_zero, List.cons_append, List.nil_append]
  simp only [go_sem, Try.results18]
  refine aw_loop (fun m fr st => ∃ j : Nat, j ≤ c.length ∧ m = c.length - j ∧ (c.take j).all (fun y => !(y == x)) = true ∧ fr = [.d (isD c), di x, .any, .any, db false, dn j, .any, .any, .any, .any, .any, .any, .any, .any, .any, .any, .any, .any] ∧ st = σ) c.length _
    (Wk.mask [0, 1, 4, 5] ⟨0, by omega, by omega, rfl, rfl, rfl⟩) ?_
  rintro m fr st ⟨j, hj, hm, hal, rfl, rfl⟩
  unfold isD
  rcases Nat.lt_or_ge j c.length with hlt | hge
  · have hd : decide ((j : Int) < (c.length : Int)) = true := by simp; omega
    have w2 := wrapS j (by omega)
    have g0 : List.getD (c.map iD) j default = iD (c.getD j 0) := getD_mapD hlt
    simp only [go_sem, List.length_map, hd, g0, w2, Try.results18]
    refine ⟨⟨by omega, by omega⟩, fun e => ?_, fun e => ?_⟩
    · have hv : c.contains x = true := by
        rw [List.contains_iff_mem]
        rw [beq_iff_eq] at e
        rw [← e]
        exact getD_mem 0 hlt
      rw [hv] at h
      exact ret_d0 h
    · exact Wk.mask [0, 1, 4, 5] ⟨c.length - (j + 1), by omega, j + 1, by omega, rfl, by rw [all_step 0 hlt hal, e]; rfl, rfl, rfl⟩
  · have hd : decide ((j : Int) < (c.length : Int)) = false := by simp; omega
    rw [List.take_of_length_le hge] at hal
    have hv : c.contains x = false := by
      rw [Bool.eq_false_iff]
      intro e
      rw [List.contains_iff_mem] at e
      have := List.all_eq_true.1 hal x e
      simp at this
    rw [hv] at h
    simp only [go_sem, List.length_map, hd, Try.results18]
    exact ret_d0 h
theorem nodup_take {l : List Int} {j : Nat} (h : j < l.length) : (l.take (j + 1)).Nodup ↔ (l.take j).Nodup ∧ l.getD j 0 ∉ l.take j := by
  rw [take_getD 0 h, List.nodup_append]
  constructor
  · rintro ⟨h1, -, h3⟩
    exact ⟨h1, fun hm => h3 _ hm _ (by simp) rfl⟩
  · rintro ⟨h1, h2⟩
    refine ⟨h1, by simp, fun a ha b hb e => ?_⟩
    rw [List.mem_singleton] at hb
    subst hb; subst e
    exact h2 ha
theorem distinct_ac (c : List Int) (hc : c.length ≤ 1000000000) (σ : St) (G : Glob) (R : A → St → Prop) (h : R (db (decide c.Nodup)) σ) : AC Try.prog G 34 [.d (isD c)] σ R := by
  unfold isD
  refine ac_enter mixed Try.func34 rfl Try.ntmps34 (by simp only [go_sem]) fun hbd => ?_
  simp only [List.length_cons, List.length_nil, Nat.reduceAdd, Nat.reduceSub, List.replicate_succ, List.replicate_zero, List.cons_append, List.nil_append]
  simp only [go_sem, Try.results34]
  refine aw_loop (fun m fr st => ∃ j : Nat, j ≤ c.length ∧ m = c.length - j ∧ (c.take j).Nodup ∧ fr = [.d (isD c), .any, db false, dn j, .any, .any, .any, .any, .any, .any, .any, .any, .any, .any, .any, .any, .any, .any] ∧ st = σ) c.length _
    (Wk.mask [0, 2, 3] ⟨0, by omega, by omega, List.nodup_nil, rfl, rfl⟩) ?_
  rintro m fr st ⟨j, hj, hm, hal, rfl, rfl⟩
  unfold isD
  rcases Nat.lt_or_ge j c.length with hlt | hge
  · have hd : decide ((j : Int) < (c.length : Int)) = true := by simp; omega
    have w2 := wrapS j (by omega)
    have g0 : List.getD (c.map iD) j default = iD (c.getD j 0) := getD_mapD hlt
    have g1 : ((c.map iD).take (Int.toNat (j : Int))).drop (Int.toNat 0) = (c.take j).map iD := by rw [Int.toNat_natCast]; simp [List.map_take]
    simp only [go_sem, List.length_map, hd, g0, w2, g1, Try.results34]
    rw [← List.map_take]
    refine ⟨⟨by omega, by omega, by omega⟩, ⟨by omega, by omega⟩, ac' (has_ac (c.take j) (by simp; omega) _ _ _ _ ?_)⟩
    cases hb : (c.take j).contains (c.getD j 0) with
    | true =>
      have hv : decide c.Nodup = false := by
        rw [decide_eq_false_iff_not]
        intro hn
        have := (nodup_take hlt).1 ((List.take_sublist (j + 1) c).nodup hn)
        exact this.2 (List.contains_iff_mem.1 hb)
      rw [hv] at h
      simp only [go_sem, w2, Try.results34]
      exact ret_d0 h
    | false =>
      simp only [go_sem, w2, Try.results34]
      exact Wk.mask [0, 2, 3] ⟨c.length - (j + 1), by omega, j + 1, by omega, rfl, (nodup_take hlt).2 ⟨hal, fun hm => by rw [← List.contains_iff_mem, hb] at hm; cases hm⟩, rfl, rfl⟩
  · have hd : decide ((j : Int) < (c.length : Int)) = false := by simp; omega
    rw [List.take_of_length_le hge] at hal
    rw [decide_eq_true hal] at h
    simp only [go_sem, List.length_map, hd, Try.results34]
    exact ret_d0 h
/-- What is known of a log's sizes. -/
def Szs (S : Sv) : Prop := S.steps.length ≤ 20000 ∧ S.added.length ≤ 40000 ∧ ∀ s ∈ S.steps, s.1.length ≤ 1000000 ∧ s.2.length ≤ 1000000 ∧ ∀ id ∈ s.2, id < 1000000
end Go.Proofs.Ytnanofipjiclfaa
end PartX1

section PartQ14
/- Plain facts on the solver's model: more fuel changes nothing. -/
set_option linter.unusedSimpArgs false
set_option linter.unusedVariables false
namespace Go.Proofs.Ytnanofipjiclfaa
open Go Go.Ab

end Go.Proofs.Ytnanofipjiclfaa
end PartQ14

section PartQ15
/- Plain facts on the solver's model: more fuel changes nothing in a search that ends. -/
set_option linter.unusedSimpArgs false
set_option linter.unusedVariables false
namespace Go.Proofs.Ytnanofipjiclfaa
open Go Go.Ab

end Go.Proofs.Ytnanofipjiclfaa
end PartQ15

section PartQ16
/- Plain facts on the solver's model: what an assignment of all variables says. -/
set_option linter.unusedSimpArgs false
set_option linter.unusedVariables false
namespace Go.Proofs.Ytnanofipjiclfaa
open Go Go.Ab

/-- All is quiet and all is assigned: every clause has a true literal. -/
theorem sat_of_quiet {S : Sv} (g : Gd S) (hq : Quiet S S.trail) (hall : ∀ v, 1 ≤ v → v ≤ S.vars → ∃ l ∈ S.trail, vr l = v) (id : Nat) (ho : okId S id) : ∃ m ∈ (S.cl id).lits, m ∈ S.trail := by
  rcases hq id ho with h | ⟨m1, h1, m2, h2, hne, n1, n2⟩
  · exact h
  · have hv := g.lits id ho m1 h1
    have hv' := hv
    unfold LitV at hv'
    obtain ⟨l, hl, e⟩ := hall (vr m1) (by unfold vr; omega) (by unfold vr; omega)
    rcases vr_code (g.tv l hl).1 hv.1 e with rfl | rfl
    · exact ⟨l, h1, hl⟩
    · exact absurd hl n1
/-- The values that are kept are those of the trail. -/
theorem keep_vals {S : Sv} (g : Gd S) (hall : ∀ v, 1 ≤ v → v ≤ S.vars → ∃ l ∈ S.trail, vr l = v) {l : Int} (hl : LitV S.vars l) : (S.keep.values.getD (vr l - 1) false = decide (0 < l)) ↔ l ∈ S.trail := by
  have hl2 := hl
  unfold LitV at hl2
  have hk : vr l - 1 < S.vars := by unfold vr; omega
  have e : S.keep.values.getD (vr l - 1) false = S.truth.getD (2 * (vr l - 1 + 1)) false := by
    unfold Sv.keep
    simp only
    rw [List.getD_eq_getElem?_getD, List.getElem?_map, List.getElem?_range hk]
    rfl
  rw [e]
  have e1 : vr l - 1 + 1 = vr l := by unfold vr; omega
  rw [e1]
  have hp : LitV S.vars (vr l : Int) := by unfold LitV vr; omega
  have hc : code (vr l : Int) = 2 * vr l := by unfold code; rw [if_neg (by omega)]; omega
  have ht := g.tt _ hp
  unfold Sv.tr at ht
  rw [hc] at ht
  by_cases hpos : 0 < l
  · have e2 : (vr l : Int) = l := by unfold vr; omega
    rw [decide_eq_true hpos, ht, e2]
  · have e2 : (vr l : Int) = -l := by unfold vr; omega
    rw [decide_eq_false hpos]
    rw [e2] at ht
    constructor
    · intro hf
      obtain ⟨x, hx, ex⟩ := hall (vr l) (by unfold vr; omega) (by unfold vr; omega)
      rcases vr_code (g.tv x hx).1 hl.1 ex with rfl | rfl
      · exact hx
      · have := ht.2 hx
        rw [hf] at this
        cases this
    · intro hm
      rw [Bool.eq_false_iff]
      intro h'
      exact g.not_both hm (ht.1 h')
end Go.Proofs.Ytnanofipjiclfaa
end PartQ16

section PartQ17
/- Plain facts on the solver's model: propagation ends. -/
set_option linter.unusedSimpArgs false
set_option linter.unusedVariables false
namespace Go.Proofs.Ytnanofipjiclfaa
open Go Go.Ab

theorem prop_ends : ∀ (n : Nat) {S : Sv}, Gd S → S.queue.length + 60001 * (S.vars - S.trail.length) < n → ∃ r, Sv.prop n S = some r
  | 0, S, _, h => by omega
  | n + 1, S, g, h => by
    unfold Sv.prop
    cases hq : S.queue with
    | nil => exact ⟨_, rfl⟩
    | cons a q =>
      have hne : S.queue ≠ [] := by rw [hq]; exact List.cons_ne_nil _ _
      simp only
      rw [← hq]
      obtain ⟨g1, ho⟩ := g.pop hne
      have hpl := hpop_len hne
      generalize (Sv.hpop S.queue).getLastD 0 = id at ho ⊢
      have ho1 : okId { S with queue := (Sv.hpop S.queue).dropLast } id := ho
      have f1 : ({ S with queue := (Sv.hpop S.queue).dropLast } : Sv).vars = S.vars ∧ ({ S with queue := (Sv.hpop S.queue).dropLast } : Sv).trail = S.trail ∧ ({ S with queue := (Sv.hpop S.queue).dropLast } : Sv).queue.length + 1 = S.queue.length := ⟨rfl, rfl, hpl⟩
      generalize ({ S with queue := (Sv.hpop S.queue).dropLast } : Sv) = S1 at g1 ho1 f1 ⊢
      obtain ⟨f1, f2, f3⟩ := f1
      have hnn := g1.held_nonneg ho1
      by_cases hh : 0 < (S1.cl id).held
      · rw [if_pos hh]
        exact prop_ends n g1 (by rw [f1, f2]; omega)
      rw [if_neg hh]
      by_cases h0 : (S1.cl id).opn = 0
      · rw [if_pos h0]; exact ⟨_, rfl⟩
      rw [if_neg h0]
      cases hfd : (S1.cl id).lits.find? (fun l => !S1.tr (-l)) with
      | none =>
        exfalso
        refine h0 ((g1.opn_zero ho1).2 fun l hl => ?_)
        have := List.find?_eq_none.1 hfd l hl
        simpa using this
      | some l =>
        have hlm := List.mem_of_find?_eq_some hfd
        have hlt := List.find?_some hfd
        have hlv := g1.lits id ho1 l hlm
        have hfree : Free S1 l := ⟨(g1.held_zero ho1).1 (by omega) l hlm, by simpa using hlt⟩
        simp only
        by_cases hl0 : S1.left = 0
        · have e : S1.assign l (id : Int) = (S1, false) := by unfold Sv.assign; rw [if_pos hl0]
          rw [e]
          exact ⟨_, rfl⟩
        · obtain ⟨e0, as1, -, -, -⟩ := assign_asg (reason := (id : Int)) g1 hlv hl0
          have g2 := g1.assign (reason := (id : Int)) hlv hfree hl0
          have hn := as1.nqueue
          have hol := g1.occLen (code (-l))
          have htl := g2.tlen
          rw [as1.vars, as1.trail, List.length_append, List.length_singleton] at htl
          have hv := as1.vars
          have ht := as1.trail
          generalize S1.assign l (id : Int) = p at e0 g2 hn hv ht ⊢
          obtain ⟨S2, b⟩ := p
          simp only at e0 g2 hn hv ht
          subst e0
          simp only
          refine prop_ends n g2 ?_
          rw [hv, ht, List.length_append, List.length_singleton, f1, f2]
          rw [f1, f2] at htl
          omega
end Go.Proofs.Ytnanofipjiclfaa
end PartQ17

section PartQ18
/- Plain facts on the solver's model: the check of a step under other numbers. -/
set_option linter.unusedSimpArgs false
set_option linter.unusedVariables false
namespace Go.Proofs.Ytnanofipjiclfaa
open Go Go.Ab

theorem rup_map {cls cls' : Nat → List Int} {f : Nat → Nat} : ∀ (hs : List Nat) (K : List Int), (∀ x ∈ hs, cls' (f x) = cls x) → rup cls K hs → rup cls' K (hs.map f)
  | [], _, _, h => h
  | [x], K, hf, h => by
    show ∀ m ∈ cls' (f x), -m ∈ K
    rw [hf x (by simp)]
    exact h
  | x :: y :: hs, K, hf, h => by
    obtain ⟨l, h1, h2, h3, h4, h5⟩ := h
    show ∃ l ∈ cls' (f x), l ∉ K ∧ -l ∉ K ∧ (∀ m ∈ cls' (f x), m = l ∨ -m ∈ K) ∧ rup cls' (K ++ [l]) ((y :: hs).map f)
    rw [hf x (by simp)]
    exact ⟨l, h1, h2, h3, h4, rup_map (y :: hs) (K ++ [l]) (fun z hz => hf z (List.mem_cons_of_mem _ hz)) h5⟩
end Go.Proofs.Ytnanofipjiclfaa
end PartQ18

section PartQ19
/- Plain facts on the solver's model: the weight of a trail. -/
set_option linter.unusedSimpArgs false
set_option linter.unusedVariables false
namespace Go.Proofs.Ytnanofipjiclfaa
open Go Go.Ab

/-- Letters (true: implied) as a binary number of b places. -/
def val : Nat → List Bool → Nat
  | 0, _ => 0
  | _ + 1, [] => 0
  | b + 1, x :: w => (if x then 2 ^ b else 0) + val b w
theorem val_nil (b : Nat) : val b [] = 0 := by cases b <;> rfl
theorem val_lt : ∀ (b : Nat) (w : List Bool), val b w < 2 ^ b
  | 0, _ => by simp [val]
  | b + 1, [] => by rw [val_nil]; exact Nat.two_pow_pos _
  | b + 1, x :: w => by
    have := val_lt b w
    have h2 : 2 ^ (b + 1) = 2 * 2 ^ b := by rw [Nat.pow_succ]; omega
    unfold val
    split <;> omega
theorem val_mono : ∀ (b : Nat) (w s : List Bool), val b w ≤ val b (w ++ s)
  | 0, _, _ => Nat.le_refl _
  | b + 1, [], s => by rw [val_nil]; exact Nat.zero_le _
  | b + 1, x :: w, s => by
    have := val_mono b w s
    show (if x then 2 ^ b else 0) + val b w ≤ (if x then 2 ^ b else 0) + val b (w ++ s)
    omega
/-- A decision that turns into an implied literal raises the weight. -/
theorem val_jump : ∀ (b : Nat) (p s : List Bool), p.length < b → val b (p ++ false :: s) < val b (p ++ [true])
  | 0, p, s, h => by omega
  | b + 1, [], s, h => by
    have := val_lt b s
    show (if false = true then 2 ^ b else 0) + val b s < (if true = true then 2 ^ b else 0) + val b []
    rw [val_nil, if_neg (by simp), if_pos rfl]
    omega
  | b + 1, x :: p, s, h => by
    have := val_jump b p s (by simpa using h)
    show (if x then 2 ^ b else 0) + val b (p ++ false :: s) < (if x then 2 ^ b else 0) + val b (p ++ [true])
    omega
/-- The letters of a trail: its literals of the first b variables; false at the places where levels start. -/
def wd (b : Nat) (starts : List Nat) : Nat → List Int → List Bool
  | _, [] => []
  | k, l :: t => (if vr l ≤ b then [!decide (k ∈ starts)] else []) ++ wd b starts (k + 1) t
theorem wd_append (b : Nat) (starts : List Nat) : ∀ (t u : List Int) (k : Nat), wd b starts k (t ++ u) = wd b starts k t ++ wd b starts (k + t.length) u
  | [], u, k => rfl
  | l :: t, u, k => by
    show _ ++ wd b starts (k + 1) (t ++ u) = (_ ++ wd b starts (k + 1) t) ++ _
    rw [wd_append b starts t u (k + 1), List.append_assoc]
    congr 3
    rw [List.length_cons]; omega
theorem wd_congr (b : Nat) {s s' : List Nat} : ∀ (t : List Int) (k : Nat), (∀ i, k ≤ i → i < k + t.length → (i ∈ s ↔ i ∈ s')) → wd b s k t = wd b s' k t
  | [], k, _ => rfl
  | l :: t, k, h => by
    show (if vr l ≤ b then [!decide (k ∈ s)] else []) ++ wd b s (k + 1) t = (if vr l ≤ b then [!decide (k ∈ s')] else []) ++ wd b s' (k + 1) t
    have e : (k ∈ s) = (k ∈ s') := propext (h k (Nat.le_refl _) (by rw [List.length_cons]; omega))
    simp only [e]
    rw [wd_congr b t (k + 1) fun i h1 h2 => h i (by omega) (by rw [List.length_cons]; omega)]
theorem wd_len (b : Nat) (s : List Nat) : ∀ (t : List Int) (k : Nat), (wd b s k t).length = (t.filter fun l => decide (vr l ≤ b)).length
  | [], _ => rfl
  | l :: t, k => by
    show (_ ++ wd b s (k + 1) t).length = _
    rw [List.length_append, wd_len b s t (k + 1), List.filter_cons]
    by_cases h : vr l ≤ b
    · simp [h]; omega
    · simp [h]
def word (b : Nat) (S : Sv) : List Bool := wd b S.starts 0 S.trail
theorem few_vars {b : Nat} {S : Sv} (g : Gd S) {ls : List Int} (hs : ls.Sublist S.trail) (hb : ∀ l ∈ ls, vr l ≤ b) : ls.length ≤ b := by
  have h1 := nodup_bound (n := b + 1) (l := 0 :: ls.map vr) (List.nodup_cons.2 ⟨fun hm => by
      obtain ⟨a, ha, e⟩ := List.mem_map.1 hm
      have va := g.tv a (hs.subset ha)
      unfold LitV at va
      unfold vr at e
      omega, (hs.map vr).nodup g.tn⟩) fun x hx => by
    rcases List.mem_cons.1 hx with rfl | hx
    · omega
    · obtain ⟨a, ha, rfl⟩ := List.mem_map.1 hx
      have := hb a ha
      omega
  rw [List.length_cons, List.length_map] at h1
  omega
theorem word_len {b : Nat} {S : Sv} (g : Gd S) : (word b S).length ≤ b := by
  unfold word
  rw [wd_len]
  exact few_vars g List.filter_sublist fun l hl => by
    have := (List.mem_filter.1 hl).2
    simpa using this
/-- A clause that waits alone is seen to first. -/
theorem pend_first {b n : Nat} {S : Sv} {r : Sv × Int × Bool} (hr : Sv.prop n S = some r) (g : Gd S) (t : Tz S) (c : Cmp S) (w : Wt S) (hp : Pend b S) (hok : r.2.2 = true) : ∃ l u, r.1.trail = S.trail ++ l :: u ∧ vr l ≤ b := by
  obtain ⟨P, out⟩ := prop_ppg n hr g t c w
  obtain ⟨id, l, hq, hid, hh, ho, hl, htr, hv⟩ := hp
  obtain ⟨u, hu⟩ := P.ext
  have hnf : -l ∉ S.trail := fun hm => by
    rw [(g.tt _ (g.lits id hid l hl).neg).2 hm] at htr; cases htr
  cases u with
  | nil =>
    exfalso
    rw [List.append_nil] at hu
    have heq : ∀ m, LitV S.vars m → r.1.tr m = S.tr m := fun m hm => by
      rw [Bool.eq_iff_iff, P.gd.tt m (by rw [P.stl.vars]; exact hm), g.tt m hm, hu]
    rcases out with ⟨-, -, hq1, hc1⟩ | ⟨-, -, hk, hf⟩ | ⟨h1, -⟩
    · have hid1 := (P.stl.ok id).2 hid
      have := hc1 id hid1 ((P.gd.held_zero hid1).2 fun m hm => by
        rw [P.stl.lits] at hm
        rw [heq m (g.lits id hid m hm)]
        exact (g.held_zero hid).1 hh m hm) (Int.not_lt.1 fun h1 => by
        obtain ⟨x, y, hx, hy, hne, tx, ty⟩ := P.gd.opn_two hid1 h1
        rw [P.stl.lits] at hx hy
        rw [heq _ (g.lits id hid x hx).neg] at tx
        rw [heq _ (g.lits id hid y hy).neg] at ty
        exact hne (g.opn_one hid ho hx hy tx ty))
      rw [hq1] at this
      cases this
    · have hk0 := (P.stl.ok _).1 hk
      have hf0 : ∀ m ∈ (S.cl r.2.1.toNat).lits, S.tr (-m) = true := fun m hm => by
        refine (g.tt _ (g.lits _ hk0 m hm).neg).2 ?_
        rw [← hu]
        exact hf m (by rw [P.stl.lits]; exact hm)
      have hm := c _ hk0 ((g.held_zero hk0).2 fun m hm => by
        rw [Bool.eq_false_iff]
        intro h'
        exact g.not_both ((g.tt _ (g.lits _ hk0 m hm)).1 h') ((g.tt _ (g.lits _ hk0 m hm).neg).1 (hf0 m hm))) (by rw [(g.opn_zero hk0).2 hf0]; omega)
      rw [hq, List.mem_singleton] at hm
      rw [hm] at hf0
      rw [hf0 l hl] at htr
      cases htr
    · rw [hok] at h1; cases h1
  | cons x u =>
    refine ⟨x, u, hu, ?_⟩
    have hrs := P.tz.rs _ _ _ hu
    rcases hrs with ⟨-, h2⟩ | ⟨h1, h2, h3, h4, h5⟩
    · rw [P.starts] at h2
      have := t.sl _ h2
      omega
    · generalize (r.1.reasons.getD (vr x) 0).toNat = k at h3 h4 h5
      have hk0 := (P.stl.ok k).1 h3
      rw [P.stl.lits] at h4 h5
      have hxn : x ∉ S.trail := fun hm => by
        have := P.gd.tn
        rw [hu, List.map_append, List.map_cons, List.nodup_append] at this
        exact this.2.2 _ (List.mem_map_of_mem hm) _ (List.mem_cons_self ..) rfl
      have hm := c k hk0 ((g.held_zero hk0).2 fun m hm => by
        rw [Bool.eq_false_iff]
        intro h'
        have hmt := (g.tt _ (g.lits _ hk0 m hm)).1 h'
        rcases h5 m hm with rfl | h6
        · exact hxn hmt
        · exact g.not_both hmt h6) (Int.not_lt.1 fun h1 => by
        obtain ⟨y, z, hy, hz, hne, ty, tz⟩ := g.opn_two hk0 h1
        have key : ∀ m ∈ (S.cl k).lits, S.tr (-m) = false → m = x := fun m hm tm => by
          rcases h5 m hm with e | h6
          · exact e
          · rw [(g.tt _ (g.lits _ hk0 m hm).neg).2 h6] at tm; cases tm
        exact hne ((key y hy ty).trans (key z hz tz).symm))
      rw [hq, List.mem_singleton] at hm
      subst hm
      rcases h5 l hl with e | h6
      · rw [← e]; exact hv
      · exact absurd h6 hnf
end Go.Proofs.Ytnanofipjiclfaa
end PartQ19

section PartQ20
/- Plain facts on the solver's model: the weight grows. -/
set_option linter.unusedSimpArgs false
set_option linter.unusedVariables false
namespace Go.Proofs.Ytnanofipjiclfaa
open Go Go.Ab

/-- The weight of a state; pend: a literal is about to be implied. -/
def wgt (b : Nat) (S : Sv) (pend : Bool) : Nat := val b (if pend then word b S ++ [true] else word b S)
def pot (b : Nat) (S : Sv) (pend : Bool) : Nat := (2 ^ b - 1 - wgt b S pend) * (S.vars + 1) + (S.vars - S.trail.length)
theorem wgt_lt (b : Nat) (S : Sv) (pend : Bool) : wgt b S pend < 2 ^ b := val_lt _ _
/-- Propagation does not lower the weight. -/
theorem wgt_prop {b n : Nat} {S : Sv} {r : Sv × Int × Bool} {pend : Bool} (hr : Sv.prop n S = some r) (g : Gd S) (t : Tz S) (c : Cmp S) (w : Wt S) (hp : pend = true → Pend b S) (hok : r.2.2 = true) : wgt b S pend ≤ wgt b r.1 false := by
  obtain ⟨P, -⟩ := prop_ppg n hr g t c w
  unfold wgt
  have key : ∀ u, r.1.trail = S.trail ++ u → word b r.1 = word b S ++ wd b S.starts S.trail.length u := fun u hu => by
    unfold word
    rw [hu, P.starts, wd_append, Nat.zero_add]
  cases pend with
  | false =>
    obtain ⟨u, hu⟩ := P.ext
    rw [key u hu]
    simp only [Bool.false_eq_true, if_false]
    exact val_mono _ _ _
  | true =>
    obtain ⟨l, u, hu, hl⟩ := pend_first hr g t c w (hp rfl) hok
    rw [key _ hu]
    have e : wd b S.starts S.trail.length (l :: u) = [true] ++ wd b S.starts (S.trail.length + 1) u := by
      show (if vr l ≤ b then [!decide (S.trail.length ∈ S.starts)] else []) ++ _ = _
      rw [if_pos hl, decide_eq_false (fun hm => by have := t.sl _ hm; omega)]
      rfl
    rw [e, ← List.append_assoc]
    simp only [if_true, Bool.false_eq_true, if_false]
    exact val_mono _ _ _
theorem pot_prop {b n : Nat} {S : Sv} {r : Sv × Int × Bool} {pend : Bool} (hr : Sv.prop n S = some r) (g : Gd S) (t : Tz S) (c : Cmp S) (w : Wt S) (hp : pend = true → Pend b S) (hok : r.2.2 = true) : pot b r.1 false + (r.1.trail.length - S.trail.length) ≤ pot b S pend ∧ S.trail.length ≤ r.1.trail.length := by
  have h1 := wgt_prop hr g t c w hp hok
  obtain ⟨P, -⟩ := prop_ppg n hr g t c w
  obtain ⟨u, hu⟩ := P.ext
  have h2 := P.gd.tlen
  unfold pot
  rw [P.stl.vars] at *
  have h3 : r.1.trail.length = S.trail.length + u.length := by rw [hu, List.length_append]
  have h4 : (2 ^ b - 1 - wgt b r.1 false) * (S.vars + 1) ≤ (2 ^ b - 1 - wgt b S pend) * (S.vars + 1) := Nat.mul_le_mul_right _ (by omega)
  omega
/-- A decision. -/
theorem pot_decide {b M : Nat} {S : Sv} (h : Lv b M S) (hq : S.queue = []) {l : Int} (hl : LitV S.vars l) (hb : vr l ≤ b) (hf : Free S l) (hleft : S.left ≠ 0) : pot b (S.decide' l).1 false + 1 ≤ pot b S false := by
  obtain ⟨-, lv, st, e1, e2, e3, -⟩ := decide_lv h hq hl hb hf hleft
  have h2 := lv.l0.gd.tlen
  have hw : word b (S.decide' l).1 = word b S ++ wd b (S.starts ++ [S.trail.length]) S.trail.length [l] := by
    unfold word
    rw [e1, e2, wd_append, Nat.zero_add]
    congr 1
    exact wd_congr b _ _ fun i h1 h2 => by
      rw [List.mem_append, List.mem_singleton]
      exact ⟨fun h => h.elim (fun x => x) fun e => by omega, Or.inl⟩
  have h1 : wgt b S false ≤ wgt b (S.decide' l).1 false := by
    unfold wgt
    simp only [Bool.false_eq_true, if_false]
    rw [hw]
    exact val_mono _ _ _
  unfold pot
  rw [st.vars] at *
  rw [e1, List.length_append, List.length_singleton] at *
  have h4 : (2 ^ b - 1 - wgt b (S.decide' l).1 false) * (S.vars + 1) ≤ (2 ^ b - 1 - wgt b S false) * (S.vars + 1) := Nat.mul_le_mul_right _ (by omega)
  omega
theorem wgt_decide {b M : Nat} {S : Sv} (h : Lv b M S) (hq : S.queue = []) {l : Int} (hl : LitV S.vars l) (hb : vr l ≤ b) (hf : Free S l) (hleft : S.left ≠ 0) : wgt b S false ≤ wgt b (S.decide' l).1 false := by
  obtain ⟨-, lv, st, e1, e2, e3, -⟩ := decide_lv h hq hl hb hf hleft
  have hw : word b (S.decide' l).1 = word b S ++ wd b (S.starts ++ [S.trail.length]) S.trail.length [l] := by
    unfold word
    rw [e1, e2, wd_append, Nat.zero_add]
    congr 1
    exact wd_congr b _ _ fun i h1 h2 => by
      rw [List.mem_append, List.mem_singleton]
      exact ⟨fun h => h.elim (fun x => x) fun e => by omega, Or.inl⟩
  unfold wgt
  simp only [Bool.false_eq_true, if_false]
  rw [hw]
  exact val_mono _ _ _
/-- Going back. -/
theorem pot_back {b M : Nat} {S N : Sv} {i : List Int} {y : Int} {hints : List Nat} (h : Lv0 b M S) (hs : (i ++ [y]).Sublist S.trail) (hd : ∀ l ∈ i ++ [y], IsDec S l) (B : Bkd b M S N (i ++ [y]) hints) : wgt b S false < wgt b N true ∧ pot b N true < pot b S false := by
  have bs := back_spec h.gd h.tz hs hd
  have t1 := B.trail
  have t2 := B.starts
  have hv := B.vars
  have hlen := word_len (b := b) B.lv.l0.gd
  generalize S.backLevel (i ++ [y]) = back at bs t1 t2
  generalize hn : S.starts.getD back 0 = n at bs t1
  have hmem : n ∈ S.starts := by rw [← hn, List.getD_eq_getElem?_getD, List.getElem?_eq_getElem bs.lt]; exact List.getElem_mem bs.lt
  have hnl := h.tz.sl n hmem
  have hw1 : word b N = wd b S.starts 0 (S.trail.take n) := by
    unfold word
    rw [t1, t2]
    refine wd_congr b _ _ fun q h1 h2 => ?_
    rw [List.length_take] at h2
    refine ⟨fun h => List.mem_of_mem_take h, fun hm => ?_⟩
    obtain ⟨j, hj, ej⟩ := mem_idx hm
    have hjb : j < back := by
      rcases Nat.lt_or_ge j back with hlt | hge
      · exact hlt
      · rcases Nat.eq_or_lt_of_le hge with e | hlt
        · subst e; omega
        · have := sorted_lt h.tz.st hlt hj; omega
    rw [← ej, List.getD_eq_getElem?_getD, ← List.getElem?_take_of_lt (i := j) (j := back) hjb]
    have hj2 : j < (S.starts.take back).length := by rw [List.length_take]; omega
    rw [List.getElem?_eq_getElem hj2]
    exact List.getElem_mem hj2
  obtain ⟨z, rest, hz⟩ : ∃ z rest, S.trail.drop n = z :: rest := by
    have : S.trail.drop n ≠ [] := fun e => by
      have := congrArg List.length e
      rw [List.length_drop] at this
      simp at this
      omega
    exact List.exists_cons_of_ne_nil this
  have hsp : S.trail = S.trail.take n ++ z :: rest := by rw [← hz, List.take_append_drop]
  have hzl : (S.trail.take n).length = n := by rw [List.length_take]; omega
  have hzd : IsDec S z := by
    rcases h.tz.rs _ _ _ hsp with h1 | h1
    · exact h1.1
    · rw [hzl] at h1; exact absurd hmem h1.2.1
  have hzb : vr z ≤ b := h.dec z (by rw [hsp]; simp) hzd
  have hw2 : word b S = word b N ++ false :: wd b S.starts (n + 1) rest := by
    unfold word at hw1 ⊢
    rw [hw1]
    conv => lhs; rw [hsp, wd_append, Nat.zero_add, hzl]
    congr 1
    show (if vr z ≤ b then [!decide (n ∈ S.starts)] else []) ++ _ = _
    rw [if_pos hzb, decide_eq_true hmem]
    rfl
  have hpl : (word b N).length < b := by
    have := word_len (b := b) h.gd
    rw [hw2, List.length_append, List.length_cons] at this
    omega
  have hj : wgt b S false < wgt b N true := by
    unfold wgt
    simp only [Bool.false_eq_true, if_false, if_true]
    rw [hw2]
    exact val_jump _ _ _ hpl
  refine ⟨hj, ?_⟩
  have h5 := wgt_lt b N true
  unfold pot
  rw [hv]
  have h6 : (2 ^ b - 1 - wgt b N true) + 1 ≤ 2 ^ b - 1 - wgt b S false := by omega
  have h7 := Nat.mul_le_mul_right (S.vars + 1) h6
  rw [Nat.add_mul, Nat.one_mul] at h7
  omega
end Go.Proofs.Ytnanofipjiclfaa
end PartQ20

section PartQ21
/- Plain facts on the solver's model: a search ends, with little fuel and few steps. -/
set_option linter.unusedSimpArgs false
set_option linter.unusedVariables false
namespace Go.Proofs.Ytnanofipjiclfaa
open Go Go.Ab

theorem learn_more {S : Sv} (g : Gd S) {lits : List Int} {hints : List Nat} (hv : ∀ l ∈ lits, LitV S.vars l) (hsl : S.steps.length = S.learned.length) : (S.learn lits hints).1.left = S.left ∧ (S.learn lits hints).1.steps.length ≤ S.steps.length + 1 ∧ ((S.learn lits hints).2 = false → pmax ≤ (S.learn lits hints).1.steps.length) := by
  rcases learn_cases (hints := hints) g hv hsl with ⟨-, e⟩ | ⟨-, h, e⟩ | ⟨-, -, e, en, es, -, -⟩
  · rw [e]; exact ⟨rfl, Nat.le_succ _, fun h => by cases h⟩
  · rw [e]; exact ⟨rfl, Nat.le_succ _, fun _ => h⟩
  · exact ⟨en.left, by rw [es, List.length_append, List.length_singleton]; omega, fun h => by rw [e] at h; cases h⟩
theorem decide_zero {S : Sv} (h : S.left = 0) (l : Int) : (S.decide' l).2 = false ∧ (S.decide' l).1.left = 0 ∧ (S.decide' l).1.steps = S.steps := by unfold Sv.decide' Sv.assign; rw [if_pos h]; exact ⟨rfl, h, rfl⟩
theorem srch_ends {b M : Nat} (hb : b ≤ 12) {asm : List Int} : ∀ (k n : Nat) {S : Sv} {am nx : Nat} (pend : Bool), Sr b M asm S am nx → (pend = true → Pend b S) → pot b S pend < k → k + 8000000 ≤ n →
    ∃ r, Sv.srch asm n S am nx = some r ∧ S.left ≤ r.1.left + pot b S pend ∧ (r.2 = 0 → r.1.left = 0 ∨ pmax ≤ r.1.steps.length) ∧ r.1.steps.length ≤ S.steps.length + (2 ^ b - 1 - wgt b S pend) + 1
  | 0, n, S, am, nx, pend, _, _, hk, _ => by omega
  | k + 1, 0, S, am, nx, pend, _, _, _, hn => by omega
  | k + 1, n + 1, S, am, nx, pend, hsr, hp, hk, hn => by
    have g := hsr.lv.l0.gd
    have htl := g.tlen
    have hv1 := g.v1
    have hq := hsr.q
    obtain ⟨⟨S1, c, ok⟩, hpr⟩ := prop_ends (n + 1) g (by omega)
    unfold Sv.srch
    rw [hpr]
    obtain ⟨P, out⟩ := prop_ppg _ hpr g hsr.lv.l0.tz hsr.lv.cmp hsr.lv.wt
    simp only at P out
    have l1 := P.lv0 hsr.lv.l0
    have hext := P.ext
    have hleft := P.left
    have hst1 : S1.steps = S.steps := P.stl.steps
    rcases out with ⟨rfl, rfl, hq1, hc1⟩ | ⟨rfl, hc0, hck, hcf⟩ | ⟨rfl, rfl, hl0⟩
    · have hpot := pot_prop hpr g hsr.lv.l0.tz hsr.lv.cmp hsr.lv.wt hp rfl
      have hwgt := wgt_prop hpr g hsr.lv.l0.tz hsr.lv.cmp hsr.lv.wt hp rfl
      simp only at hpot hwgt
      have hqt := hsr.quiet P hq1 hc1
      have hg1 := l1.gd
      simp only [show ¬ (0 : Int) ≤ -1 by decide, if_false]
      obtain ⟨nx1, nx2, nx3, nx4⟩ := nextA_spec S1 asm nx hqt.nx
      generalize S1.nextA asm nx = nx' at nx1 nx2 nx3 nx4 ⊢
      by_cases hlt : nx' < asm.length
      · rw [if_pos hlt]
        obtain ⟨hlv, hlb⟩ := hqt.asv _ (getD_mem 0 hlt)
        have hx4 := nx4 hlt
        generalize asm.getD nx' 0 = l at hlv hlb hx4 ⊢
        cases htn : S1.tr (-l) with
        | true =>
          simp only [if_true]
          have hm : -l ∈ S1.trail := (hg1.tt _ hlv.neg).1 htn
          refine ⟨_, rfl, ?_⟩
          unfold Sv.contradict
          split
          · exact ⟨by show S.left ≤ S1.left + _; omega, (fun h => absurd h (show ¬ (2 : Int) = 0 by decide)), by show S1.steps.length ≤ _; rw [hst1]; omega⟩
          · rename_i hr
            obtain ⟨ho, C⟩ := contra_spec l1 hlv hlb hm hr
            generalize S1.explain (S1.reasons.getD (vr l) 0).toNat (-l) = p at C ⊢
            have lm := learn_more (S := { S1 with marked := p.1 }) (lits := p.2.1.reverse ++ [l]) (hints := p.2.2.reverse) C.l0.gd (fun x hx => by
              rcases List.mem_append.1 hx with hx | hx
              · exact hg1.tv x (C.sub.subset (List.mem_append_left _ hx))
              · rw [List.mem_singleton] at hx; subst hx; exact hlv) C.l0.sl
            simp only
            generalize ({ S1 with marked := p.1 } : Sv).learn (p.2.1.reverse ++ [l]) p.2.2.reverse = L at lm ⊢
            obtain ⟨S2, bb⟩ := L
            obtain ⟨m1, m2, m3⟩ := lm
            have m1' : S2.left = S1.left := m1
            have m2' : S2.steps.length ≤ S1.steps.length + 1 := m2
            rw [hst1] at m2'
            cases bb with
            | false => exact ⟨by show S.left ≤ S2.left + _; omega, fun _ => Or.inr (m3 rfl), by show S2.steps.length ≤ _; omega⟩
            | true => exact ⟨by show S.left ≤ S2.left + _; omega, (fun h => absurd h (show ¬ (2 : Int) = 0 by decide)), by show S2.steps.length ≤ _; omega⟩
        | false =>
          simp only [Bool.false_eq_true, if_false]
          have htl2 : S1.tr l = false := by
            rcases hx4 with h | h
            · exact h
            · rw [htn] at h; cases h
          by_cases h0 : S1.left = 0
          · obtain ⟨z1, z2, z3⟩ := decide_zero h0 l
            generalize S1.decide' l = D at z1 z2 z3 ⊢
            obtain ⟨S2, bb⟩ := D
            simp only at z1 z2 z3
            subst z1
            exact ⟨_, rfl, by show S.left ≤ S2.left + _; omega, fun _ => Or.inl z2, by show S2.steps.length ≤ _; rw [z3, hst1]; omega⟩
          · obtain ⟨d1, d2, d3, d4, d5, d6, -⟩ := decide_lv hqt.lv hq1 hlv hlb ⟨htl2, htn⟩ h0
            have d7 := pot_decide hqt.lv hq1 hlv hlb ⟨htl2, htn⟩ h0
            have d8 := hqt.decide hq1 hlv hlb ⟨htl2, htn⟩ h0 (am' := am + 1) (by have := hqt.am; omega) nx2
            have d9 : wgt b S1 false ≤ wgt b (S1.decide' l).1 false := wgt_decide hqt.lv hq1 hlv hlb ⟨htl2, htn⟩ h0
            generalize S1.decide' l = D at d1 d2 d3 d4 d5 d6 d7 d8 d9 ⊢
            obtain ⟨S2, bb⟩ := D
            simp only at d1 d2 d3 d4 d5 d6 d7 d8 d9
            subst d1
            obtain ⟨r, e1, e2, e3, e4⟩ := srch_ends hb k n false d8 (fun h => by cases h) (by omega) (by omega)
            have hs2 : S2.steps = S1.steps := d3.steps
            rw [hs2, hst1] at e4
            exact ⟨r, e1, by omega, e3, by omega⟩
      · rw [if_neg hlt]
        obtain ⟨v1, v2, v3, v4⟩ := firstV_spec hqt hq1
        have hpf : pot b ({ S1 with first := S1.firstV } : Sv) false = pot b S1 false ∧ wgt b ({ S1 with first := S1.firstV } : Sv) false = wgt b S1 false := ⟨rfl, rfl⟩
        have hlf : ({ S1 with first := S1.firstV } : Sv).left = S1.left ∧ ({ S1 with first := S1.firstV } : Sv).steps = S1.steps ∧ ({ S1 with first := S1.firstV } : Sv).queue = [] ∧ ({ S1 with first := S1.firstV } : Sv).vars = S1.vars := ⟨rfl, rfl, hq1, rfl⟩
        have hfr : ∀ l, Free S1 l → Free { S1 with first := S1.firstV } l := fun l h => h
        generalize hS2 : ({ S1 with first := S1.firstV } : Sv) = S2 at v3 hpf hlf hfr ⊢
        have hnx : nx' = asm.length := by omega
        by_cases hend : S1.vars < S1.firstV
        · rw [if_pos hend]
          exact ⟨_, rfl, by show S.left ≤ S2.left + _; omega, (fun h => absurd h (show ¬ (1 : Int) = 0 by decide)), by show S2.steps.length ≤ _; rw [hlf.2.1, hst1]; omega⟩
        · rw [if_neg hend]
          obtain ⟨hlv, hlb, hf0⟩ := v4 (by omega)
          have hf := hfr _ hf0
          rw [← hlf.2.2.2] at hlv
          by_cases h0 : S2.left = 0
          · obtain ⟨z1, z2, z3⟩ := decide_zero h0 (-(S1.firstV : Int))
            generalize S2.decide' (-(S1.firstV : Int)) = D at z1 z2 z3 ⊢
            obtain ⟨S3, bb⟩ := D
            simp only at z1 z2 z3
            subst z1
            exact ⟨_, rfl, by show S.left ≤ S3.left + _; omega, fun _ => Or.inl z2, by show S3.steps.length ≤ _; rw [z3, hlf.2.1, hst1]; omega⟩
          · obtain ⟨d1, d2, d3, d4, d5, d6, -⟩ := decide_lv v3.lv hlf.2.2.1 hlv hlb hf h0
            have d7 := pot_decide v3.lv hlf.2.2.1 hlv hlb hf h0
            have d8 := v3.decide hlf.2.2.1 hlv hlb hf h0 (am' := am) (by have := v3.am; omega) nx2
            have d9 := wgt_decide v3.lv hlf.2.2.1 hlv hlb hf h0
            generalize S2.decide' (-(S1.firstV : Int)) = D at d1 d2 d3 d4 d5 d6 d7 d8 d9 ⊢
            obtain ⟨S3, bb⟩ := D
            simp only at d1 d2 d3 d4 d5 d6 d7 d8 d9
            subst d1
            obtain ⟨r, e1, e2, e3, e4⟩ := srch_ends hb k n false d8 (fun h => by cases h) (by omega) (by omega)
            have hs2 : S3.steps = S2.steps := d3.steps
            rw [hs2, hlf.2.1, hst1] at e4
            exact ⟨r, e1, by omega, e3, by omega⟩
    · have hpot := pot_prop hpr g hsr.lv.l0.tz hsr.lv.cmp hsr.lv.wt hp rfl
      have hwgt := wgt_prop hpr g hsr.lv.l0.tz hsr.lv.cmp hsr.lv.wt hp rfl
      simp only at hpot hwgt
      simp only [if_pos hc0]
      have C := conflict_spec l1 hck hcf
      generalize S1.explain c.toNat 0 = p at C ⊢
      obtain ⟨mk, dr, hr⟩ := p
      have l2 : Lv0 b M (wm S1 mk) := C.l0
      have hdv : ∀ l ∈ dr.reverse, LitV S1.vars l := fun l hl => l1.gd.tv l (C.sub.subset hl)
      have lm := learn_more (S := wm S1 mk) (lits := dr.reverse) (hints := hr.reverse) l2.gd hdv l2.sl
      have hdd : ∀ l ∈ dr.reverse, IsDec (wm S1 mk) l := fun l hl => C.dec l (List.mem_reverse.1 hl)
      have hback := fun (i : List Int) (y : Int) (e : dr.reverse = i ++ [y]) => back_lv (S := wm S1 mk) (i := i) (y := y) hb l2 hr.reverse (by rw [← e]; exact C.sub) (fun l hl => hdd l (by rw [e]; exact hl))
      have hlc := learn_cases (hints := hr.reverse) l2.gd hdv l2.sl
      change ∃ r, (match (wm S1 mk).learn dr.reverse hr.reverse with
        | (S2, false) => some (S2, (0 : Int))
        | (S2, true) =>
          if dr.reverse.length = 0 ∨ S2.level (dr.reverse.getD (dr.reverse.length - 1) 0) ≤ am then some (S2.refute dr.reverse, 2)
          else if (S2.backjump dr.reverse).2 < am then Sv.srch asm n (S2.backjump dr.reverse).1 (S2.backjump dr.reverse).2 0 else Sv.srch asm n (S2.backjump dr.reverse).1 am nx) = some r ∧ _
      generalize hLe : (wm S1 mk).learn dr.reverse hr.reverse = L at lm hlc hback ⊢
      obtain ⟨S2, bb⟩ := L
      obtain ⟨m1, m2, m3⟩ := lm
      have m1' : S2.left = S1.left := m1
      have m2' : S2.steps.length ≤ S1.steps.length + 1 := m2
      rw [hst1] at m2'
      cases bb with
      | false => exact ⟨_, rfl, by show S.left ≤ S2.left + _; omega, fun _ => Or.inr (m3 rfl), by show S2.steps.length ≤ _; omega⟩
      | true =>
        simp only
        by_cases hcond : dr.reverse.length = 0 ∨ S2.level (dr.reverse.getD (dr.reverse.length - 1) 0) ≤ am
        · rw [if_pos hcond]
          exact ⟨_, rfl, by show S.left ≤ S2.left + _; omega, (fun h => absurd h (show ¬ (2 : Int) = 0 by decide)), by show S2.steps.length ≤ _; omega⟩
        · rw [if_neg hcond]
          obtain ⟨i, y, hiy⟩ : ∃ i y, dr.reverse = i ++ [y] := by
            rcases List.eq_nil_or_concat dr.reverse with e | ⟨i, y, e⟩
            · exact absurd (Or.inl (by rw [e]; rfl)) hcond
            · exact ⟨i, y, by rw [e, List.concat_eq_append]⟩
          have hna := not_again l2 (i := i) (y := y) (by rw [← hiy]; exact C.sub) (by rw [← hiy]; exact hdd)
          rw [← hiy] at hna
          rcases hlc with ⟨e, -⟩ | ⟨-, -, e⟩ | ⟨-, hst, -, en, esteps, elen, eadd⟩
          · rw [hna] at e; cases e
          · simp only [Prod.mk.injEq] at e; exact absurd e.2 (by decide)
          obtain ⟨-, hlev, hq2, hB⟩ := hback i y hiy hst
          have pb := pot_back l2 (i := i) (y := y) (by rw [← hiy]; exact C.sub) (by rw [← hiy]; exact hdd) hB
          have hbs := back_spec l2.gd l2.tz (i := i) (y := y) (by rw [← hiy]; exact C.sub) (by rw [← hiy]; exact hdd)
          have hbl := hbs.lt
          have hSr := hsr.back (mk := mk) P hbl hB
          rw [← hiy, hLe] at hq2 hB hSr pb
          simp only at hq2 hB hSr pb
          rw [hq2]
          have hpw : pot b (wm S1 mk) false = pot b S1 false ∧ wgt b (wm S1 mk) false = wgt b S1 false := ⟨rfl, rfl⟩
          have hlN : (S2.backjump dr.reverse).1.left = S1.left := hB.left
          have hsN : (S2.backjump dr.reverse).1.steps.length = S.steps.length + 1 := by rw [hB.steps, List.length_append]; show S1.steps.length + 1 = _; rw [hst1]
          have hwl := wgt_lt b (S2.backjump dr.reverse).1 true
          split
          · rename_i hba
            rw [if_pos hba, if_pos hba] at hSr
            obtain ⟨r, e1, e2, e3, e4⟩ := srch_ends hb k n true hSr (fun _ => hB.pend) (by omega) (by omega)
            exact ⟨r, e1, by omega, e3, by omega⟩
          · rename_i hba
            rw [if_neg hba, if_neg hba] at hSr
            obtain ⟨r, e1, e2, e3, e4⟩ := srch_ends hb k n true hSr (fun _ => hB.pend) (by omega) (by omega)
            exact ⟨r, e1, by omega, e3, by omega⟩
    · refine ⟨_, rfl, ?_, fun _ => Or.inl hl0, by show S1.steps.length ≤ _; rw [hst1]; omega⟩
      show S.left ≤ S1.left + _
      have h2 := P.gd.tlen
      rw [P.stl.vars] at h2
      unfold pot
      omega
end Go.Proofs.Ytnanofipjiclfaa
end PartQ21

section PartQ22
/- Plain facts on the solver's model: what a search leaves as it was. -/
set_option linter.unusedSimpArgs false
set_option linter.unusedVariables false
namespace Go.Proofs.Ytnanofipjiclfaa
open Go Go.Ab

/-- The fuel used and what the last search has told are as they were. -/
structure Fl (S S' : Sv) : Prop where
  used : S'.used = S.used
  values : S'.values = S.values
  core : S'.core = S.core
  refuted : S'.refuted = S.refuted
  satisfied : S'.satisfied = S.satisfied
  left : S'.left ≤ S.left
theorem Fl.refl (S : Sv) : Fl S S := ⟨rfl, rfl, rfl, rfl, rfl, Nat.le_refl _⟩
theorem Fl.trans {S S' S'' : Sv} (h : Fl S S') (h' : Fl S' S'') : Fl S S'' := ⟨h'.used.trans h.used, h'.values.trans h.values, h'.core.trans h.core, h'.refuted.trans h.refuted, h'.satisfied.trans h.satisfied, Nat.le_trans h'.left h.left⟩
theorem fl_fold {β : Type} {f : Sv → β → Sv} (h : ∀ S x, Fl S (f S x)) : ∀ (l : List β) (S : Sv), Fl S (l.foldl f S)
  | [], S => Fl.refl S
  | x :: l, S => by rw [List.foldl_cons]; exact (h S x).trans (fl_fold h l _)
theorem fl_hold (S : Sv) (id : Nat) (d : Int) : Fl S (S.hold id d) := ⟨rfl, rfl, rfl, rfl, rfl, Nat.le_refl _⟩
theorem fl_open (S : Sv) (id : Nat) (d : Int) : Fl S (S.openD id d) := ⟨rfl, rfl, rfl, rfl, rfl, Nat.le_refl _⟩
theorem fl_ex (S : Sv) (id : Nat) : Fl S (S.examine id) := by
  unfold Sv.examine
  split <;> exact ⟨rfl, rfl, rfl, rfl, rfl, Nat.le_refl _⟩
theorem fl_assign (S : Sv) (l reason : Int) : Fl S (S.assign l reason).1 := by
  unfold Sv.assign
  split
  · exact Fl.refl S
  · have h1 : Fl S (S.mark1 l reason) := ⟨rfl, rfl, rfl, rfl, rfl, Nat.sub_le _ _⟩
    exact (h1.trans (fl_fold (f := fun S id => S.hold id 1) (fun S x => fl_hold S x 1) _ _)).trans (fl_fold (f := fun S id => (S.openD id (-1)).examine id) (fun S x => (fl_open S x (-1)).trans (fl_ex _ x)) _ _)
theorem fl_decide (S : Sv) (l : Int) : Fl S (S.decide' l).1 := by
  have h1 : Fl S { S with starts := S.starts ++ [S.trail.length] } := ⟨rfl, rfl, rfl, rfl, rfl, Nat.le_refl _⟩
  exact h1.trans (fl_assign _ l (-1))
theorem fl_drop1 (S : Sv) (l : Int) : Fl S (S.drop1 l) := by
  unfold Sv.drop1
  have h1 : Fl S { S with trail := S.trail.dropLast, truth := S.truth.set (code l) false, first := min S.first (vr l) } := ⟨rfl, rfl, rfl, rfl, rfl, Nat.le_refl _⟩
  exact (h1.trans (fl_fold (f := fun S id => S.hold id (-1)) (fun S x => fl_hold S x (-1)) _ _)).trans (fl_fold (f := fun S id => S.openD id 1) (fun S x => fl_open S x 1) _ _)
theorem fl_retract (S : Sv) (n : Nat) : Fl S (S.retract n) := fl_fold fl_drop1 _ _
theorem fl_enter1 (id : Nat) (p : Sv × Cl) (l : Int) : Fl p.1 (Sv.enter1 id p l).1 := by
  unfold Sv.enter1
  split <;> exact ⟨rfl, rfl, rfl, rfl, rfl, Nat.le_refl _⟩
theorem fl_enterF (id : Nat) : ∀ (lits : List Int) (p : Sv × Cl), Fl p.1 (lits.foldl (Sv.enter1 id) p).1
  | [], p => Fl.refl _
  | l :: lits, p => by rw [List.foldl_cons]; exact (fl_enter1 id p l).trans (fl_enterF id lits _)
theorem fl_enter (S : Sv) (lits : List Int) (id : Nat) : Fl S (S.enter lits id).1 := by
  have h1 : Fl S { S with stamp := S.stamp + 1 } := ⟨rfl, rfl, rfl, rfl, rfl, Nat.le_refl _⟩
  exact h1.trans (fl_enterF id lits ({ S with stamp := S.stamp + 1 }, ⟨lits, 0, 0⟩))
theorem fl_add (S : Sv) (c : List Int) : Fl S (S.add c) := by
  have h1 : Fl (S.enter c S.added.length).1 (S.add c) := ⟨rfl, rfl, rfl, rfl, rfl, Nat.le_refl _⟩
  exact (fl_enter S c S.added.length).trans h1
theorem fl_learn (S : Sv) (lits : List Int) (hints : List Nat) : Fl S (S.learn lits hints).1 := by
  unfold Sv.learn
  simp only
  split
  · exact Fl.refl S
  · split
    · exact Fl.refl S
    · have h1 : Fl S { S with steps := S.steps ++ [(lits.map (- ·), hints)] } := ⟨rfl, rfl, rfl, rfl, rfl, Nat.le_refl _⟩
      have h2 := h1.trans (fl_enter ({ S with steps := S.steps ++ [(lits.map (- ·), hints)] } : Sv) (lits.map (- ·)) (cmax + S.steps.length))
      exact ⟨h2.used, h2.values, h2.core, h2.refuted, h2.satisfied, h2.left⟩
theorem fl_backjump (S : Sv) (ds : List Int) : Fl S (S.backjump ds).1 := by
  unfold Sv.backjump
  simp only
  have h1 := fl_retract S (S.starts.getD (S.backLevel ds) 0)
  have h2 : Fl (S.retract (S.starts.getD (S.backLevel ds) 0)) { S.retract (S.starts.getD (S.backLevel ds) 0) with starts := (S.retract (S.starts.getD (S.backLevel ds) 0)).starts.take (S.backLevel ds), queue := [] } := ⟨rfl, rfl, rfl, rfl, rfl, Nat.le_refl _⟩
  exact (h1.trans h2).trans (fl_ex _ _)
theorem fl_prop : ∀ (n : Nat) {S : Sv} {r : Sv × Int × Bool}, Sv.prop n S = some r → Fl S r.1
  | 0, S, r, h => by unfold Sv.prop at h; cases h
  | n + 1, S, r, h => by
    unfold Sv.prop at h
    have h1 : Fl S { S with queue := (Sv.hpop S.queue).dropLast } := ⟨rfl, rfl, rfl, rfl, rfl, Nat.le_refl _⟩
    cases hq : S.queue with
    | nil =>
      rw [hq] at h
      simp only [Option.some.injEq] at h
      subst h
      exact Fl.refl S
    | cons a q =>
      rw [hq] at h
      simp only at h
      rw [← hq] at h
      generalize ({ S with queue := (Sv.hpop S.queue).dropLast } : Sv) = S1 at h h1
      split at h
      · exact h1.trans (fl_prop n h)
      · split at h
        · simp only [Option.some.injEq] at h
          subst h
          exact h1
        · split at h
          · cases h
          · rename_i l hl
            have h2 := fl_assign S1 l (((Sv.hpop S.queue).getLastD 0 : Nat) : Int)
            generalize S1.assign l (((Sv.hpop S.queue).getLastD 0 : Nat) : Int) = p at h h2
            obtain ⟨S2, b⟩ := p
            cases b with
            | true => exact (h1.trans h2).trans (fl_prop n h)
            | false =>
              simp only [Option.some.injEq] at h
              subst h
              exact h1.trans h2
end Go.Proofs.Ytnanofipjiclfaa
end PartQ22
