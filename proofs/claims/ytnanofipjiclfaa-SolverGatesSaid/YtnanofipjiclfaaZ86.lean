import Derived.Test.YtnanofipjiclfaaZ85
import Derived.Test.YtnanofipjiclfaaZ83
import Derived.Test.YtnanofipjiclfaaZ84
import Derived.Test.YtnanofipjiclfaaAbAll

section PartQ13
/- Plain facts on the solver's model: the rounds of a search. -/
set_option linter.unusedSimpArgs false
set_option linter.unusedVariables false
namespace Go.Proofs.Ytnanofipjiclfaa
open Go Go.Ab

theorem tw {α : Type} (p : α → Bool) (d : α) : ∀ l : List α, (∀ i, i < (l.takeWhile p).length → p (l.getD i d) = true) ∧ (l.takeWhile p).length ≤ l.length ∧ ((l.takeWhile p).length < l.length → p (l.getD (l.takeWhile p).length d) = false)
  | [] => by simp
  | a :: l => by
    obtain ⟨h1, h2, h3⟩ := tw p d l
    rw [List.takeWhile_cons]
    cases ha : p a with
    | true =>
      simp only [if_true, List.length_cons]
      refine ⟨fun i hi => ?_, by omega, fun hl => ?_⟩
      · cases i with
        | zero => simpa using ha
        | succ i => simpa using h1 i (by omega)
      · simpa using h3 (by omega)
    | false => simp [ha]
/-- Once the inputs are assigned, nothing is left to decide. -/
def Inp (b : Nat) (S : Sv) : Prop := ∀ p : List Int, (∀ l ∈ p, LitV S.vars l) → (∀ l ∈ p, -l ∉ p) → Quiet S p → (∀ v, 1 ≤ v → v ≤ b → ∃ l ∈ p, vr l = v) → ∀ v, 1 ≤ v → v ≤ S.vars → ∃ l ∈ p, vr l = v
theorem Inp.more {b : Nat} {S S' : Sv} (h : Inp b S) (hv : S'.vars = S.vars) (hk : ∀ k, okId S k → okId S' k) (hl : ∀ k, okId S k → (S'.cl k).lits = (S.cl k).lits) : Inp b S' := fun p h1 h2 h3 h4 => by
  rw [hv] at h1 ⊢
  refine h p h1 h2 (fun k ho => ?_) h4
  have := h3 k (hk k ho)
  rw [hl k ho] at this
  exact this
structure Sr (b M : Nat) (asm : List Int) (S : Sv) (assumed next : Nat) : Prop where
  lv : Lv b M S
  fi : Fi S
  inp : Inp b S
  asv : ∀ l ∈ asm, LitV S.vars l ∧ vr l ≤ b
  nx : next ≤ asm.length
  am : assumed ≤ S.starts.length
  left : S.left ≤ 1000000000
  q : S.queue.length ≤ 1000000
theorem Fi.ppg {S S' : Sv} (h : Fi S) (p : Ppg S S') : Fi S' := by
  obtain ⟨t, ht⟩ := p.ext
  refine ⟨by rw [p.stl.first]; exact h.1, by rw [p.stl.first, p.stl.vars]; exact h.2.1, fun v h1 h2 => ?_⟩
  rw [p.stl.first] at h2
  obtain ⟨l, hl, e⟩ := h.2.2 v h1 h2
  exact ⟨l, by rw [ht]; exact List.mem_append_left _ hl, e⟩
/-- Behind propagation, when all is quiet. -/
theorem Sr.quiet {b M : Nat} {asm : List Int} {S S1 : Sv} {am nx : Nat} (h : Sr b M asm S am nx) (p : Ppg S S1) (hq : S1.queue = []) (hc : Cmp S1) : Sr b M asm S1 am nx :=
  ⟨⟨p.lv0 h.lv.l0, hc, fun k hk => by rw [hq] at hk; cases hk⟩, h.fi.ppg p, h.inp.more p.stl.vars (fun k hk => (p.stl.ok k).2 hk) (fun k _ => p.stl.lits k), fun l hl => by rw [p.stl.vars]; exact h.asv l hl, h.nx, by rw [p.starts]; exact h.am, by have h1 := p.left; have h2 := h.left; have hx := p.ext; obtain ⟨t, ht⟩ := hx; rw [ht, List.length_append] at h1; omega, by rw [hq]; simp⟩
theorem Sr.first {b M : Nat} {asm : List Int} {S : Sv} {am nx : Nat} (h : Sr b M asm S am nx) {f : Nat} (h1 : 1 ≤ f) (h2 : f ≤ S.vars + 1) (h3 : ∀ v, 1 ≤ v → v < f → ∃ l ∈ S.trail, vr l = v) : Sr b M asm { S with first := f } am nx := by
  have g := h.lv.l0.gd
  have t := h.lv.l0.tz
  exact ⟨⟨⟨⟨⟨g.sh.vars, g.sh.occ, g.sh.last, g.sh.truth, g.sh.reasons, g.sh.levels, g.sh.marked⟩, g.v1, g.na, g.nl, g.lits, g.ll, g.nd, g.ok, g.mem, g.low, g.hc, g.oc, g.tv, g.tn, g.tt, g.la, g.um, g.qu⟩, ⟨t.rs, t.lv, t.st, t.sl⟩, h.lv.l0.qz, h.lv.l0.sl, h.lv.l0.cls, h.lv.l0.s12, h.lv.l0.dec, h.lv.l0.stm⟩, h.lv.cmp, h.lv.wt⟩, ⟨h1, h2, h3⟩, h.inp, h.asv, h.nx, h.am, h.left, h.q⟩
theorem Sr.decide {b M : Nat} {asm : List Int} {S : Sv} {am nx am' : Nat} (h : Sr b M asm S am nx) (hq : S.queue = []) {l : Int} (hl : LitV S.vars l) (hb : vr l ≤ b) (hf : Free S l) (hleft : S.left ≠ 0) (ha : am' ≤ S.starts.length + 1) {nx' : Nat} (hn : nx' ≤ asm.length) : Sr b M asm (S.decide' l).1 am' nx' := by
  obtain ⟨-, lv, st, e1, e2, e3, e4⟩ := decide_lv h.lv hq hl hb hf hleft
  refine ⟨lv, ⟨by rw [st.first]; exact h.fi.1, by rw [st.first, st.vars]; exact h.fi.2.1, fun v h1 h2 => ?_⟩, h.inp.more st.vars (fun k hk => (st.ok k).2 hk) (fun k _ => st.lits k), fun x hx => by rw [st.vars]; exact h.asv x hx, hn, by rw [e2, List.length_append, List.length_singleton]; exact ha, by rw [e3]; have := h.left; omega, ?_⟩
  · rw [st.first] at h2
    obtain ⟨x, hx, e⟩ := h.fi.2.2 v h1 h2
    exact ⟨x, by rw [e1]; exact List.mem_append_left _ hx, e⟩
  · have hnd : Gd { S with starts := S.starts ++ [S.trail.length] } := h.lv.l0.gd.starts _ S.queue h.lv.l0.gd.qu
    obtain ⟨-, a, -⟩ := assign_asg (S := { S with starts := S.starts ++ [S.trail.length] }) (reason := -1) hnd hl hleft
    have h1 := a.nqueue
    have h2 := h.lv.l0.gd.occLen (code (-l))
    have h3 : ({ S with starts := S.starts ++ [S.trail.length] } : Sv).queue.length = 0 := by show S.queue.length = 0; rw [hq]; rfl
    have h4 : (({ S with starts := S.starts ++ [S.trail.length] } : Sv).occ.getD (code (-l)) []).length ≤ 60000 := h2
    show (S.decide' l).1.queue.length ≤ _
    unfold Sv.decide'
    omega
/-- The variable that is decided next. -/
theorem firstV_spec {b M : Nat} {asm : List Int} {S : Sv} {am nx : Nat} (h : Sr b M asm S am nx) (hq : S.queue = []) : S.first ≤ S.firstV ∧ S.firstV ≤ S.vars + 1 ∧ Sr b M asm { S with first := S.firstV } am nx ∧ (S.firstV ≤ S.vars → LitV S.vars (-(S.firstV : Int)) ∧ vr (-(S.firstV : Int)) ≤ b ∧ Free S (-(S.firstV : Int))) := by
  obtain ⟨f1, f2, f3⟩ := h.fi
  have g := h.lv.l0.gd
  have T := tw (fun v => S.truth.getD (2 * v) false || S.truth.getD (2 * v + 1) false) 0 (List.range' S.first (S.vars + 1 - S.first))
  have hfv : S.firstV = S.first + ((List.range' S.first (S.vars + 1 - S.first)).takeWhile fun v => S.truth.getD (2 * v) false || S.truth.getD (2 * v + 1) false).length := rfl
  generalize ((List.range' S.first (S.vars + 1 - S.first)).takeWhile fun v => S.truth.getD (2 * v) false || S.truth.getD (2 * v + 1) false).length = k at T hfv
  obtain ⟨t1, t2, t3⟩ := T
  rw [List.length_range'] at t2 t3
  have hget : ∀ i, i < S.vars + 1 - S.first → (List.range' S.first (S.vars + 1 - S.first)).getD i 0 = S.first + i := fun i hi => by
    rw [List.getD_eq_getElem?_getD, List.getElem?_eq_getElem (by simpa using hi)]
    simp
  have hcp : ∀ v : Nat, 1 ≤ v → code (v : Int) = 2 * v ∧ code (-(v : Int)) = 2 * v + 1 := fun v hv => by
    unfold code
    rw [if_neg (by omega), if_pos (by omega)]
    omega
  have hall : ∀ v, 1 ≤ v → v < S.firstV → ∃ l ∈ S.trail, vr l = v := fun v h1 h2 => by
    rcases Nat.lt_or_ge v S.first with h3 | h3
    · exact f3 v h1 h3
    · have := t1 (v - S.first) (by omega)
      rw [hget _ (by omega)] at this
      have e : S.first + (v - S.first) = v := by omega
      rw [e, Bool.or_eq_true] at this
      obtain ⟨c1, c2⟩ := hcp v h1
      rcases this with h4 | h4
      · refine ⟨(v : Int), (g.tt _ ?_).1 (by unfold Sv.tr; rw [c1]; exact h4), by unfold vr; omega⟩
        unfold LitV; omega
      · refine ⟨-(v : Int), (g.tt _ ?_).1 (by unfold Sv.tr; rw [c2]; exact h4), by unfold vr; omega⟩
        unfold LitV; omega
  refine ⟨by omega, by omega, h.first (by omega) (by omega) hall, fun hle => ?_⟩
  have hv : LitV S.vars (-(S.firstV : Int)) := by unfold LitV; omega
  have hf := t3 (by omega)
  rw [hget _ (by omega), ← hfv, Bool.or_eq_false_iff] at hf
  obtain ⟨c1, c2⟩ := hcp S.firstV (by omega)
  have hfree : Free S (-(S.firstV : Int)) := ⟨by unfold Sv.tr; rw [c2]; exact hf.2, by unfold Sv.tr; rw [Int.neg_neg, c1]; exact hf.1⟩
  refine ⟨hv, ?_, hfree⟩
  rcases Nat.lt_or_ge b (vr (-(S.firstV : Int))) with hlt | hge
  · exfalso
    have hvr : vr (-(S.firstV : Int)) = S.firstV := by unfold vr; omega
    rw [hvr] at hlt
    obtain ⟨l, hl, e⟩ := h.inp S.trail g.tv (fun l hl => g.not_both hl) (h.lv.cmp.quiet g hq) (fun v h1 h2 => hall v h1 (by omega)) S.firstV (by omega) hle
    exact free_vr g hv hfree (by rw [hvr, ← e]; exact List.mem_map_of_mem hl)
  · exact hge
/-- The next assumption. -/
theorem nextA_spec (S : Sv) (asm : List Int) (next : Nat) (h : next ≤ asm.length) : next ≤ S.nextA asm next ∧ S.nextA asm next ≤ asm.length ∧ (∀ i, next ≤ i → i < S.nextA asm next → S.tr (asm.getD i 0) = true ∧ S.tr (-(asm.getD i 0)) = false) ∧ (S.nextA asm next < asm.length → S.tr (asm.getD (S.nextA asm next) 0) = false ∨ S.tr (-(asm.getD (S.nextA asm next) 0)) = true) := by
  have T := tw (fun l => S.tr l && !S.tr (-l)) 0 (asm.drop next)
  have hfv : S.nextA asm next = next + ((asm.drop next).takeWhile fun l => S.tr l && !S.tr (-l)).length := rfl
  generalize ((asm.drop next).takeWhile fun l => S.tr l && !S.tr (-l)).length = k at T hfv
  obtain ⟨t1, t2, t3⟩ := T
  rw [List.length_drop] at t2 t3
  have hget : ∀ i, (asm.drop next).getD i 0 = asm.getD (next + i) 0 := fun i => by rw [List.getD_eq_getElem?_getD, List.getElem?_drop, List.getD_eq_getElem?_getD]
  rw [hfv]
  refine ⟨by omega, by omega, fun i h1 h2 => ?_, fun h1 => ?_⟩
  · have := t1 (i - next) (by omega)
    rw [hget] at this
    have e : next + (i - next) = i := by omega
    rw [e] at this
    simpa using this
  · have := t3 (by omega)
    rw [hget] at this
    simp only [Bool.and_eq_false_iff, Bool.not_eq_false'] at this
    exact this
/-- A round that ends with going back. -/
theorem Sr.back {b M : Nat} {asm : List Int} {S S1 N : Sv} {mk : List Bool} {am nx : Nat} {ds : List Int} {hints : List Nat} (h : Sr b M asm S am nx) (P : Ppg S S1) (hbl : (wm S1 mk).backLevel ds < (wm S1 mk).starts.length) (B : Bkd b M (wm S1 mk) N ds hints) :
    Sr b M asm N (if (wm S1 mk).backLevel ds < am then (wm S1 mk).backLevel ds else am) (if (wm S1 mk).backLevel ds < am then 0 else nx) := by
  have hf : Fi (wm S1 mk) := by have h1 := h.fi.ppg P; exact ⟨h1.1, h1.2.1, h1.2.2⟩
  refine ⟨B.lv, B.fi hf, Inp.more h.inp (B.vars.trans P.stl.vars) (fun k hk => (B.ok k).2 (Or.inl ((P.stl.ok k).2 hk))) (fun k hk => (B.lits k ((P.stl.ok k).2 hk)).trans (P.stl.lits k)), fun l hl => by rw [B.vars]; show LitV S1.vars l ∧ _; rw [P.stl.vars]; exact h.asv l hl, ?_, ?_, ?_, ?_⟩
  · have := h.nx
    split <;> omega
  · rw [B.starts, List.length_take]
    split <;> omega
  · rw [B.left]
    show S1.left ≤ _
    have h1 := P.left
    have h2 := h.left
    obtain ⟨t, ht⟩ := P.ext
    rw [ht, List.length_append] at h1
    omega
  · obtain ⟨id, l, e, -⟩ := B.pend
    rw [e]; simp
end Go.Proofs.Ytnanofipjiclfaa
end PartQ13

section PartT24
/- search. -/
set_option linter.unusedSimpArgs false
set_option linter.unusedVariables false
set_option maxRecDepth 100000
namespace Go.Proofs.Ytnanofipjiclfaa
open Go Go.Ab
variable {I : Sl → Nat} {S : Sv} {σ : St}

/-- The head of search's loop. -/
structure Hd (b M : Nat) (asm : List Int) (r : Sv × Int) (I : Sl → Nat) (S : Sv) (σ : St) (n : Nat) (I' : Sl → Nat) (S' : Sv) (am nx : Nat) (st : St) : Prop where
  sol : Sol I' S' st
  stp : Stp Any I S σ I' st
  occ : SameOcc S S'
  sr : Sr b M asm S' am nx
  go : Sv.srch asm n S' am nx = some r
theorem trail_ok {S : Sv} (g : Gd S) (t : Tz S) : ∀ l ∈ S.trail, LitV S.vars l ∧ (¬ S.reasons.getD (vr l) 0 < 0 → okId S (S.reasons.getD (vr l) 0).toNat ∧ S.reasons.getD (vr l) 0 < 1000000) := fun l hl => by
  refine ⟨g.tv l hl, fun hr => ?_⟩
  obtain ⟨a, u, e⟩ := List.append_of_mem hl
  rcases t.rs _ _ _ e with ⟨h1, -⟩ | ⟨-, -, h3, -⟩
  · exact absurd h1 hr
  · have := okId_lt g.na g.nl h3
    exact ⟨h3, by omega⟩
theorem starts_len {S : Sv} (t : Tz S) : S.starts.length ≤ S.trail.length :=
  nodup_bound (t.st.imp fun h => Nat.ne_of_lt h) t.sl
theorem firstV_at (S : Sv) (h : S.first ≤ S.vars + 1) : S.first ≤ S.firstV ∧ S.firstV ≤ S.vars + 1 ∧ (∀ f, S.first ≤ f → f < S.firstV → (S.truth.getD (2 * f) false || S.truth.getD (2 * f + 1) false) = true) ∧ (S.firstV ≤ S.vars → (S.truth.getD (2 * S.firstV) false || S.truth.getD (2 * S.firstV + 1) false) = false) := by
  have T := tw (fun v => S.truth.getD (2 * v) false || S.truth.getD (2 * v + 1) false) 0 (List.range' S.first (S.vars + 1 - S.first))
  have hfv : S.firstV = S.first + ((List.range' S.first (S.vars + 1 - S.first)).takeWhile fun v => S.truth.getD (2 * v) false || S.truth.getD (2 * v + 1) false).length := rfl
  generalize ((List.range' S.first (S.vars + 1 - S.first)).takeWhile fun v => S.truth.getD (2 * v) false || S.truth.getD (2 * v + 1) false).length = k at T hfv
  obtain ⟨t1, t2, t3⟩ := T
  rw [List.length_range'] at t2 t3
  have hget : ∀ i, i < S.vars + 1 - S.first → (List.range' S.first (S.vars + 1 - S.first)).getD i 0 = S.first + i := fun i hi => by
    rw [List.getD_eq_getElem?_getD, List.getElem?_eq_getElem (by simpa using hi)]
    simp
  rw [hfv]
  refine ⟨by omega, by omega, fun f h1 h2 => ?_, fun h1 => ?_⟩
  · have := t1 (f - S.first) (by omega)
    rw [hget _ (by omega)] at this
    have e : S.first + (f - S.first) = f := by omega
    rw [e] at this
    exact this
  · have := t3 (by omega)
    rw [hget _ (by omega)] at this
    exact this
theorem decide_occ {S : Sv} (g : Gd S) {l : Int} (hl : LitV S.vars l) : SameOcc S (S.decide' l).1 :=
  assign_occ (S := { S with starts := S.starts ++ [S.trail.length] }) (g.starts _ S.queue g.qu) hl
theorem decide_left {S : Sv} {l : Int} (h : S.left = 0) : (S.decide' l).2 = false := by unfold Sv.decide' Sv.assign; rw [if_pos h]
set_option maxHeartbeats 8000000 in
theorem search_ac (hS : Sol I S σ) (g : Gd S) (hq : S.queue = []) (b M : Nat) (hb : b ≤ 12) (hM : M ≤ 1000000) (asm : List Int) (hal : asm.length ≤ 1000000) (hsr : Sr b M asm ({ S with first := 1 } : Sv).begin' 0 0) (n : Nat) (r : Sv × Int) (hr : Sv.srch asm n ({ S with first := 1 } : Sv).begin' 0 0 = some r)
    (G : Glob) (R : A → St → Prop) (h : ∀ I' σ', Sol I' r.1 σ' → Stp Any I S σ I' σ' → R (di r.2) σ') : AC Try.prog G 39 [.ref (I .st) 0, .d (isD asm)] σ R := by
  refine ac_enterC' [3, 5, 9, 11, 13, 14, 16, 25, 27, 28] mixed Try.func39 rfl Try.ntmps39 (by simp only [go_sem]) fun hbd => ?_
  simp only [List.length_cons, List.length_nil, Nat.reduceAdd, Nat.reduceSub, List.replicate_succ, List.replicate_zero, List.cons_append, List.nil_append]
  have gn := g.na
  have gl := g.nl
  simp only [go_sem, hS.live .st, hS.ob .st, ct, Try.results39]
  have hS0 : Sol I { S with first := 1 } (σ.set (I .st) (some (.cells (ct I { S with first := 1 } .st)))) := hS.put .st trivial (fun t => by cases t <;> exact Iff.rfl) (by rfl) (fun t ht => by cases t <;> first | rfl | exact absurd rfl ht)
  have hT0 : Stp Any I S σ I (σ.set (I .st) (some (.cells (ct I { S with first := 1 } .st)))) := stp_put _ .st trivial
  refine aw_cut (fun fr st => ∃ I', fr = [.ref (I .st) 0, .d (isD asm), .any, .any, .any, .any, .any, .any, .any, .any, .any, .any, .any, .any, .any, .any, .any, .any, .any, .any, .any, .any, .any, .any, .any, .any, .any, .any, .any, .any, .any, .any, .any, .any, .any, .any, .any, .any, .any, .any, .any, .any, .any, .any, .any, .any, .any, .any, .any, .any, .any, .any, .any, .any, .any, .any, .any, .any, .any, .any, .any, .any, .any, .any, .any, .any, .any, .any, .any, .any, .any, .any, .any, .any, .any, .any, .any, .any, .any, .any, .any, .any, .any, .any, .any, .any, .any, .any, .any, .any, .any, .any, .any, .any, .any, .any, .any, .any, .any, .any, .any, .any, .any, .any, .any, .any, .any, .any, .any, .any, .any, .any, .any, .any, .any, .any, .any, .any, .any, .any, .any, .any, .any, .any, .any, .any, .any, .any, .any, .any, .any, .any, .any, .any, .any, .any, .any, .any, .any, .any, .any, .any, .any, .any, .any, .any, .any, .any, .any, .any, .any, .any, .any, .any, .any, .any, .any, .any, .any, .any, .any, .any] ∧ Sol I' ({ S with first := 1 } : Sv).begin' st ∧ Stp Any I S σ I' st) ?_ ?_
  · simp only [go_sem, hS.live .st, hS.ob .st, ct, Try.results39]
    refine ac' (begin_ac (S := { S with first := 1 }) hS0 (by show S.queue.length + S.added.length + S.learned.length < _; rw [hq]; simp; omega) gn (by show S.learned.length ≤ _; omega) _ _ fun rr I' σ' h1 h2 => ?_)
    simp only [go_sem, Try.results39]
    exact Wk.mask [0, 1] ⟨I', rfl, h1, hT0.trans (fun s => by cases s <;> exact Iff.rfl) h2⟩
  clear hS0 hT0
  rintro fr st ⟨I0, rfl, hS0, hT0⟩
  have ho0 : SameOcc S ({ S with first := 1 } : Sv).begin' := by
    have g1 : Gd { S with first := 1 } := ⟨⟨g.sh.vars, g.sh.occ, g.sh.last, g.sh.truth, g.sh.reasons, g.sh.levels, g.sh.marked⟩, g.v1, g.na, g.nl, g.lits, g.ll, g.nd, g.ok, g.mem, g.low, g.hc, g.oc, g.tv, g.tn, g.tt, g.la, g.um, g.qu⟩
    obtain ⟨-, ⟨q, e⟩, -⟩ := g1.begin
    rw [e]; exact rfl
  simp only [go_sem, Try.results39]
  refine aw_loop (fun q fr st => ∃ (n' : Nat) (I' : Sl → Nat) (S' : Sv) (am nx : Nat), q = n' ∧ fr = [.ref (I .st) 0, .d (isD asm), .any, .any, .any, dn am, dn nx, .any, .any, .any, .any, .any, .any, .any, .any, .any, .any, .any, .any, .any, .any, .any, .any, .any, .any, .any, .any, .any, .any, .any, .any, .any, .any, .any, .any, .any, .any, .any, .any, .any, .any, .any, .any, .any, .any, .any, .any, .any, .any, .any, .any, .any, .any, .any, .any, .any, .any, .any, .any, .any, .any, .any, .any, .any, .any, .any, .any, .any, .any, .any, .any, .any, .any, .any, .any, .any, .any, .any, .any, .any, .any, .any, .any, .any, .any, .any, .any, .any, .any, .any, .any, .any, .any, .any, .any, .any, .any, .any, .any, .any, .any, .any, .any, .any, .any, .any, .any, .any, .any, .any, .any, .any, .any, .any, .any, .any, .any, .any, .any, .any, .any, .any, .any, .any, .any, .any, .any, .any, .any, .any, .any, .any, .any, .any, .any, .any, .any, .any, .any, .any, .any, .any, .any, .any, .any, .any, .any, .any, .any, .any, .any, .any, .any, .any, .any, .any, .any, .any, .any, .any, .any, .any] ∧ Hd b M asm r I S σ n' I' S' am nx st) n _ (Wk.mask [0, 1, 5, 6] ⟨n, I0, _, 0, 0, rfl, rfl, hS0, hT0, ho0, hsr, hr⟩) ?_
  clear hS0 hT0 ho0 hsr hr
  rintro q fr st ⟨n', I', S', am, nx, rfl, rfl, hH⟩
  have hgo := hH.go
  have hsr := hH.sr
  have hs' := hH.sol
  have hT := hH.stp
  have hO := hH.occ
  clear hH
  cases q with
  | zero => unfold Sv.srch at hgo; cases hgo
  | succ n' =>
  unfold Sv.srch at hgo
  cases hpr : S'.prop (n' + 1) with
  | none => rw [hpr] at hgo; cases hgo
  | some p =>
  obtain ⟨S1, c, ok⟩ := p
  rw [hpr] at hgo
  obtain ⟨P, hout⟩ := prop_ppg _ hpr hsr.lv.l0.gd hsr.lv.l0.tz hsr.lv.cmp hsr.lv.wt
  simp only at P hout
  have hstI := hT.st
  rw [← hstI]
  simp only [go_sem, Try.results39]
  refine aw_cut (fun fr st => fr = [.ref (I' .st) 0, .d (isD asm), .any, .any, .any, dn am, dn nx, di c, db ok, .any, .any, .any, .any, .any, .any, .any, .any, .any, .any, .any, .any, .any, .any, .any, .any, .any, .any, .any, .any, .any, .any, .any, .any, .any, .any, .any, .any, .any, .any, .any, .any, .any, .any, .any, .any, .any, .any, .any, .any, .any, .any, .any, .any, .any, .any, .any, .any, .any, .any, .any, .any, .any, .any, .any, .any, .any, .any, .any, .any, .any, .any, .any, .any, .any, .any, .any, .any, .any, .any, .any, .any, .any, .any, .any, .any, .any, .any, .any, .any, .any, .any, .any, .any, .any, .any, .any, .any, .any, .any, .any, .any, .any, .any, .any, .any, .any, .any, .any, .any, .any, .any, .any, .any, .any, .any, .any, .any, .any, .any, .any, .any, .any, .any, .any, .any, .any, .any, .any, .any, .any, .any, .any, .any, .any, .any, .any, .any, .any, .any, .any, .any, .any, .any, .any, .any, .any, .any, .any, .any, .any, .any, .any, .any, .any, .any, .any, .any, .any, .any, .any, .any, .any] ∧ ∃ I1, I1 .st = I' .st ∧ Sol I1 S1 st ∧ Stp Any I S σ I1 st ∧ SameOcc S S1) ?_ ?_
  · simp only [go_sem, Try.results39]
    refine ac' (propagate_ac hs' hsr.lv.l0.gd hsr.left (by have := hsr.q; omega) _ _ hpr _ _ fun I1 σ1 h1 h2 h3 => ?_)
    simp only [go_sem, Try.results39]
    exact Wk.mask [0, 1, 5, 6, 7, 8] ⟨rfl, I1, h2.st, h1, hT.trans hO.has h2, Eq.trans (b := S'.occ.length) h3 hO⟩
  clear hpr hs' hT hO hstI
  rintro fr st ⟨rfl, I1, hI1, hS1, hT1, hO1⟩
  rw [← hI1]
  clear hI1 I'
  rename Sl → Nat => I'
  rcases hout with ⟨rfl, rfl, hq1, hc1⟩ | ⟨rfl, hc0, hck, hcf⟩ | ⟨rfl, rfl, hl0⟩
  · -- all is quiet
    have hq := hsr.quiet P hq1 hc1
    have hS1v := hq.lv.l0.gd.v1
    have d1 : decide ((0 : Int) ≤ -1) = false := rfl
    simp only [show ¬ (0 : Int) ≤ -1 by decide, if_false] at hgo
    simp only [go_sem, d1, Try.results39]
    refine aw_cut (fun fr st' => fr = [.ref (I' .st) 0, .d (isD asm), .any, .any, .any, dn am, dn nx, .any, .any, .any, .any, .any, .any, .any, .any, .any, .any, .any, .any, .any, .any, .any, .any, .any, .any, .any, .any, .any, .any, .any, .any, .any, .any, .any, .any, .any, .any, .any, .any, .any, .any, .any, .any, .any, .any, .any, .any, .any, .any, .any, .any, .any, .any, .any, .any, .any, .any, .any, .any, .any, .any, .any, .any, .any, .any, .any, .any, .any, .any, .any, .any, .any, .any, .any, .any, .any, .any, .any, .any, .any, .any, .any, .any, .any, .any, .any, .any, .any, .any, .any, .any, .any, .any, .any, .any, .any, .any, .any, .any, .any, .any, .any, .any, .any, .any, .any, .any, .any, .any, .any, .any, .any, .any, .any, .any, .any, .any, .any, .any, .any, .any, .any, .any, .any, .any, .any, .any, .any, .any, .any, .any, .any, .any, .any, .any, .any, .any, .any, .any, .any, .any, .any, .any, .any, .any, .any, .any, .any, .any, .any, .any, .any, .any, .any, .any, .any, .any, .any, .any, .any, .any, .any] ∧ st' = st) ?_ ?_
    · simp only [go_sem, d1, Try.results39]
      exact Wk.mask [0, 1, 5, 6] ⟨rfl, rfl⟩
    rintro fr st ⟨rfl, rfl⟩
    obtain ⟨nx1, nx2, nx3, nx4⟩ := nextA_spec S1 asm nx hq.nx
    generalize hnx : S1.nextA asm nx = nx' at hgo nx1 nx2 nx3 nx4
    simp only [go_sem, Try.results39]
    have hg1 := hq.lv.l0.gd
    have htl := hg1.tlen
    refine aw_cut (fun fr st' => fr = [.ref (I' .st) 0, .d (isD asm), .any, .any, .any, dn am, dn asm.length, .any, .any, .any, .any, .any, .any, .any, .any, .any, .any, .any, .any, .any, .any, .any, .any, .any, .any, .any, .any, .any, .any, .any, .any, .any, .any, .any, .any, .any, .any, .any, .any, .any, .any, .any, .any, .any, .any, .any, .any, .any, .any, .any, .any, .any, .any, .any, .any, .any, .any, .any, .any, .any, .any, .any, .any, .any, .any, .any, .any, .any, .any, .any, .any, .any, .any, .any, .any, .any, .any, .any, .any, .any, .any, .any, .any, .any, .any, .any, .any, .any, .any, .any, .any, .any, .any, .any, .any, .any, .any, .any, .any, .any, .any, .any, .any, .any, .any, .any, .any, .any, .any, .any, .any, .any, .any, .any, .any, .any, .any, .any, .any, .any, .any, .any, .any, .any, .any, .any, .any, .any, .any, .any, .any, .any, .any, .any, .any, .any, .any, .any, .any, .any, .any, .any, .any, .any, .any, .any, .any, .any, .any, .any, .any, .any, .any, .any, .any, .any, .any, .any, .any, .any, .any, .any] ∧ nx' = asm.length ∧ st' = st) ?_ ?_
    · simp only [go_sem, Try.results39]
      refine aw_loop (fun q fr st' => ∃ j : Nat, nx ≤ j ∧ j ≤ nx' ∧ q = asm.length - j ∧ fr = [.ref (I' .st) 0, .d (isD asm), .any, .any, .any, dn am, dn j, .any, .any, .any, .any, .any, .any, .any, .any, .any, .any, .any, .any, .any, .any, .any, .any, .any, .any, .any, .any, .any, .any, .any, .any, .any, .any, .any, .any, .any, .any, .any, .any, .any, .any, .any, .any, .any, .any, .any, .any, .any, .any, .any, .any, .any, .any, .any, .any, .any, .any, .any, .any, .any, .any, .any, .any, .any, .any, .any, .any, .any, .any, .any, .any, .any, .any, .any, .any, .any, .any, .any, .any, .any, .any, .any, .any, .any, .any, .any, .any, .any, .any, .any, .any, .any, .any, .any, .any, .any, .any, .any, .any, .any, .any, .any, .any, .any, .any, .any, .any, .any, .any, .any, .any, .any, .any, .any, .any, .any, .any, .any, .any, .any, .any, .any, .any, .any, .any, .any, .any, .any, .any, .any, .any, .any, .any, .any, .any, .any, .any, .any, .any, .any, .any, .any, .any, .any, .any, .any, .any, .any, .any, .any, .any, .any, .any, .any, .any, .any, .any, .any, .any, .any, .any, .any] ∧ st' = st) (asm.length - nx) _ (Wk.mask [0, 1, 5, 6] ⟨nx, Nat.le_refl _, nx1, rfl, rfl, rfl⟩) ?_
      rintro q fr st' ⟨j, hj1, hj2, rfl, rfl, rfl⟩
      unfold isD
      rcases Nat.lt_or_ge j asm.length with hjl | hjl
      · have d2 : decide ((j : Int) < (asm.length : Int)) = true := decide_eq_true (by omega)
        have w1 := wrapS j (by omega)
        have g0 : List.getD (asm.map iD) j default = iD (asm.getD j 0) := getD_mapD hjl
        obtain ⟨hlv, hlb⟩ := hq.asv _ (getD_mem 0 hjl)
        generalize hl : asm.getD j 0 = l at g0 hlv hlb
        have hl2 := hlv
        unfold LitV at hl2
        have wn : IntKind.i64.wrap (0 - l) = -l := by rw [wrap64_id _ (by omega) (by omega)]; omega
        have c1 : code (-l) < S1.truth.length := by rw [hg1.sh.truth]; exact hlv.neg.codeLt
        have c2 : code l < S1.truth.length := by rw [hg1.sh.truth]; exact hlv.codeLt
        simp only [go_sem, d2, g0, List.length_map, Try.results39]
        refine ⟨⟨by omega, by omega⟩, ?_⟩
        refine aw_plan (.take 0 <| .tk 2 4 <| .pure 6 <| .tk 3 1 <| .tk 2 7 <| .done) (by kernel_rfl) ?_
        simp only [go_sem, wn, Try.results39]
        refine exP (dn (code (-l))) ⟨fun σ' => ?_, ?_⟩
        · simp only [go_sem, Try.results39]
          exact ac' (code_ac (-l) (hlv.neg.big hg1.sh.vars) _ _ _ ⟨rfl, rfl⟩)
        simp only [go_sem, hS1.live .st, hS1.ob .st, hS1.live .truth, hS1.ob .truth, ct, boolsA_len, boolsA_get c1, Nat.mul_one, Try.results39]
        have htrn : S1.truth.getD (code (-l)) false = S1.tr (-l) := rfl
        have htrp : S1.truth.getD (code l) false = S1.tr l := rfl
        refine ⟨⟨by omega, by omega⟩, c1, fun c => ?_, fun c => ?_⟩
        · rw [htrn] at c
          have hj : j = nx' := by
            rcases Nat.lt_or_ge j nx' with hlt | hge
            · have := (nx3 j hj1 hlt).2
              rw [hl, c] at this
              cases this
            · omega
          subst hj
          rw [if_pos hjl, hl, if_pos c, Option.some.injEq] at hgo
          subst hgo
          have hm : -l ∈ S1.trail := (hg1.tt _ hlv.neg).1 c
          refine ac' (contradict_ac hS1 hg1.sh l hlv (fun hr => ?_) (fun id ho => ⟨hg1.lits id ho, hg1.ll id ho⟩) (trail_ok hg1 hq.lv.l0.tz) (by omega) (fun hr => ?_) (by have := hq.lv.l0.sl; have := hg1.nl; omega) hg1.nl hq.lv.l0.s12 (fun d => by have := hg1.occLen d; omega) (by have := hq.lv.l0.stm; have := hg1.nl; omega) _ _ fun I2 σ2 h1 h2 => ?_)
          · obtain ⟨ho, -⟩ := contra_spec hq.lv.l0 hlv hlb hm hr
            have := okId_lt hg1.na hg1.nl ho
            exact ⟨ho, by omega⟩
          · obtain ⟨-, C⟩ := contra_spec hq.lv.l0 hlv hlb hm hr
            have := C.le
            exact ⟨fun x hx => hg1.tv x (C.sub.subset (List.mem_append_left _ (List.mem_reverse.2 hx))), by omega, C.len⟩
          · simp only [go_sem, Try.results39]
            exact ⟨_, _, Weak.refl _ _ _ _, h _ _ h1 (hT1.trans hO1.has h2)⟩
        rw [htrn] at c
        refine aw_plan (.take 0 <| .take 4 <| .pure 5 <| .tk 3 1 <| .tk 3 6 <| .done) (by kernel_rfl) ?_
        simp only [go_sem, Try.results39]
        refine exP (dn (code l)) ⟨fun σ' => ?_, ?_⟩
        · simp only [go_sem, Try.results39]
          exact ac' (code_ac l (hlv.big hg1.sh.vars) _ _ _ ⟨rfl, rfl⟩)
        simp only [go_sem, hS1.live .st, hS1.ob .st, hS1.live .truth, hS1.ob .truth, ct, boolsA_len, boolsA_get c2, Nat.mul_one, w1, Try.results39]
        refine ⟨⟨by omega, by omega⟩, c2, ?_⟩
        rw [htrp]
        have hsl4 := starts_len hq.lv.l0.tz
        have hql : S1.queue.length = 0 := by rw [hq1]; rfl
        have hol := hg1.occLen (code (-l))
        refine ⟨fun e => ?_, fun e => ?_⟩
        · have e' : S1.tr l = false := by simpa using e
          have hj : j = nx' := by
            rcases Nat.lt_or_ge j nx' with hlt | hge
            · have := (nx3 j hj1 hlt).1
              rw [hl, e'] at this
              cases this
            · omega
          subst hj
          rw [if_pos hjl, hl, if_neg (by rw [c]; simp)] at hgo
          refine ac' (decide_ac hS1 hg1.sh l hlv 1000 hg1.cb (by omega) (hg1.occOk l) (hg1.occOk (-l)) (by omega) (by omega) (by omega) hq.left _ _ fun I2 σ2 h1 h2 => ?_)
          have ho := decide_occ hg1 hlv
          have hz := decide_left (S := S1) (l := l)
          have hdl : S1.left ≠ 0 → Sr b M asm (S1.decide' l).1 (am + 1) j := fun h0 => hq.decide hq1 hlv hlb ⟨e', c⟩ h0 (by have := hq.am; omega) nx2
          have hdt : S1.left ≠ 0 → (S1.decide' l).2 = true := fun h0 => (decide_lv hq.lv hq1 hlv hlb ⟨e', c⟩ h0).1
          generalize S1.decide' l = D at hgo h1 ho hz hdl hdt ⊢
          obtain ⟨S2, bb⟩ := D
          cases bb with
          | false =>
            simp only [Option.some.injEq] at hgo
            subst hgo
            simp only [go_sem, Try.results39]
            exact ⟨_, _, Weak.refl _ _ _ _, h _ _ h1 (hT1.trans hO1.has h2)⟩
          | true =>
            have h0 : S1.left ≠ 0 := fun e => by have := hz e; cases this
            have w2 := wrapS am (by have := hq.am; omega)
            simp only at hgo hdl ho h1
            simp only [go_sem, w2, Try.results39]
            rw [hT1.st]
            exact Wk.mask [0, 1, 5, 6] ⟨n', Nat.lt_succ_self _, n', I2, S2, am + 1, j, rfl, rfl, h1, hT1.trans hO1.has h2, Eq.trans (b := S1.occ.length) ho hO1, hdl h0, hgo⟩
        · have e' : S1.tr l = true := by simpa using e
          have hj : j < nx' := by
            rcases Nat.lt_or_ge j nx' with hlt | hge
            · exact hlt
            · have hjn : j = nx' := by omega
              subst hjn
              have := nx4 hjl
              rw [hl, e', c] at this
              rcases this with h | h <;> cases h
          exact Wk.mask [0, 1, 5, 6] ⟨asm.length - (j + 1), by omega, j + 1, by omega, by omega, rfl, rfl, rfl⟩
      · obtain rfl : j = asm.length := by omega
        have d2 : decide ((asm.length : Int) < (asm.length : Int)) = false := decide_eq_false (by omega)
        simp only [go_sem, d2, List.length_map, Try.results39]
        exact Wk.mask [0, 1, 5, 6] ⟨rfl, by omega, rfl⟩
    rintro fr st ⟨rfl, hnl, rfl⟩
    subst hnl
    rw [if_neg (Nat.lt_irrefl _)] at hgo
    obtain ⟨v1, v2, hq2, v4⟩ := firstV_spec hq hq1
    obtain ⟨v5, v6, v7, v8⟩ := firstV_at S1 hq.fi.2.1
    have hgo2 : (if S1.vars < S1.firstV then some (({ S1 with first := S1.firstV } : Sv).keep, (1 : Int)) else match ({ S1 with first := S1.firstV } : Sv).decide' (-(S1.firstV : Int)) with
        | (S3, false) => some (S3, 0)
        | (S3, true) => Sv.srch asm n' S3 am asm.length) = some r := hgo
    clear hgo
    have hx1 := hq.fi.1
    generalize S1.firstV = fv at v1 v2 hq2 v4 v5 v6 v7 v8 hgo2
    have htr := hg1.sh.truth
    simp only [go_sem, Try.results39]
    refine aw_cut (fun fr st => fr = [.ref (I' .st) 0, .d (isD asm), .any, .any, .any, dn am, dn asm.length, .any, .any, .any, .any, .any, .any, .any, .any, .any, .any, .any, .any, .any, .any, .any, .any, .any, .any, .any, .any, .any, .any, .any, .any, .any, .any, .any, .any, .any, .any, .any, .any, .any, .any, .any, .any, .any, .any, .any, .any, .any, .any, .any, .any, .any, .any, .any, .any, .any, .any, .any, .any, .any, .any, .any, .any, .any, .any, .any, .any, .any, .any, .any, .any, .any, .any, .any, .any, .any, .any, .any, .any, .any, .any, .any, .any, .any, .any, .any, .any, .any, .any, .any, .any, .any, .any, .any, .any, .any, .any, .any, .any, .any, .any, .any, .any, .any, .any, .any, .any, .any, .any, .any, .any, .any, .any, .any, .any, .any, .any, .any, .any, .any, .any, .any, .any, .any, .any, .any, .any, .any, .any, .any, .any, .any, .any, .any, .any, .any, .any, .any, .any, .any, .any, .any, .any, .any, .any, .any, .any, .any, .any, .any, .any, .any, .any, .any, .any, .any, .any, .any, .any, .any, .any, .any] ∧ Sol I' { S1 with first := fv } st ∧ Stp Any I S σ I' st) ?_ ?_
    · simp only [go_sem, Try.results39]
      refine aw_loop (fun q fr st => ∃ f : Nat, S1.first ≤ f ∧ f ≤ fv ∧ q = fv - f ∧ fr = [.ref (I' .st) 0, .d (isD asm), .any, .any, .any, dn am, dn asm.length, .any, .any, .any, .any, .any, .any, .any, .any, .any, .any, .any, .any, .any, .any, .any, .any, .any, .any, .any, .any, .any, .any, .any, .any, .any, .any, .any, .any, .any, .any, .any, .any, .any, .any, .any, .any, .any, .any, .any, .any, .any, .any, .any, .any, .any, .any, .any, .any, .any, .any, .any, .any, .any, .any, .any, .any, .any, .any, .any, .any, .any, .any, .any, .any, .any, .any, .any, .any, .any, .any, .any, .any, .any, .any, .any, .any, .any, .any, .any, .any, .any, .any, .any, .any, .any, .any, .any, .any, .any, .any, .any, .any, .any, .any, .any, .any, .any, .any, .any, .any, .any, .any, .any, .any, .any, .any, .any, .any, .any, .any, .any, .any, .any, .any, .any, .any, .any, .any, .any, .any, .any, .any, .any, .any, .any, .any, .any, .any, .any, .any, .any, .any, .any, .any, .any, .any, .any, .any, .any, .any, .any, .any, .any, .any, .any, .any, .any, .any, .any, .any, .any, .any, .any, .any, .any] ∧ Sol I' { S1 with first := f } st ∧ Stp Any I S σ I' st) (fv - S1.first) _ (Wk.mask [0, 1, 5, 6] ⟨S1.first, Nat.le_refl _, v5, rfl, rfl, hS1, hT1⟩) ?_
      rintro q fr st ⟨f, hf1, hf2, rfl, rfl, hSf, hTf⟩
      have w1 : IntKind.i64.wrap (2 * (f : Int)) = ((2 * f : Nat) : Int) := by rw [wrap64_id _ (by omega) (by omega)]; omega
      have w2 := wrapS (2 * f) (by omega)
      have w3 := wrapS f (by omega)
      simp only [go_sem, Try.results39]
      refine aw_plan (.tk 36 0 <| .done) (by kernel_rfl) ?_
      obtain ⟨Sf, hSfe⟩ : ∃ Sf : Sv, Sf = { S1 with first := f } := ⟨_, rfl⟩
      rw [← hSfe] at hSf
      have a1 : Sf.vars = S1.vars := by rw [hSfe]
      have a2 : Sf.truth = S1.truth := by rw [hSfe]
      have a3 : Sf.first = f := by rw [hSfe]
      by_cases hfv : f ≤ S1.vars
      · have d6 : decide ((f : Int) ≤ (S1.vars : Int)) = true := decide_eq_true (by omega)
        have c1 : 2 * f < S1.truth.length := by omega
        have c2 : 2 * f + 1 < S1.truth.length := by omega
        simp (config := { maxSteps := 10000000 }) only [go_sem, hSf.live .st, hSf.ob .st, hSf.live .truth, hSf.ob .truth, ct, a1, a2, a3, boolsA_len, boolsA_get c1, boolsA_get c2, d6, w1, w2, w3, Nat.mul_one, Try.results39]
        have hen : decide (f < fv) = (S1.truth.getD (2 * f) false || S1.truth.getD (2 * f + 1) false) := by
          rcases Nat.lt_or_ge f fv with hlt | hge
          · rw [decide_eq_true hlt, v7 f hf1 hlt]
          · obtain rfl : f = fv := by omega
            rw [decide_eq_false (by omega), v8 hfv]
        refine ⟨⟨by omega, by omega⟩, c1, fun e => ⟨e, by omega, by omega⟩, fun e => ⟨e, c2⟩, fun e => ?_, fun e => ?_⟩
        · rw [← hen, decide_eq_true_eq] at e
          subst hSfe
          exact Wk.mask [0, 1, 5, 6] ⟨fv - (f + 1), by omega, f + 1, by omega, by omega, rfl, rfl, hSf.put .st trivial (fun t => by cases t <;> exact Iff.rfl) (by rfl) (fun t ht => by cases t <;> first | rfl | exact absurd rfl ht), hTf.trans hO1.has (stp_put _ .st trivial)⟩
        · rw [← hen, decide_eq_false_iff_not] at e
          obtain rfl : f = fv := by omega
          subst hSfe
          exact Wk.mask [0, 1, 5, 6] ⟨rfl, hSf, hTf⟩
      · have d6 : decide ((f : Int) ≤ (S1.vars : Int)) = false := decide_eq_false (by omega)
        have c9 : List.getD (boolsA S1.truth) (2 * f) .any = .any := by rw [List.getD_eq_getElem?_getD, List.getElem?_eq_none (by rw [boolsA_len]; omega)]; rfl
        have c10 : List.getD (boolsA S1.truth) (2 * f + 1) .any = .any := by rw [List.getD_eq_getElem?_getD, List.getElem?_eq_none (by rw [boolsA_len]; omega)]; rfl
        simp (config := { maxSteps := 10000000 }) only [go_sem, hSf.live .st, hSf.ob .st, hSf.live .truth, hSf.ob .truth, ct, a1, a2, a3, boolsA_len, c9, c10, d6, w1, w2, Nat.mul_one, Try.results39]
        obtain rfl : f = fv := by omega
        subst hSfe
        exact Wk.mask [0, 1, 5, 6] ⟨rfl, hSf, hTf⟩
    rintro fr st ⟨rfl, hS2, hT2⟩
    obtain ⟨S2, hS2e⟩ : ∃ S2 : Sv, S2 = { S1 with first := fv } := ⟨_, rfl⟩
    rw [← hS2e] at hS2 hq2 hgo2
    have a1 : S2.vars = S1.vars := by rw [hS2e]
    have a3 : S2.first = fv := by rw [hS2e]
    have a4 : S2.queue = [] := by rw [hS2e]; exact hq1
    have hO2 : SameOcc S S2 := by rw [hS2e]; exact hO1
    have hg2 := hq2.lv.l0.gd
    simp only [go_sem, Try.results39]
    by_cases hend : S1.vars < fv
    · have d7 : decide ((S1.vars : Int) < (fv : Int)) = true := decide_eq_true (by omega)
      rw [if_pos hend, Option.some.injEq] at hgo2
      subst hgo2
      refine aw_cut (fun fr st => False) ?_ fun fr st hF => hF.elim
      simp only [go_sem, Try.results39]
      refine aw_plan (.tk 9 0 <| .done) (by kernel_rfl) ?_
      simp only [go_sem, hS2.live .st, hS2.ob .st, ct, a1, a3, d7, Try.results39]
      refine ac' (keep_ac hS2 hg2.sh _ _ fun rr σ' h1 h2 => ?_)
      simp only [go_sem, Try.results39]
      exact ⟨_, _, Weak.refl _ _ _ _, h _ _ h1 (hT2.trans hO2.has h2)⟩
    · have d7 : decide ((S1.vars : Int) < (fv : Int)) = false := decide_eq_false (by omega)
      rw [if_neg hend] at hgo2
      obtain ⟨hlv, hlb, hfr0⟩ := v4 (by omega)
      rw [← a1] at hlv
      have hfr : Free S2 (-(fv : Int)) := by rw [hS2e]; exact hfr0
      have wn : IntKind.i64.wrap (0 - (fv : Int)) = -(fv : Int) := by rw [wrap64_id _ (by omega) (by omega)]; omega
      refine aw_cut (fun fr st' => fr = [.ref (I' .st) 0, .d (isD asm), .any, .any, .any, dn am, dn asm.length, .any, .any, .any, .any, .any, .any, .any, .any, .any, .any, .any, .any, .any, .any, .any, .any, .any, .any, .any, .any, .any, .any, .any, .any, .any, .any, .any, .any, .any, .any, .any, .any, .any, .any, .any, .any, .any, .any, .any, .any, .any, .any, .any, .any, .any, .any, .any, .any, .any, .any, .any, .any, .any, .any, .any, .any, .any, .any, .any, .any, .any, .any, .any, .any, .any, .any, .any, .any, .any, .any, .any, .any, .any, .any, .any, .any, .any, .any, .any, .any, .any, .any, .any, .any, .any, .any, .any, .any, .any, .any, .any, .any, .any, .any, .any, .any, .any, .any, .any, .any, .any, .any, .any, .any, .any, .any, .any, .any, .any, .any, .any, .any, .any, .any, .any, .any, .any, .any, .any, .any, .any, .any, .any, .any, .any, .any, .any, .any, .any, .any, .any, .any, .any, .any, .any, .any, .any, .any, .any, .any, .any, .any, .any, .any, .any, .any, .any, .any, .any, .any, .any, .any, .any, .any, .any] ∧ st' = st) ?_ ?_
      · simp only [go_sem, Try.results39]
        refine aw_plan (.tk 9 0 <| .done) (by kernel_rfl) ?_
        simp only [go_sem, hS2.live .st, hS2.ob .st, ct, a1, a3, d7, Try.results39]
        exact Wk.mask [0, 1, 5, 6] ⟨rfl, rfl⟩
      rintro fr st ⟨rfl, rfl⟩
      have hol := hg2.occLen (code (-(-(fv : Int))))
      have hsl4 := starts_len hq2.lv.l0.tz
      have htl4 := hg2.tlen
      have hvv4 := hg2.v1
      have hql : S2.queue.length = 0 := by rw [a4]; rfl
      simp only [go_sem, hS2.live .st, hS2.ob .st, ct, a1, a3, wn, Try.results39]
      refine ac' (decide_ac hS2 hg2.sh _ hlv 1000 hg2.cb (by omega) (hg2.occOk _) (hg2.occOk _) (by omega) (by omega) (by omega) hq2.left _ _ fun I2 σ2 h1 h2 => ?_)
      have ho := decide_occ hg2 hlv
      have hz := decide_left (S := S2) (l := -(fv : Int))
      have hdl : S2.left ≠ 0 → Sr b M asm (S2.decide' (-(fv : Int))).1 am asm.length := fun h0 => hq2.decide a4 hlv hlb hfr h0 (by have := hq2.am; omega) (Nat.le_refl _)
      generalize S2.decide' (-(fv : Int)) = D at hgo2 h1 ho hz hdl ⊢
      obtain ⟨S3, bb⟩ := D
      cases bb with
      | false =>
        simp only [Option.some.injEq] at hgo2
        subst hgo2
        simp only [go_sem, Try.results39]
        exact ⟨_, _, Weak.refl _ _ _ _, h _ _ h1 (hT2.trans hO2.has h2)⟩
      | true =>
        have h0 : S2.left ≠ 0 := fun e => by have := hz e; cases this
        simp only at hgo2 hdl ho h1
        simp only [go_sem, Try.results39]
        rw [hT2.st]
        exact Wk.mask [0, 1, 5, 6] ⟨n', Nat.lt_succ_self _, n', I2, S3, am, asm.length, rfl, rfl, h1, hT2.trans hO2.has h2, Eq.trans (b := S2.occ.length) ho hO2, hdl h0, hgo2⟩
  · -- a conflict
    obtain ⟨k, rfl⟩ : ∃ k : Nat, c = (k : Int) := ⟨c.toNat, by omega⟩
    rw [Int.toNat_natCast] at hck hcf
    have l1 := P.lv0 hsr.lv.l0
    have C := conflict_spec l1 hck hcf
    have hkl : k < 60000 := okId_lt l1.gd.na l1.gd.nl hck
    have d1 : decide ((0 : Int) ≤ (k : Int)) = true := decide_eq_true (by omega)
    simp only [go_sem, d1, Try.results39]
    refine aw_cut (fun fr st => False) ?_ fun fr st hF => hF.elim
    simp only [go_sem, d1, Try.results39]
    have htok := trail_ok l1.gd l1.tz
    have hlits : ∀ id, okId S1 id → (∀ l ∈ (S1.cl id).lits, LitV S1.vars l) ∧ (S1.cl id).lits.length ≤ 1000000 := fun id ho => ⟨l1.gd.lits id ho, l1.gd.ll id ho⟩
    have htl := l1.gd.tlen
    have hv1 := l1.gd.v1
    have hex := explain_ac hS1 l1.gd.sh k (by omega) hck 0 hlits htok (by omega)
    generalize hp : S1.explain k 0 = p at C hgo hex
    have hgo' := hgo
    simp only [if_pos hc0, Int.toNat_natCast, hp] at hgo
    obtain ⟨mk, dr, hr⟩ := p
    refine aw_cut (fun fr st => fr = [.ref (I' .st) 0, .d (isD asm), .any, .any, .any, dn am, dn nx, .any, .any, .d (isD dr.reverse), .d (nsD hr.reverse), .any, .any, .any, .any, .any, .any, .any, .any, .any, .any, .any, .any, .any, .any, .any, .any, .any, .any, .any, .any, .any, .any, .any, .any, .any, .any, .any, .any, .any, .any, .any, .any, .any, .any, .any, .any, .any, .any, .any, .any, .any, .any, .any, .any, .any, .any, .any, .any, .any, .any, .any, .any, .any, .any, .any, .any, .any, .any, .any, .any, .any, .any, .any, .any, .any, .any, .any, .any, .any, .any, .any, .any, .any, .any, .any, .any, .any, .any, .any, .any, .any, .any, .any, .any, .any, .any, .any, .any, .any, .any, .any, .any, .any, .any, .any, .any, .any, .any, .any, .any, .any, .any, .any, .any, .any, .any, .any, .any, .any, .any, .any, .any, .any, .any, .any, .any, .any, .any, .any, .any, .any, .any, .any, .any, .any, .any, .any, .any, .any, .any, .any, .any, .any, .any, .any, .any, .any, .any, .any, .any, .any, .any, .any, .any, .any, .any, .any, .any, .any, .any, .any] ∧ Sol I' (wm S1 mk) st ∧ Stp Any I S σ I' st) ?_ ?_
    · simp only [go_sem, Try.results39]
      refine ac' (hex _ _ fun il σ' h1 h2 h3 h4 h5 => ?_)
      simp only [go_sem, Try.results39]
      refine Wk.via ((Weak.mask [0, 1, 5, 6, 9, 10]).trans (Weak.freeze il 1 0 _ h3 (lies_ints dr.reverse))) (Wk.mask [0, 1, 5, 6, 9, 10] ⟨?_, h1.set h4 none, hT1.trans hO1.has ⟨?_, h2.st, h2.ids, fun id hid hn => ?_⟩⟩)
      · simp [frzL, A.frz, maskN, isD]
      · rw [List.length_set]; exact h2.len
      · rw [set_other (by omega)]; exact h2.keep id hid hn
    rintro fr st ⟨rfl, hS2, hT2⟩
    have l2 : Lv0 b M (wm S1 mk) := C.l0
    have hsl2 : (wm S1 mk).steps.length ≤ 20000 := by have := l2.sl; have := l2.gd.nl; omega
    have hds : dr.reverse.length ≤ 12 := by have := C.le; simp only at this; rw [List.length_reverse]; omega
    have hdv : ∀ l ∈ dr.reverse, LitV S1.vars l := fun l hl => l1.gd.tv l (C.sub.subset hl)
    have hO2 : SameOcc S (wm S1 mk) := hO1
    have hlrn := learn_ac hS2 l2.gd.sh dr.reverse hr.reverse hdv hds hsl2 l2.gd.nl l2.s12 (fun d => by have := l2.gd.occLen d; omega) (by have := l2.stm; have := l2.gd.nl; omega)
    have hoL := learn_occ (wm S1 mk) dr.reverse hr.reverse
    have hlc := learn_cases (hints := hr.reverse) l2.gd hdv l2.sl
    have hgo2 : (match (wm S1 mk).learn dr.reverse hr.reverse with
        | (S2, false) => some (S2, 0)
        | (S2, true) =>
          if dr.reverse.length = 0 ∨ S2.level (dr.reverse.getD (dr.reverse.length - 1) 0) ≤ am then some (S2.refute dr.reverse, 2)
          else
            let q := S2.backjump dr.reverse
            if q.2 < am then Sv.srch asm n' q.1 q.2 0 else Sv.srch asm n' q.1 am nx) = some r := hgo
    clear hgo hgo' hex htok hlits
    simp only [go_sem, Try.results39]
    refine aw_cut (fun fr st => fr = [.ref (I' .st) 0, .d (isD asm), .any, .any, .any, dn am, dn nx, .any, .any, .d (isD dr.reverse), .any, .any, .any, .any, .any, .any, .any, .any, .any, .any, .any, .any, .any, .any, .any, .any, .any, .any, .any, .any, .any, .any, .any, .any, .any, .any, .any, .any, .any, .any, .any, .any, .any, .any, .any, .any, .any, .any, .any, .any, .any, .any, .any, .any, .any, .any, .any, .any, .any, .any, .any, .any, .any, .any, .any, .any, .any, .any, .any, .any, .any, .any, .any, .any, .any, .any, .any, .any, .any, .any, .any, .any, .any, .any, .any, .any, .any, .any, .any, .any, .any, .any, .any, .any, .any, .any, .any, .any, .any, .any, .any, .any, .any, .any, .any, .any, .any, .any, .any, .any, .any, .any, .any, .any, .any, .any, .any, .any, .any, .any, .any, .any, .any, .any, .any, .any, .any, .any, .any, .any, .any, .any, .any, .any, .any, .any, .any, .any, .any, .any, .any, .any, .any, .any, .any, .any, .any, .any, .any, .any, .any, .any, .any, .any, .any, .any, .any, .any, .any, .any, .any, .any] ∧ ((wm S1 mk).learn dr.reverse hr.reverse).2 = true ∧ ∃ I2, I2 .st = I' .st ∧ Sol I2 ((wm S1 mk).learn dr.reverse hr.reverse).1 st ∧ Stp Any I S σ I2 st) ?_ ?_
    · simp only [go_sem, Try.results39]
      refine ac' (hlrn _ _ fun I2 σ2 h1 h2 => ?_)
      generalize (wm S1 mk).learn dr.reverse hr.reverse = L at hgo2 hlc h1
      obtain ⟨S2, bb⟩ := L
      cases bb with
      | false =>
        simp only [Option.some.injEq] at hgo2
        subst hgo2
        simp only [go_sem, Try.results39]
        exact ⟨_, _, Weak.refl _ _ _ _, h _ _ h1 (hT2.trans hO2.has h2)⟩
      | true =>
        simp only [go_sem, Try.results39]
        exact Wk.mask [0, 1, 5, 6, 9] ⟨rfl, I2, h2.st, h1, hT2.trans hO2.has h2⟩
    clear hlrn hS2 hT2
    rintro fr st ⟨rfl, hL2, I2, hI2, hS2, hT2⟩
    rw [← hI2]
    have hgL : Gd ((wm S1 mk).learn dr.reverse hr.reverse).1 ∧ ((wm S1 mk).learn dr.reverse hr.reverse).1.vars = S1.vars ∧ ((wm S1 mk).learn dr.reverse hr.reverse).1.levels = S1.levels := by
      rcases hlc with ⟨-, e⟩ | ⟨-, -, e⟩ | ⟨-, h3, -, en, -, h4, h5⟩
      · rw [e]; exact ⟨l2.gd, rfl, rfl⟩
      · rw [e] at hL2; cases hL2
      · exact ⟨en.gd l2.gd (fun l hl => by
          obtain ⟨x, hx, rfl⟩ := List.mem_map.1 hl
          exact (hdv x hx).neg) (by rw [List.length_map]; omega) (by rw [h5]; exact l2.gd.na) (by have := l2.sl; simp only [pmax] at h3; omega), en.vars, en.levels⟩
    have hO3 : SameOcc S ((wm S1 mk).learn dr.reverse hr.reverse).1 := Eq.trans (b := (wm S1 mk).occ.length) hoL hO2
    have hback := fun (i : List Int) (y : Int) (e : dr.reverse = i ++ [y]) => back_lv (S := wm S1 mk) (i := i) (y := y) hb l2 hr.reverse (by rw [← e]; exact C.sub) (fun l hl => C.dec l (by rw [← e] at hl; exact List.mem_reverse.1 hl))

    generalize hLe : (wm S1 mk).learn dr.reverse hr.reverse = L at hgo2 hlc hL2 hS2 hgL hO3 hback
    obtain ⟨S2, bb⟩ := L
    simp only at hL2
    subst hL2
    simp only at hgo2 hS2 hgL hO3 hlc
    obtain ⟨hgL, hvL, hlL⟩ := hgL
    by_cases h0 : dr.reverse.length = 0
    · rw [if_pos (Or.inl h0), Option.some.injEq] at hgo2
      subst hgo2
      have d0 : (((dr.reverse.length : Nat) : Int) == 0) = true := by rw [h0]; rfl
      simp only [go_sem, Try.results39]
      refine aw_cut (fun fr st => False) ?_ fun fr st hF => hF.elim
      unfold isD
      simp only [go_sem, d0, List.length_map, Try.results39]
      refine ex' (iD 0) ⟨fun q => Bool.noConfusion q, ?_⟩
      simp only [go_sem, d0, List.length_map, Try.results39]
      refine ac' (refute_ac hS2 dr.reverse _ _ fun σ3 h1 h2 => ?_)
      simp only [go_sem, Try.results39]
      exact ⟨_, _, Weak.refl _ _ _ _, h _ _ h1 (hT2.trans hO3.has h2)⟩
    · have d0 : (((dr.reverse.length : Nat) : Int) == 0) = false := by
        rw [beq_eq_false_iff_ne]; omega
      have w1 : IntKind.i64.wrap ((dr.reverse.length : Int) - 1) = ((dr.reverse.length - 1 : Nat) : Int) := by rw [wrap64_id _ (by omega) (by omega)]; omega
      have hlt : dr.reverse.length - 1 < dr.reverse.length := by omega
      have g0 : List.getD (dr.reverse.map iD) (dr.reverse.length - 1) default = iD (dr.reverse.getD (dr.reverse.length - 1) 0) := getD_mapD hlt
      simp only [go_sem, Try.results39]
      refine aw_cut (fun fr st' => fr = [.ref (I2 .st) 0, .d (isD asm), .any, .any, .any, dn am, dn nx, .any, .any, .d (isD dr.reverse), .any, .any, .any, .any, .any, .any, .any, .any, .any, .any, .any, .any, .any, .any, .any, .any, .any, .any, .any, .any, .any, .any, .any, .any, .any, .any, .any, .any, .any, .any, .any, .any, .any, .any, .any, .any, .any, .any, .any, .any, .any, .any, .any, .any, .any, .any, .any, .any, .any, .any, .any, .any, .any, .any, .any, .any, .any, .any, .any, .any, .any, .any, .any, .any, .any, .any, .any, .any, .any, .any, .any, .any, .any, .any, .any, .any, .any, .any, .any, .any, .any, .any, .any, .any, .any, .any, .any, .any, .any, .any, .any, .any, .any, .any, .any, .any, .any, .any, .any, .any, .any, .any, .any, .any, .any, .any, .any, .any, .any, .any, .any, .any, .any, .any, .any, .any, .any, .any, .any, .any, .any, .any, .any, .any, .any, .any, .any, .any, .any, .any, .any, .any, .any, .any, .any, .any, .any, .any, .any, .any, .any, .any, .any, .any, .any, .any, .any, .any, .any, .any, .any, .any] ∧ ¬ S2.level (dr.reverse.getD (dr.reverse.length - 1) 0) ≤ am ∧ st' = st) ?_ ?_
      · unfold isD
        simp only [go_sem, d0, w1, g0, List.length_map, Try.results39]
        have hlm : LitV S2.vars (dr.reverse.getD (dr.reverse.length - 1) 0) := by rw [hvL]; exact hdv _ (getD_mem 0 hlt)
        refine ⟨⟨by omega, by omega⟩, ex' (iD (S2.level (dr.reverse.getD (dr.reverse.length - 1) 0) : Nat)) ⟨fun q => ?_, ?_⟩⟩
        · simp only [go_sem, Try.results39]
          exact ac' (level_ac hS2 hgL.sh _ hlm _ _ ⟨rfl, rfl⟩)
        by_cases hle : S2.level (dr.reverse.getD (dr.reverse.length - 1) 0) ≤ am
        · rw [if_pos (Or.inr hle), Option.some.injEq] at hgo2
          subst hgo2
          have d4 : decide (((S2.level (dr.reverse.getD (dr.reverse.length - 1) 0) : Nat) : Int) ≤ (am : Int)) = true := decide_eq_true (by omega)
          simp only [go_sem, d4, List.length_map, Try.results39]
          refine ac' (refute_ac hS2 dr.reverse _ _ fun σ3 h1 h2 => ?_)
          simp only [go_sem, Try.results39]
          exact ⟨_, _, Weak.refl _ _ _ _, h _ _ h1 (hT2.trans hO3.has h2)⟩
        · have d4 : decide (((S2.level (dr.reverse.getD (dr.reverse.length - 1) 0) : Nat) : Int) ≤ (am : Int)) = false := decide_eq_false (by omega)
          simp only [go_sem, d4, List.length_map, Try.results39]
          exact Wk.mask [0, 1, 5, 6, 9] ⟨rfl, hle, rfl⟩
      rintro fr st ⟨rfl, hlv, rfl⟩
      rw [if_neg (by rintro (h | h); exact h0 h; exact hlv h)] at hgo2
      obtain ⟨i, y, hiy⟩ : ∃ i y, dr.reverse = i ++ [y] := by
        rcases List.eq_nil_or_concat dr.reverse with e | ⟨i, y, e⟩
        · rw [e] at h0; exact absurd rfl h0
        · exact ⟨i, y, by rw [e, List.concat_eq_append]⟩
      have hdd : ∀ l ∈ dr.reverse, IsDec (wm S1 mk) l := fun l hl => C.dec l (List.mem_reverse.1 hl)
      have hna := not_again l2 (i := i) (y := y) (by rw [← hiy]; exact C.sub) (by rw [← hiy]; exact hdd)
      rw [← hiy] at hna
      rcases hlc with ⟨e, -⟩ | ⟨-, -, e⟩ | ⟨-, hst, -, en, esteps, elen, eadd⟩
      · rw [hna] at e; cases e
      · simp only [Prod.mk.injEq] at e; exact absurd e.2 (by decide)
      obtain ⟨-, hlev, hq2, hB⟩ := hback i y hiy hst
      rw [← hiy, hLe] at hlev hq2 hB
      simp only at hlev hq2 hB en esteps elen eadd
      have hbs := back_spec l2.gd l2.tz (i := i) (y := y) (by rw [← hiy]; exact C.sub) (by rw [← hiy]; exact hdd)
      rw [← hiy] at hbs
      have hbl := hbs.lt
      have hst2 : S2.starts = (wm S1 mk).starts := en.starts
      have hq3 : S2.backLevel dr.reverse = (wm S1 mk).backLevel dr.reverse := hq2
      have hsm : (wm S1 mk).starts.getD ((wm S1 mk).backLevel dr.reverse) 0 ∈ (wm S1 mk).starts := by rw [List.getD_eq_getElem?_getD, List.getElem?_eq_getElem hbl]; exact List.getElem_mem hbl
      have hsl3 := l2.tz.sl _ hsm
      have hsl4 := starts_len l2.tz
      have htl2 := l2.gd.tlen
      have hvl2 := l2.gd.v1
      have hfi : S2.first ≤ 1000000000 := by
        rw [en.first]
        show S1.first ≤ _
        rw [P.stl.first]
        have := hsr.fi.2.1
        have := hsr.lv.l0.gd.v1
        omega
      have hnl2 := hgL.nl
      have hSr := hsr.back (mk := mk) P hbl hB
      simp only [go_sem, Try.results39]
      refine aw_cut (fun fr st => fr = [.ref (I2 .st) 0, .d (isD asm), .any, .any, .any, dn am, dn nx, .any, .any, .any, .any, dn ((wm S1 mk).backLevel dr.reverse), .any, .any, .any, .any, .any, .any, .any, .any, .any, .any, .any, .any, .any, .any, .any, .any, .any, .any, .any, .any, .any, .any, .any, .any, .any, .any, .any, .any, .any, .any, .any, .any, .any, .any, .any, .any, .any, .any, .any, .any, .any, .any, .any, .any, .any, .any, .any, .any, .any, .any, .any, .any, .any, .any, .any, .any, .any, .any, .any, .any, .any, .any, .any, .any, .any, .any, .any, .any, .any, .any, .any, .any, .any, .any, .any, .any, .any, .any, .any, .any, .any, .any, .any, .any, .any, .any, .any, .any, .any, .any, .any, .any, .any, .any, .any, .any, .any, .any, .any, .any, .any, .any, .any, .any, .any, .any, .any, .any, .any, .any, .any, .any, .any, .any, .any, .any, .any, .any, .any, .any, .any, .any, .any, .any, .any, .any, .any, .any, .any, .any, .any, .any, .any, .any, .any, .any, .any, .any, .any, .any, .any, .any, .any, .any, .any, .any, .any, .any, .any, .any] ∧ ∃ I3, Sol I3 (S2.backjump dr.reverse).1 st ∧ Stp Any I S σ I3 st) ?_ ?_
      · simp only [go_sem, Try.results39]
        refine ac' (backjump_ac hS2 hgL.sh dr.reverse (by omega) (by rw [hvL]; exact hdv) 1000 hgL.cb (by omega) (fun l hl => ⟨hgL.tv l hl, hgL.occOk l, hgL.occOk (-l)⟩) (by have := hgL.tlen; have := hgL.v1; omega) hfi (by rw [hq3, hst2]; exact hbl) (by rw [hq3, hst2]; omega) (by rw [hst2]; omega) (by omega) hnl2 _ _ fun I3 σ3 h1 h2 => ?_)
        rw [hq2]
        simp only [go_sem, Try.results39]
        exact Wk.mask [0, 1, 5, 6, 11] ⟨rfl, I3, h1, hT2.trans hO3.has h2⟩
      rintro fr st ⟨rfl, I3, hS3, hT3⟩
      have hO4 : SameOcc S (S2.backjump dr.reverse).1 := by
        have e1 := hB.lv.l0.gd.sh.occ
        have e2 := hgL.sh.occ
        show (S2.backjump dr.reverse).1.occ.length = _
        rw [e1, hB.vars]
        rw [hvL] at e2
        exact e2.symm.trans hO3
      have hIe : I2 .st = I .st := hT2.st
      rw [hIe]
      simp only [hq2] at hgo2
      by_cases hba : (wm S1 mk).backLevel dr.reverse < am
      · have d5 : decide ((((wm S1 mk).backLevel dr.reverse : Nat) : Int) < (am : Int)) = true := decide_eq_true (by omega)
        rw [if_pos hba] at hgo2
        rw [if_pos hba, if_pos hba] at hSr
        simp only [go_sem, d5, Try.results39]
        exact Wk.mask [0, 1, 5, 6] ⟨n', Nat.lt_succ_self _, n', I3, _, _, 0, rfl, rfl, hS3, hT3, hO4, hSr, hgo2⟩
      · have d5 : decide ((((wm S1 mk).backLevel dr.reverse : Nat) : Int) < (am : Int)) = false := decide_eq_false (by omega)
        rw [if_neg hba] at hgo2
        rw [if_neg hba, if_neg hba] at hSr
        simp only [go_sem, d5, Try.results39]
        exact Wk.mask [0, 1, 5, 6] ⟨n', Nat.lt_succ_self _, n', I3, _, am, nx, rfl, rfl, hS3, hT3, hO4, hSr, hgo2⟩
  · -- the fuel has ended
    simp only [Option.some.injEq] at hgo
    subst hgo
    simp only [go_sem, Try.results39]
    exact ⟨_, _, Weak.refl _ _ _ _, h _ _ hS1 hT1⟩
end Go.Proofs.Ytnanofipjiclfaa
end PartT24

section PartT19
/- What a solver tells: values, core, fuel used; a new solver; a clause added. -/
set_option linter.unusedSimpArgs false
set_option linter.unusedVariables false
set_option maxRecDepth 100000
namespace Go.Proofs.Ytnanofipjiclfaa
open Go Go.Ab
variable {I : Sl → Nat} {S : Sv} {σ : St}

theorem used_ac (hS : Sol I S σ) (G : Glob) (R : A → St → Prop) (h : R (dn S.used) σ) : AC Try.prog G 29 [.ref (I .st) 0] σ R := by
  refine ac_enter mixed Try.func29 rfl Try.ntmps29 (by simp only [go_sem]) fun hbd => ?_
  simp only [List.length_cons, List.length_nil, Nat.reduceAdd, Nat.reduceSub, List.replicate_succ, List.replicate_zero, List.cons_append, List.nil_append]
  simp only [go_sem, hS.live .st, hS.ob .st, ct, Try.results29]
  exact ret_d0 h
theorem flat_bools (l : List Bool) : flat (l.map D.bool) = boolsA l := by
  induction l with
  | nil => rfl
  | cons x l ih => simp only [List.map_cons, flat_cons, ih]; rfl
def valsM (S : Sv) : List Bool := if S.satisfied then S.values else []
def coreM (S : Sv) : List Int := if S.refuted then S.core else []
theorem values_ac (hS : Sol I S σ) (hl : S.satisfied = true → S.values.length ≤ 1000000) (G : Glob) (R : A → St → Prop) (h : R (.d (bsD (valsM S))) σ) : AC Try.prog G 28 [.ref (I .st) 0] σ R := by
  unfold valsM at h
  refine ac_enter mixed Try.func28 rfl Try.ntmps28 (by simp only [go_sem]) fun hbd => ?_
  simp only [List.length_cons, List.length_nil, Nat.reduceAdd, Nat.reduceSub, List.replicate_succ, List.replicate_zero, List.cons_append, List.nil_append]
  cases hb : S.satisfied with
  | false =>
    rw [hb] at h
    simp only [go_sem, hS.live .st, hS.ob .st, ct, hb, Try.results28]
    exact ret_imp (fun ρ w v hv => imp_nils 1 hv) (ret_bd0 h)
  | true =>
    rw [hb, if_pos rfl] at h
    have hv : valA S = .d (bsD S.values) := by unfold valA; rw [hb]; rfl
    have hl := hl hb
    unfold bsD at hv h
    simp only [go_sem, hS.live .st, hS.ob .st, ct, hb, hv, (hS.app _).live .st, (hS.app _).ob .st, Try.results28]
    rw [flat_bools, List.length_map]
    refine ⟨⟨by simp only [maxLen]; omega, by omega⟩, ret_frz 1 1 0 (S.values.map D.bool) rfl (lies_bools _) ?_⟩
    have e : A.frz (σ.length + 1) 1 0 (S.values.map D.bool) (A.rs (σ.length + 1) 1 0 S.values.length (some 4)) = .d (.sl 1 (S.values.map D.bool)) := by simp [A.frz]
    rw [e]
    exact ret_bd hbd rfl h
theorem core_ac (hS : Sol I S σ) (hl : S.refuted = true → S.core.length ≤ 1000000) (G : Glob) (R : A → St → Prop) (h : R (.d (isD (coreM S))) σ) : AC Try.prog G 16 [.ref (I .st) 0] σ R := by
  unfold coreM at h
  refine ac_enter mixed Try.func16 rfl Try.ntmps16 (by simp only [go_sem]) fun hbd => ?_
  simp only [List.length_cons, List.length_nil, Nat.reduceAdd, Nat.reduceSub, List.replicate_succ, List.replicate_zero, List.cons_append, List.nil_append]
  cases hb : S.refuted with
  | false =>
    rw [hb] at h
    simp only [go_sem, hS.live .st, hS.ob .st, ct, hb, Try.results16]
    exact ret_imp (fun ρ w v hv => imp_nils 1 hv) (ret_bd0 h)
  | true =>
    rw [hb, if_pos rfl] at h
    have hv : coreA S = .d (isD S.core) := by unfold coreA; rw [hb]; rfl
    have hl := hl hb
    unfold isD at hv h
    simp only [go_sem, hS.live .st, hS.ob .st, ct, hb, hv, (hS.app _).live .st, (hS.app _).ob .st, Try.results16]
    rw [flat_ints, List.length_map]
    refine ⟨⟨by simp only [maxLen]; omega, by omega⟩, ret_frz 1 1 0 (S.core.map iD) rfl (lies_ints _) ?_⟩
    have e : A.frz (σ.length + 1) 1 0 (S.core.map iD) (A.rs (σ.length + 1) 1 0 S.core.length (some 3)) = .d (.sl 1 (S.core.map iD)) := by simp [A.frz]
    rw [e]
    exact ret_bd hbd rfl h
theorem new_nil (n : Int) (hn : n < 0 ∨ 8000 < n) (σ : St) (G : Glob) (R : A → St → Prop) (h : R (.d .nilp) σ) : AC Try.prog G 11 [di n] σ R := by
  refine ac_enter' mixed Try.func11 rfl Try.ntmps11 (by simp only [go_sem]) fun hbd => ?_
  simp only [List.length_cons, List.length_nil, Nat.reduceAdd, Nat.reduceSub, List.replicate_succ, List.replicate_zero, List.cons_append, List.nil_append]
  by_cases h0 : n < 0
  · have d1 : decide (n < 0) = true := decide_eq_true h0
    simp only [go_sem, d1, Try.results11]
    exact ret_d0 h
  · have d1 : decide (n < 0) = false := decide_eq_false h0
    have d2 : decide (8000 < n) = true := decide_eq_true (by omega)
    simp only [go_sem, d1, d2, Try.results11]
    exact ret_d0 h
end Go.Proofs.Ytnanofipjiclfaa
end PartT19

section PartT20
/- A new solver. -/
set_option linter.unusedSimpArgs false
set_option linter.unusedVariables false
set_option maxRecDepth 100000
namespace Go.Proofs.Ytnanofipjiclfaa
open Go Go.Ab
variable {I : Sl → Nat} {S : Sv} {σ : St}

/-- Nil slices of an object become empty objects, one after the other. -/
def fillc : Nat → List A → List (Nat × Nat × Option TypeId) → List A
  | _, cs, [] => cs
  | b, cs, p :: ps => fillc (b + 1) (cs.set p.1 (.rs b p.2.1 0 0 p.2.2)) ps
theorem emptyAt {G : Glob} {n0 : Nat} {fr : Fr} {s : St} (id c sz : Nat) (ow : Option TypeId) {ds : List A} (hi : s[id]? = some (some (.cells ds))) (hc : ds[c]? = some (.d .nils)) :
    Weak G n0 fr s fr (s.set id (some (.cells (ds.set c (.rs s.length sz 0 0 ow)))) ++ [some (.cells [])]) := by
  have := Weak.emptyIn (G := G) (n0 := n0) (fr := fr) (σ := []) (l := s) id c sz ow hi hc
  simpa using this
theorem fills {G : Glob} {n0 : Nat} {fr : Fr} (id : Nat) : ∀ (ps : List (Nat × Nat × Option TypeId)) {s : St} {cs : List A}, s[id]? = some (some (.cells cs)) → (ps.map (·.1)).Nodup → (∀ p ∈ ps, cs[p.1]? = some (.d .nils)) →
    ∃ s' : St, Weak G n0 fr s fr s' ∧ s'.length = s.length + ps.length ∧ s'[id]? = some (some (.cells (fillc s.length cs ps))) ∧ (∀ j, j < s.length → j ≠ id → s'[j]? = s[j]?) ∧ ∀ k, k < ps.length → s'[s.length + k]? = some (some (.cells []))
  | [], s, cs, hi, _, _ => ⟨s, Weak.refl _ _ _ _, rfl, hi, fun _ _ _ => rfl, fun k hk => by simp at hk⟩
  | p :: ps, s, cs, hi, hn, hc => by
    have hlt := lt_of_some hi
    have h1 := emptyAt (G := G) (n0 := n0) (fr := fr) id p.1 p.2.1 p.2.2 hi (hc p (by simp))
    rw [List.map_cons, List.nodup_cons] at hn
    have hl1 : (s.set id (some (.cells (cs.set p.1 (.rs s.length p.2.1 0 0 p.2.2)))) ++ [some (Ob.cells [])]).length = s.length + 1 := by simp
    have hi1 : (s.set id (some (.cells (cs.set p.1 (.rs s.length p.2.1 0 0 p.2.2)))) ++ [some (Ob.cells [])])[id]? = some (some (.cells (cs.set p.1 (.rs s.length p.2.1 0 0 p.2.2)))) := by
      rw [List.getElem?_append_left (by simpa using hlt), set_same hi]
    have ho1 : ∀ j, j < s.length → j ≠ id → (s.set id (some (.cells (cs.set p.1 (.rs s.length p.2.1 0 0 p.2.2)))) ++ [some (Ob.cells [])])[j]? = s[j]? := fun j hj hne => by
      rw [List.getElem?_append_left (by simpa using hj), set_other (Ne.symm hne)]
    have he1 : (s.set id (some (.cells (cs.set p.1 (.rs s.length p.2.1 0 0 p.2.2)))) ++ [some (Ob.cells [])])[s.length]? = some (some (.cells [])) := by
      rw [List.getElem?_append_right (by simp)]; simp
    generalize (s.set id (some (.cells (cs.set p.1 (.rs s.length p.2.1 0 0 p.2.2)))) ++ [some (Ob.cells [])] : St) = s1 at h1 hl1 hi1 ho1 he1
    obtain ⟨s', k1, k2, k3, k4, k5⟩ := fills id ps hi1 hn.2 fun q hq => by
      have hne : p.1 ≠ q.1 := fun e => hn.1 (by rw [e]; exact List.mem_map_of_mem hq)
      rw [List.getElem?_set, if_neg hne]
      exact hc q (List.mem_cons_of_mem _ hq)
    rw [hl1] at k2 k3 k4 k5
    refine ⟨s', h1.trans k1, by rw [k2, List.length_cons]; omega, k3, fun j hj hne => (k4 j (by omega) hne).trans (ho1 j hj hne), fun k hk => ?_⟩
    cases k with
    | zero => rw [Nat.add_zero, k4 _ (by omega) (by omega), he1]
    | succ k =>
      have := k5 k (by simpa using hk)
      rw [show s.length + (k + 1) = s.length + 1 + k by omega]; exact this
theorem fillc_all (sz : Nat) (ow : Option TypeId) : ∀ (m b : Nat) (cs : List A), fillc b (cs ++ List.replicate m (.d .nils)) ((List.range' cs.length m).map fun c => (c, sz, ow)) = cs ++ (List.range m).map fun i => .rs (b + i) sz 0 0 ow
  | 0, b, cs => by simp [fillc]
  | m + 1, b, cs => by
    rw [List.range'_succ, List.map_cons, List.replicate_succ]
    have e : (cs ++ (A.d .nils) :: List.replicate m (.d .nils)).set cs.length (.rs b sz 0 0 ow) = (cs ++ [.rs b sz 0 0 ow]) ++ List.replicate m (.d .nils) := by
      rw [List.set_append_right _ _ (Nat.le_refl _), Nat.sub_self, List.set_cons_zero]; simp
    have := fillc_all sz ow m (b + 1) (cs ++ [.rs b sz 0 0 ow])
    rw [List.length_append, List.length_singleton] at this
    simp only [fillc]
    rw [e, this, List.range_succ_eq_map, List.map_cons, List.map_map, List.append_assoc]
    simp only [List.singleton_append, Nat.add_zero]
    congr 2
    apply List.map_congr_left
    intro i _
    simp only [Function.comp_apply]
    congr 1
    omega
theorem flat_rep (n : Nat) (x : A) : (List.replicate n [x]).flatten = List.replicate n x := by
  induction n with
  | zero => rfl
  | succ n ih => rw [List.replicate_succ, List.flatten_cons, ih, List.replicate_succ]; rfl
theorem rep_nats (n : Nat) : List.replicate n (A.d (.int .i64 0)) = natsA (List.replicate n 0) := by
  rw [natsA, List.map_replicate]; rfl
theorem rep_ints (n : Nat) : List.replicate n (A.d (.int .i64 0)) = intsA (List.replicate n 0) := by
  rw [intsA, List.map_replicate]
theorem rep_bools (n : Nat) : List.replicate n (A.d (.bool false)) = boolsA (List.replicate n false) := by
  rw [boolsA, List.map_replicate]
set_option maxHeartbeats 4000000 in
theorem new_ac (n : Nat) (hn : n ≤ 8000) (σ : St) (G : Glob) (R : A → St → Prop) (h : ∀ I σ', Sol I (newS n) σ' → (∀ s, has (newS n) s → σ.length ≤ I s) → (∀ k, k < σ.length → σ'[k]? = σ[k]?) → σ.length ≤ σ'.length → R (.ref (I .st) 0) σ') : AC Try.prog G 11 [dn n] σ R := by
  refine ac_enter' mixed Try.func11 rfl Try.ntmps11 (by simp only [go_sem]) fun hbd => ?_
  simp only [List.length_cons, List.length_nil, Nat.reduceAdd, Nat.reduceSub, List.replicate_succ, List.replicate_zero, List.cons_append, List.nil_append]
  have d1 : decide ((n : Int) < 0) = false := decide_eq_false (by omega)
  have d2 : decide ((8000 : Int) < (n : Int)) = false := decide_eq_false (by omega)
  have w1 : IntKind.i64.wrap (2 * (n : Int)) = 2 * (n : Int) := wrap64_id _ (by omega) (by omega)
  have w2 : IntKind.i64.wrap (2 * (n : Int) + 2) = ((2 * n + 2 : Nat) : Int) := by rw [wrap64_id _ (by omega) (by omega)]; omega
  have w3 := wrapS n (by omega)
  simp only [go_sem, d1, d2, Try.results11]
  refine aw_plan (.tk 4 0 <| .tk 3 5 <| .tk 3 9 <| .tk 2 13 <| .tk 2 16 <| .tk 2 19 <| .all [4, 8, 12, 15, 18, 21] <| .tk 3 22 <| .done) (by kernel_rfl) ?_
  simp (config := { maxSteps := 100000000 }) only [go_sem, w1, w2, w3, Try.results11]
  refine awPlan_all [⟨4, 13, fun i => .rs i 1 0 (2 * n + 2) (some 28), .cells (List.replicate (2 * n + 2) (A.d .nils))⟩, ⟨8, 17, fun i => .rs i 1 0 (2 * n + 2) (some 3), .cells (List.replicate (2 * n + 2) (A.d (.int .i64 0)))⟩, ⟨12, 21, fun i => .rs i 1 0 (2 * n + 2) (some 4), .cells (List.replicate (2 * n + 2) (A.d (.bool false)))⟩, ⟨15, 24, fun i => .rs i 1 0 (n + 1) (some 3), .cells (List.replicate (n + 1) (A.d (.int .i64 0)))⟩, ⟨18, 27, fun i => .rs i 1 0 (n + 1) (some 3), .cells (List.replicate (n + 1) (A.d (.int .i64 0)))⟩, ⟨21, 30, fun i => .rs i 1 0 (n + 1) (some 4), .cells (List.replicate (n + 1) (A.d (.bool false)))⟩] ?_ ?_
  · intro q hq
    simp only [List.mem_cons, List.not_mem_nil, or_false] at hq
    rcases hq with rfl | rfl | rfl | rfl | rfl | rfl <;> refine sp_ok rfl fun σ k hk => ?_ <;> simp only [go_sem, flat_rep] <;> exact ⟨⟨by omega, by omega, by omega, by omega⟩, hk⟩
  intro ids σ' hm
  simp only [List.foldl_cons, List.foldl_nil, spPut, go_sem]
  have hlen := hm.len
  have hnew := hm.new
  have hinj := hm.inj
  simp only [List.mem_cons, List.not_mem_nil, or_false, forall_eq_or_imp, forall_eq] at hnew hinj
  obtain ⟨⟨g1, n1⟩, ⟨g2, n2⟩, ⟨g3, n3⟩, ⟨g4, n4⟩, ⟨g5, n5⟩, ⟨g6, n6⟩⟩ := hnew
  simp only [live_of n1, live_of n2, live_of n3, live_of n4, live_of n5, live_of n6, decide_eq_true (lt_of_some n1), decide_eq_true (lt_of_some n2), decide_eq_true (lt_of_some n3), decide_eq_true (lt_of_some n4), decide_eq_true (lt_of_some n5), decide_eq_true (lt_of_some n6)]
  simp only [go_sem, Try.results11]
  have hst : (σ' ++ [some (Ob.cells [A.d D.nils, A.d (D.int IntKind.i64 0), dn n, A.d D.nils, A.d D.nils, A.rs (ids 4) 1 0 (2 * n + 2) (some 28), A.rs (ids 8) 1 0 (2 * n + 2) (some 3), A.d (D.int IntKind.i64 0), A.rs (ids 12) 1 0 (2 * n + 2) (some 4), A.d D.nils, A.rs (ids 15) 1 0 (n + 1) (some 3), A.rs (ids 18) 1 0 (n + 1) (some 3), A.d D.nils, A.rs (ids 21) 1 0 (n + 1) (some 4), A.d D.nils, A.d (D.int IntKind.i64 0), A.d (D.int IntKind.i64 0), A.d D.nils, A.d D.nils, A.d (D.bool false), A.d (D.bool false)])])[σ'.length]? = some (some (Ob.cells [A.d D.nils, A.d (D.int IntKind.i64 0), dn n, A.d D.nils, A.d D.nils, A.rs (ids 4) 1 0 (2 * n + 2) (some 28), A.rs (ids 8) 1 0 (2 * n + 2) (some 3), A.d (D.int IntKind.i64 0), A.rs (ids 12) 1 0 (2 * n + 2) (some 4), A.d D.nils, A.rs (ids 15) 1 0 (n + 1) (some 3), A.rs (ids 18) 1 0 (n + 1) (some 3), A.d D.nils, A.rs (ids 21) 1 0 (n + 1) (some 4), A.d D.nils, A.d (D.int IntKind.i64 0), A.d (D.int IntKind.i64 0), A.d D.nils, A.d D.nils, A.d (D.bool false), A.d (D.bool false)])) := by
    rw [List.getElem?_append_right (Nat.le_refl _), Nat.sub_self]; rfl
  have hold : ∀ j, j < σ'.length → (σ' ++ [some (Ob.cells [A.d D.nils, A.d (D.int IntKind.i64 0), dn n, A.d D.nils, A.d D.nils, A.rs (ids 4) 1 0 (2 * n + 2) (some 28), A.rs (ids 8) 1 0 (2 * n + 2) (some 3), A.d (D.int IntKind.i64 0), A.rs (ids 12) 1 0 (2 * n + 2) (some 4), A.d D.nils, A.rs (ids 15) 1 0 (n + 1) (some 3), A.rs (ids 18) 1 0 (n + 1) (some 3), A.d D.nils, A.rs (ids 21) 1 0 (n + 1) (some 4), A.d D.nils, A.d (D.int IntKind.i64 0), A.d (D.int IntKind.i64 0), A.d D.nils, A.d D.nils, A.d (D.bool false), A.d (D.bool false)])])[j]? = σ'[j]? := fun j hj => List.getElem?_append_left hj
  have hlen1 : (σ' ++ [some (Ob.cells [A.d D.nils, A.d (D.int IntKind.i64 0), dn n, A.d D.nils, A.d D.nils, A.rs (ids 4) 1 0 (2 * n + 2) (some 28), A.rs (ids 8) 1 0 (2 * n + 2) (some 3), A.d (D.int IntKind.i64 0), A.rs (ids 12) 1 0 (2 * n + 2) (some 4), A.d D.nils, A.rs (ids 15) 1 0 (n + 1) (some 3), A.rs (ids 18) 1 0 (n + 1) (some 3), A.d D.nils, A.rs (ids 21) 1 0 (n + 1) (some 4), A.d D.nils, A.d (D.int IntKind.i64 0), A.d (D.int IntKind.i64 0), A.d D.nils, A.d D.nils, A.d (D.bool false), A.d (D.bool false)])] : St).length = σ'.length + 1 := by simp
  generalize (σ' ++ [some (Ob.cells [A.d D.nils, A.d (D.int IntKind.i64 0), dn n, A.d D.nils, A.d D.nils, A.rs (ids 4) 1 0 (2 * n + 2) (some 28), A.rs (ids 8) 1 0 (2 * n + 2) (some 3), A.d (D.int IntKind.i64 0), A.rs (ids 12) 1 0 (2 * n + 2) (some 4), A.d D.nils, A.rs (ids 15) 1 0 (n + 1) (some 3), A.rs (ids 18) 1 0 (n + 1) (some 3), A.d D.nils, A.rs (ids 21) 1 0 (n + 1) (some 4), A.d D.nils, A.d (D.int IntKind.i64 0), A.d (D.int IntKind.i64 0), A.d D.nils, A.d D.nils, A.d (D.bool false), A.d (D.bool false)])] : St) = s0 at hst hold hlen1 ⊢
  have l1 := lt_of_some n1
  have l2 := lt_of_some n2
  have l3 := lt_of_some n3
  have l4 := lt_of_some n4
  have l5 := lt_of_some n5
  have l6 := lt_of_some n6
  obtain ⟨s1, a1, a2, a3, a4, a5⟩ := fills (G := G) (n0 := σ.length) (fr := [.ref σ'.length 0]) (ids 4) ((List.range' 0 (2 * n + 2)).map fun c => (c, 1, some 3)) (s := s0) (by rw [hold _ l1]; exact n1) (by rw [List.map_map]; simpa [Function.comp_def] using List.nodup_range') (fun p hp => by
    obtain ⟨c, hc, rfl⟩ := List.mem_map.1 hp
    rw [List.mem_range'_1] at hc
    rw [List.getElem?_replicate, if_pos (by omega)])
  have e3 := fillc_all 1 (some 3) (2 * n + 2) s0.length []
  rw [List.nil_append, List.length_nil, List.nil_append] at e3
  rw [e3] at a3
  rw [List.length_map, List.length_range'] at a2 a5
  obtain ⟨s2, b1, b2, b3, b4, b5⟩ := fills (G := G) (n0 := σ.length) (fr := [.ref σ'.length 0]) σ'.length [(0, 2, some 41), (3, 3, some 79), (4, 3, some 79), (9, 1, some 3), (12, 1, some 3), (14, 1, some 3)] (s := s1) (by rw [a4 _ (by omega) (by omega)]; exact hst) (by decide) (fun p hp => by
    simp only [List.mem_cons, List.not_mem_nil, or_false] at hp
    rcases hp with rfl | rfl | rfl | rfl | rfl | rfl <;> rfl)
  simp only [fillc, List.set_cons_zero, List.set_cons_succ, List.length_cons, List.length_nil, Nat.zero_add, Nat.reduceAdd] at b2 b3 b5
  have hq : ∀ a b, a ∈ [4, 8, 12, 15, 18, 21] → b ∈ [4, 8, 12, 15, 18, 21] → a ≠ b → ids a ≠ ids b := fun a b ha hb hne e => by
    simp only [List.mem_cons, List.not_mem_nil, or_false] at ha hb
    rcases ha with rfl | rfl | rfl | rfl | rfl | rfl <;> rcases hb with rfl | rfl | rfl | rfl | rfl | rfl <;> first | exact hne rfl | simp [e] at hinj
  have q1 := hq 4 8 (by decide) (by decide) (by decide)
  have q2 := hq 4 12 (by decide) (by decide) (by decide)
  have q3 := hq 4 15 (by decide) (by decide) (by decide)
  have q4 := hq 4 18 (by decide) (by decide) (by decide)
  have q5 := hq 4 21 (by decide) (by decide) (by decide)
  have q6 := hq 8 12 (by decide) (by decide) (by decide)
  have q7 := hq 8 15 (by decide) (by decide) (by decide)
  have q8 := hq 8 18 (by decide) (by decide) (by decide)
  have q9 := hq 8 21 (by decide) (by decide) (by decide)
  have q10 := hq 12 15 (by decide) (by decide) (by decide)
  have q11 := hq 12 18 (by decide) (by decide) (by decide)
  have q12 := hq 12 21 (by decide) (by decide) (by decide)
  have q13 := hq 15 18 (by decide) (by decide) (by decide)
  have q14 := hq 15 21 (by decide) (by decide) (by decide)
  have q15 := hq 18 21 (by decide) (by decide) (by decide)
  have hold2 : ∀ j, j < σ'.length → j ≠ ids 4 → s2[j]? = σ'[j]? := fun j hj hne => by rw [b4 _ (by omega) (by omega), a4 _ (by omega) hne, hold _ hj]
  have old := hm.old
  have hw := a1.trans b1
  clear hq hinj hst hm a1 b1 hold
  generalize ids 4 = v4, ids 8 = v8, ids 12 = v12, ids 15 = v15, ids 18 = v18, ids 21 = v21 at *
  let J : Sl → Nat := fun s => match s with
    | .st => σ'.length
    | .occ => v4
    | .last => v8
    | .truth => v12
    | .reasons => v15
    | .levels => v18
    | .marked => v21
    | .steps => s1.length
    | .added => s1.length + 1
    | .learned => s1.length + 2
    | .trail => s1.length + 3
    | .starts => s1.length + 4
    | .queue => s1.length + 5
    | .inn c => s0.length + c
  have hocc : (newS n).occ.length = 2 * n + 2 := by simp [newS]
  have hog : ∀ c, (newS n).occ.getD c [] = [] := fun c => by
    simp only [newS, List.getD_eq_getElem?_getD, List.getElem?_replicate]
    split <;> rfl
  have hsol : Sol J (newS n) s2 := by
    refine ⟨fun s hs => ?_, fun s t hs ht e => ?_⟩
    · cases s with
      | st =>
        show s2[σ'.length]? = _
        rw [b3]
        simp only [ct, newS, valA, coreA, List.length_replicate, J]
        rfl
      | occ =>
        show s2[v4]? = _
        rw [b4 _ (by omega) (by omega), a3]
        have e1 : innA J (newS n) = fun i => A.rs (s0.length + i) 1 0 0 (some 3) := by funext i; unfold innA; rw [hog]; rfl
        show _ = some (some (Ob.cells ((List.range (newS n).occ.length).map (innA J (newS n)))))
        rw [e1, hocc]
      | last => show s2[v8]? = _; rw [hold2 _ l2 (by omega), n2, rep_nats]; rfl
      | truth => show s2[v12]? = _; rw [hold2 _ l3 (by omega), n3, rep_bools]; rfl
      | reasons => show s2[v15]? = _; rw [hold2 _ l4 (by omega), n4, rep_ints]; rfl
      | levels => show s2[v18]? = _; rw [hold2 _ l5 (by omega), n5, rep_nats]; rfl
      | marked => show s2[v21]? = _; rw [hold2 _ l6 (by omega), n6, rep_bools]; rfl
      | steps => exact b5 0 (by omega)
      | added => exact b5 1 (by omega)
      | learned => exact b5 2 (by omega)
      | trail => exact b5 3 (by omega)
      | starts => exact b5 4 (by omega)
      | queue => exact b5 5 (by omega)
      | inn c =>
        have hc : c < 2 * n + 2 := by have : c < (newS n).occ.length := hs; omega
        show s2[s0.length + c]? = _
        rw [b4 _ (by omega) (by omega), a5 c hc]
        simp only [ct, hog]
        rfl
    · have hs' : ∀ c, s = .inn c → c < 2 * n + 2 := fun c e => by subst e; have : c < (newS n).occ.length := hs; omega
      have ht' : ∀ c, t = .inn c → c < 2 * n + 2 := fun c e => by subst e; have : c < (newS n).occ.length := ht; omega
      clear hs ht h hold2 a3 a4 a5 b3 b4 b5 n1 n2 n3 n4 n5 n6 hbd d1 d2 w1 w2 w3 hw old
      cases s <;> cases t <;> first
        | rfl
        | (exfalso; simp only [J] at e; omega)
        | (simp only [J] at e; have h1 := hs' _ rfl; omega)
        | (simp only [J] at e; have h1 := ht' _ rfl; omega)
        | (simp only [J] at e; congr 1; omega)
  refine ⟨_, _, hw, h J s2 hsol (fun s hs => ?_) (fun k hk => ?_) (by omega)⟩
  · cases s <;> simp only [J] <;> omega
  · rw [hold2 _ (by omega) (by omega), old k hk]
end Go.Proofs.Ytnanofipjiclfaa
end PartT20

section PartT21
/- Add. -/
set_option linter.unusedSimpArgs false
set_option linter.unusedVariables false
set_option maxRecDepth 100000
namespace Go.Proofs.Ytnanofipjiclfaa
open Go Go.Ab
variable {I : Sl → Nat} {S : Sv} {σ : St}

theorem valid_lit {S : Sv} {l : Int} : S.valid l = true ↔ LitV S.vars l := by
  unfold Sv.valid LitV
  simp only [Bool.and_eq_true, bne_iff_ne, decide_eq_true_eq]
  constructor
  · rintro ⟨⟨a, b⟩, c⟩; exact ⟨a, c, b⟩
  · rintro ⟨a, b, c⟩; exact ⟨⟨a, c⟩, b⟩
set_option maxHeartbeats 8000000 in
theorem add_ac (hS : Sol I S σ) (hs : Sh S) (c : List Int) (hn : c.length ≤ 1000000) (ha : S.added.length < 40000)
    (hocc : ∀ d, (S.occ.getD d []).length ≤ 1000000) (hstamp : S.stamp ≤ 1000000000000)
    (G : Glob) (R : A → St → Prop) (h0 : c.all S.valid = false → R (di 210) σ) (h : c.all S.valid = true → ∀ I' σ', Sol I' (S.add c) σ' → Stp Any I S σ I' σ' → R (di 0) σ') : AC Try.prog G 12 [.ref (I .st) 0, .d (isD c)] σ R := by
  have hv := hs.vars
  unfold isD
  refine ac_enterC' [9, 13] mixed Try.func12 rfl Try.ntmps12 (by simp only [go_sem]) fun hbd => ?_
  simp only [List.length_cons, List.length_nil, Nat.reduceAdd, Nat.reduceSub, List.replicate_succ, List.replicate_zero, List.cons_append, List.nil_append]
  simp only [go_sem, hS.live .st, Try.results12]
  refine aw_cut (fun fr st => c.all S.valid = true ∧ fr = [.ref (I .st) 0, .d (isD c), .any, .any, .any, .any, .any, .any, .any, .any, .any, .any, .any, .any, .any, .any, .any, .any, .any, .any, .any, .any, .any, .any, .any, .any, .any, .any, .any, .any, .any, .any, .any, .any, .any, .any, .any, .any, .any, .any, .any, .any, .any, .any, .any, .any, .any, .any, .any, .any] ∧ st = σ) ?_ ?_
  · simp only [go_sem, List.length_map, Try.results12]
    refine aw_loop (fun m fr st => ∃ j : Nat, j ≤ c.length ∧ m = c.length - j ∧ (c.take j).all S.valid = true ∧ fr = [.ref (I .st) 0, .d (isD c), .any, .any, .any, .any, .any, .any, .any, .any, .d (isD c), dn c.length, dn j, .any, .any, .any, .any, .any, .any, .any, .any, .any, .any, .any, .any, .any, .any, .any, .any, .any, .any, .any, .any, .any, .any, .any, .any, .any, .any, .any, .any, .any, .any, .any, .any, .any, .any, .any, .any, .any] ∧ st = σ) c.length _
      (Wk.mask [0, 1, 10, 11, 12] ⟨0, by omega, by omega, rfl, rfl, rfl⟩) ?_
    rintro m fr st ⟨j, hj, hm, hal, rfl, rfl⟩
    rcases Nat.lt_or_ge j c.length with hlt | hge
    · have hd : decide ((j : Int) < (c.length : Int)) = true := by simp; omega
      have w2 := wrapS j (by omega)
      have g0 : List.getD (c.map iD) j default = iD (c.getD j 0) := getD_mapD hlt
      unfold isD
      simp only [go_sem, List.length_map, hd, g0, w2, Try.results12]
      refine ⟨⟨by omega, by omega⟩, ac' (valid_ac hS hv _ _ _ ?_)⟩
      cases hvv : S.valid (c.getD j 0) with
      | true =>
        simp only [go_sem, w2, Try.results12]
        exact Wk.mask [0, 1, 10, 11, 12] ⟨c.length - (j + 1), by omega, j + 1, by omega, rfl, by rw [take_getD 0 hlt, List.all_append, hal, List.all_cons, hvv]; rfl, rfl, rfl⟩
      | false =>
        simp only [go_sem, w2, Try.results12]
        refine ret_d0 (h0 ?_)
        rw [Bool.eq_false_iff]
        intro e
        rw [List.all_eq_true] at e
        have := e _ (getD_mem 0 hlt)
        rw [hvv] at this; cases this
    · have hd : decide ((j : Int) < (c.length : Int)) = false := by simp; omega
      rw [List.take_of_length_le hge] at hal
      simp only [go_sem, hd, Try.results12]
      exact Wk.mask [0, 1] ⟨hal, rfl, rfl⟩
  rintro fr st ⟨hal, rfl, rfl⟩
  have hcv : ∀ l ∈ c, LitV S.vars l := fun l hl => valid_lit.1 (List.all_eq_true.1 hal l hl)
  have e0 : decide ((40000 : Int) ≤ (S.added.length : Int)) = false := decide_eq_false (by omega)
  unfold isD
  simp only [go_sem, hS.live .st, hS.ob .st, hS.live .added, ct, e0, List.length_map, Try.results12]
  refine ⟨by omega, ?_⟩
  refine aw_cut (fun fr s2 => fr = [.ref (I .st) 0, .any, .any, .any, .any, .any, .any, .d (isD c), .any, .any, .any, .any, .any, .any, .any, .any, .any, .any, .any, .any, .any, .any, .any, .any, .any, .any, .any, .any, .any, .any, .any, .any, .any, .any, .any, .any, .any, .any, .any, .any, .any, .any, .any, .any, .any, .any, .any, .any, .any, .any] ∧ Sol I S s2 ∧ Stp Any I S st I s2) ?_ ?_
  · rw [reps0]
    have h7 : (st ++ [some (Ob.cells (intsA (List.replicate c.length 0)))])[st.length]? = some (some (.cells (intsA (List.replicate c.length 0)))) := by rw [List.getElem?_append_right (by omega), Nat.sub_self]; rfl
    have t1 : (intsA (List.replicate c.length 0)).take 0 = [] := rfl
    have t2 : (intsA (List.replicate c.length 0)).drop c.length = [] := List.drop_of_length_le (by simp [intsA_len])
    simp only [go_sem, live_of h7, objK_of h7, List.length_map, intsA_len, List.length_replicate, flat_ints, t1, t2, Nat.mul_one, Try.results12]
    have hat : (st ++ [some (Ob.cells (intsA c))])[st.length]? = some (some (.cells (intsA c))) := by rw [List.getElem?_append_right (by omega), Nat.sub_self]; rfl
    have hne : ∀ s, has S s → I s ≠ st.length := fun s hs => by have := hS.lt s hs; omega
    refine Wk.via ((Weak.mask [0, 7]).trans (Weak.freeze st.length 1 0 (c.map iD) hat (lies_ints c))) (Wk.mask [0, 7] ⟨?_, (hS.app _).set hne none, ⟨by simp, rfl, fun _ => .inl rfl, fun k hk hn => by rw [set_other (by omega), List.getElem?_append_left hk]⟩⟩)
    simp only [go_sem, List.length_map, if_true, isD]
  clear hS
  rintro fr s2 ⟨rfl, hS1, hT1⟩
  have w3 := hS1
  have hen := enter_ac hS1 hs c hcv hn S.added.length (by omega) hocc hstamp
  have hadd : S.add c = { (S.enter c S.added.length).1 with added := (S.enter c S.added.length).1.added ++ [(S.enter c S.added.length).2] } := rfl
  have h := h hal
  rw [hadd] at h
  simp only [go_sem, Try.results12]
  refine aw_plan (.tk 2 0 <| .tk 7 5 <| .alt 2 (.alt 3 (.alt 4 (.tk 6 12 <| .done) <| .alt 12 (.take 4 <| .tk 5 13 <| .done) <| .stop) <| .alt 12 (.tk 2 3 <| .tk 5 13 <| .done) <| .stop) <| .alt 12 (.tk 3 2 <| .tk 5 13 <| .done) <| .stop) (by kernel_rfl) ?_
  simp only [go_sem, hS1.live .st, hS1.ob .st, hS1.live .added, ct, Try.results12]
  obtain ⟨la, oc, hsh, hla, hoc⟩ := enter_shape S c S.added.length
  have hle2 : (S.enter c S.added.length).1.added = S.added := by rw [hsh]
  have hso : SameOcc S (S.enter c S.added.length).1 := by unfold SameOcc; rw [hsh]; exact hoc
  generalize S.enter c S.added.length = p at hen h hle2 hso
  obtain ⟨S2, c2⟩ := p
  simp only at h hen hle2 hso
  refine ⟨⟨⟨?_, ?_⟩, ?_⟩, ?_⟩ <;>
  · refine ac' (hen _ _ fun I2 σ2 hS2 hT2 => ?_)
    have hI2 : I2 .added = I .added := (hT2.ids .added).resolve_right fun e => by obtain ⟨c, hc⟩ := e.2; cases hc
    have hI3 : I2 .st = I .st := hT2.st
    have hS3 := hS2.app [some (.cells [.d (isD c2.lits), di c2.opn, di c2.held])]
    have g := hS3.st_less .added trivial (by decide)
    have q0 : decide (I .added < σ2.length) = true := by rw [← hI2]; exact decide_eq_true (hS2.lt .added)
    have v1 := hS2.live .st
    have v2 := fun k => hS2.ob .st (k := k)
    have v3 := hS3.live .added
    have v4 := fun k => hS3.ob .added (k := k)
    have v5 := fun l => live_of (g l)
    have v6 := fun l k => objK_of (k := k) (g l)
    rw [hI3] at v1
    rw [hI2] at v3
    simp only [hI2, hI3] at v2 v4 v5 v6
    simp only [clD, go_sem, v1, v2, v3, v4, v5, v6, hI2, hle2, ct, clsA_len, Nat.mul_one, Try.results12]
    rw [← hI2, ← hI3]
    refine ⟨⟨by simp only [maxLen]; omega, by omega⟩, live_new (by simp), _, _, Weak.refl _ _ _ _, h _ _ (hS3.grow (S' := { S2 with added := S2.added ++ [c2] }) .added trivial (by decide) (σ2.length + 1) (by simp) (fun t => by cases t <;> exact Iff.rfl) ?_ ?_ fun t h1 h2 => ?_)
      (hT1.trans (fun _ => Iff.rfl) (hT2.any.trans (SameOcc.has hso) (Stp.pre (stp_grow hS3 Any .added trivial (by decide) trivial (σ2.length + 1) (by simp)))))⟩
    · simp only [ct]; rw [hle2, clsA_snoc]
    · simp only [ct, List.length_append, List.length_cons, List.length_nil, Nat.zero_add, hle2]; rfl
    · cases t <;> first | rfl | exact absurd rfl h1 | exact absurd rfl h2 | simp [ct, innA, upI]
end Go.Proofs.Ytnanofipjiclfaa
end PartT21
