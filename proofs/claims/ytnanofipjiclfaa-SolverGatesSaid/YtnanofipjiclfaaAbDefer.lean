/- A function with one deferred closure; a closure that is called as a deferred call. -/
import Derived.Test.YtnanofipjiclfaaAbAw
import Derived.RecoverIn
set_option linter.unusedSimpArgs false
set_option linter.unusedVariables false
namespace Go.Ab
open Go Go.RowKit

/-- THE CONTRACT OF A CLOSURE THAT IS CALLED AS A DEFERRED CALL: in a return, or behind a panic of a value. It lets the function return. -/
def AD (P : Program) (G : Glob) (f : FuncId) (args : List A) (rv : Option A) (σ : St) (R : St → Prop) : Prop :=
  callable P f = true ∧ ∀ ρ w vs u, Inv G ρ σ w → RepL ρ w args vs →
    (match rv with | none => u = .returning | some a => ∃ v, u = .panicking [{ v, recovered := false }] ∧ RepA ρ w a v) →
    CallsDIn (RF none) 0 P f vs.toArray u w fun e u' w' => ∃ v ρ' σ', e = .returned v ∧ settle u' = .returning ∧ Ext ρ w ρ' w' ∧ Inv G ρ' σ' w' ∧ R σ'

def defB : Code → Bool
  | .region _ ops _ => ops.toList.any fun o => match o.op with | .defer _ => true | _ => false
  | .seq a b => defB a || defB b
  | .block _ c => defB c
  | .scope c => defB c
  | _ => false
def dstB (ks : List Nat) (o : Oper) : Bool := match o.dst with | some d => !ks.contains d | none => true
def dvOps (ks : List Nat) : List Oper → Bool
  | [] => true
  | o :: rest => match o.op with | .defer _ => (o :: rest).all (dstB ks) | _ => dvOps ks rest
/-- Are these slots written nowhere from the deferring statement on? -/
def dvB (ks : List Nat) : Code → Bool
  | .region _ ops _ => dvOps ks ops.toList
  | .seq a b => bif defB a then dvB ks a && avoidsB ks b else dvB ks b
  | .block _ c => dvB ks c
  | .scope c => dvB ks c
  | _ => true

/-- A region that defers. -/
def awOpsD (P : Program) (G G' : Glob) (ops : Array Oper) (E : FuncId → List A → Fr → St → Prop) (K : FuncId → List A → Fr → Nat → Fr → St → Prop) : List Oper → Fr → St → Prop
  | [], _, _ => False
  | o :: rest, fr, σ => match o.op with
    | .defer c => match o.guard, c.callee with
      | none, .value f => match ev G fr f with
        | .fn (.func g) first cap => E g (first ++ c.args.toList.map (ev G fr) ++ cap) fr σ ∧ awOps P G' ops rest (K g (first ++ c.args.toList.map (ev G fr) ++ cap) fr σ.length) (put fr o.dst .any) σ
        | _ => False
      | _, _ => False
    | _ => match o.guard with
      | none => op1 P G σ (ev G fr) o.op fun x σ' => awOpsD P G G' ops E K rest (put fr o.dst x) σ'
      | some (j, b) => match guardB ops fr j b with
        | some c => opG P G σ (ev G fr) c o.op fun x σ' => awOpsD P G G' ops E K rest (put fr o.dst x) σ'
        | none => False
/-- CODE THAT DEFERS ONCE: QA: an end before the statement; E: what holds at the statement; QB: an end behind it. -/
def awD (P : Program) (G G' : Glob) (n0 : Nat) (tx : Md) (E : FuncId → List A → Fr → St → Prop) : Code → Pst → (FuncId → List A → Fr → Nat → Pst) → Fr → St → Prop
  | .region _ ops false, _, QB, fr, σ => awOpsD P G G' ops E (fun g as fr1 n1 => QB g as fr1 n1 .normal) ops.toList fr σ
  | .seq a b, QA, QB, fr, σ => bif defB a then
      awD P G G' n0 tx E a (fun e fr σ => match e with | .normal => False | .exit i => QA (.exit i) fr σ | .ret => QA .ret fr σ)
        (fun g as fr1 n1 e fr σ => match e with | .normal => aw P G' n1 ⟨tx.tx, tx.cuts, false⟩ b (QB g as fr1 n1) fr σ | .exit i => QB g as fr1 n1 (.exit i) fr σ | .ret => QB g as fr1 n1 .ret fr σ) fr σ
    else aw P G n0 ⟨tx.tx, tx.cuts, true⟩ a (fun e fr σ => match e with | .normal => awD P G G' n0 tx E b QA QB fr σ | .exit i => QA (.exit i) fr σ | .ret => QA .ret fr σ) fr σ
  | .block id c, QA, QB, fr, σ => awD P G G' n0 tx E c (fun e fr σ => match e with | .normal => False | .exit i => if i = id then False else QA (.exit i) fr σ | .ret => QA .ret fr σ)
      (fun g as fr1 n1 e fr σ => match e with | .normal => QB g as fr1 n1 .normal fr σ | .exit i => if i = id then QB g as fr1 n1 .normal fr σ else QB g as fr1 n1 (.exit i) fr σ | .ret => QB g as fr1 n1 .ret fr σ) fr σ
  | .scope c, QA, QB, fr, σ => awD P G G' n0 tx E c QA QB fr σ
  | _, _, _, _, _ => False

section
variable {P : Program} {ρ ρ' : Ren} {w w' : World} {σ : St} {G G' : Glob}

def DefR (ρ : Ren) (w : World) (d : Deferred) (g : FuncId) (as : List A) : Prop := ∃ vs us : List Value, d = { target := .fn (.func g) us.toArray, args := vs.toArray } ∧ RepL ρ w as (vs ++ us)
def keepOf (ks : List Nat) (t : Array Value) : List (Nat × Value) := ks.filterMap fun k => (t[k]?).map fun v => (k, v)
theorem keepOf_mem {ks : List Nat} {t : Array Value} {p : Nat × Value} (h : p ∈ keepOf ks t) : p.1 ∈ ks ∧ t[p.1]? = some p.2 := by
  simp only [keepOf, List.mem_filterMap, Option.map_eq_some_iff] at h
  obtain ⟨k, h1, v, h2, rfl⟩ := h
  exact ⟨h1, h2⟩
theorem dstB_ok {ks : List Nat} {t : Array Value} {o : Oper} {B : Nat} {T : List Deferred} {m : Bool} (h : dstB ks o = true) : okDst ⟨B, T, m, keepOf ks t⟩ o.dst := fun d hd p hp e => by
  simp only [dstB, hd, Bool.not_eq_true', List.contains_eq_mem, decide_eq_false_iff_not] at h
  exact h (e ▸ (keepOf_mem hp).1)
theorem avoids_sub {ks ks' : List Nat} (hs : ∀ k ∈ ks', k ∈ ks) (c : Code) (h : avoidsB ks c = true) : avoidsB ks' c = true := by
  induction c with
  | region id ops d =>
    simp only [avoidsB, List.all_eq_true] at h ⊢
    intro o ho
    have := h o ho
    split
    · rename_i t ht
      rw [ht] at this
      simp only [Bool.not_eq_true', List.contains_eq_mem, decide_eq_false_iff_not] at this ⊢
      exact fun hm => this (hs _ hm)
    · rfl
  | seq a b iha ihb => simp only [avoidsB, Bool.and_eq_true] at h ⊢; exact ⟨iha h.1, ihb h.2⟩
  | cond c a b iha ihb => simp only [avoidsB, Bool.and_eq_true] at h ⊢; exact ⟨iha h.1, ihb h.2⟩
  | block id c ih => exact ih h
  | loop c ih => exact ih h
  | scope c ih => exact ih h
  | _ => rfl
theorem avoids_keep {ks : List Nat} {t : Array Value} {c : Code} (h : avoidsB ks c = true) : avoidsB ((keepOf ks t).map (·.1)) c = true := avoids_sub (fun k hk => by
  obtain ⟨p, hp, rfl⟩ := List.mem_map.1 hk
  exact (keepOf_mem hp).1) c h

def pre (B : Nat) : Df := ⟨B, [], false, []⟩
/-- What stands behind code that defers. -/
def BehindD (G G' : Glob) (ks : List Nat) (E : FuncId → List A → Fr → St → Prop) (ρ0 : Ren) (w0 : World) (QA : Pst) (QB : FuncId → List A → Fr → Nat → Pst) : Exit → Act → World → Prop := fun e a w =>
  Behind G (pre w0.heap.size) ρ0 w0 QA e a w ∨
  ∃ d g as fr1 ρ1 σ1 w1 t1, Ext ρ0 w0 ρ1 w1 ∧ Inv G' ρ1 σ1 w1 ∧ DefR ρ1 w1 d g as ∧ RepL ρ1 w1 fr1 t1.toList ∧ E g as fr1 σ1 ∧
    Behind G' ⟨w1.heap.size, [d], true, keepOf ks t1⟩ ρ1 w1 (QB g as fr1 σ1.length) e a w

theorem wp_of_defer {o : Oper} {c : Call} {a : Act} {d : Deferred} {K : Act → World → Prop} {Q : Exit → Act → World → Prop} (ho : o.op = .defer c) (hr : (resolve a.eval c o.type).run P w = .ok d w)
    (hK : K ({ a with defers := d :: a.defers }.put o.dst undef) w) : o.wpIn (RF none) 0 P a w K Q := by
  refine ⟨fun _ _ => trivial, ?_⟩
  have he : (o.semAt (RF none).round a.eval).run P w = .ok (.defer d) w := by
    show (o.semAt none a.eval).run P w = _
    rw [Oper.semAt_none]
    simp [execOp, ho, hr]
  rw [he]; exact hK
theorem awOpsD_sound {ks : List Nat} {E : FuncId → List A → Fr → St → Prop} {QA : Pst} {QB : FuncId → List A → Fr → Nat → Pst} {ρ0 : Ren} {w0 : World} (hg : G'.g = G.g) {ops : Array Oper} : ∀ (l : List Oper) {fr : Fr} {σ : St} {ρ : Ren} {w : World} {a : Act}, dvOps ks l = true →
    Ext ρ0 w0 ρ w → Inv G ρ σ w → HoldsF (pre w0.heap.size) ρ w fr a → awOpsD P G G' ops E (fun g as fr1 n1 => QB g as fr1 n1 .normal) l fr σ → wpListIn (RF none) 0 P ops (BehindD G G' ks E ρ0 w0 QA QB) l a w
  | [], fr, σ, ρ, w, a, _, _, _, _, h => h.elim
  | o :: rest, fr, σ, ρ, w, a, hdv, hx, hI, hF, h => by
    have hP : PQ G ρ w a (BehindD G G' ks E ρ0 w0 QA QB) := fun chain w' hp => .inl ⟨hp.pre hx, hp.dfs hI hF.1⟩
    have hok : ∀ o : Oper, okDst (pre w0.heap.size) o.dst := fun o d _ p hp => by cases hp
    unfold awOpsD at h
    split at h
    · rename_i c ho
      split at h
      · rename_i f hgd hc
        have hev := ev_rep hI hF f
        split at h
        · rename_i g first cap hf
          rw [hf] at hev
          obtain ⟨hE, h⟩ := h
          generalize hv : a.eval f = u at hev
          cases hev with
          | fn _ _ _ vs us l1 l2 r1 r2 =>
          simp only [dvOps, ho] at hdv
          rw [List.all_eq_true] at hdv
          obtain ⟨d, hd⟩ : ∃ d : Deferred, d = { target := .fn (.func g) us.toArray, args := (vs ++ c.args.toList.map a.eval).toArray } := ⟨_, rfl⟩
          refine wpListIn_plain hgd fun K' hK' => wp_of_defer (d := d) ho ?_ (hK' _ _ ?_)
          · rw [hd]; simp [resolve, hc, Deferred.ofValue, hv, args_arr]
          · obtain ⟨⟨⟨ms, h1, h2, h3⟩, -⟩, hL⟩ := hF
            have hms : a.defers = [] := by rw [h1, h3 rfl]; rfl
            have hI' : Inv G' ρ σ w := hI.turn hg
            have hF' : HoldsF ⟨w.heap.size, [d], true, keepOf ks a.tmps⟩ ρ w (put fr o.dst .any) ({ a with defers := d :: a.defers }.put o.dst undef) :=
              HoldsF.put (fr := fr) (a := { a with defers := d :: a.defers }) ⟨⟨⟨[], by simp only [hms]; rfl, trivial, fun _ => rfl⟩, fun p hp => (keepOf_mem hp).2⟩, hL⟩ o.dst (dstB_ok (hdv o (List.mem_cons_self ..))) (.any _)
            have hDR : DefR ρ w d g (first ++ c.args.toList.map (ev G fr) ++ cap) := ⟨_, _, hd, repL_append (repL_append ⟨l1, r1⟩ (map_rep (fun x => ev_rep hI (b := pre w0.heap.size) ⟨⟨⟨ms, h1, h2, h3⟩, fun p hp => by cases hp⟩, hL⟩ x) _)) ⟨l2, r2⟩⟩
            refine awOps_sound rest (fun o' ho' => dstB_ok (hdv o' (List.mem_cons_of_mem _ ho'))) hI' hF' h (fun ρ' σ' a' w' h1 h2 h3 chain w'' hp => .inr ⟨d, g, _, fr, ρ, σ, w, a.tmps, hx, hI', hDR, hL, hE, hp.pre h1, hp.dfs h2 h3⟩) ?_
            exact fun fr' σ' ρ' a' w' k1 k2 k3 k4 => .inr ⟨d, g, _, fr, ρ, σ, w, a.tmps, hx, hI', hDR, hL, hE, fr', σ', ρ', k1, k2, k3, k4⟩
        · exact h.elim
      · exact h.elim
    · rename_i hnd
      have hdv' : dvOps ks rest = true := by
        unfold dvOps at hdv
        split at hdv
        · rename_i c hc; exact (hnd c hc).elim
        · exact hdv
      split at h
      · rename_i hgd
        refine wpListIn_plain hgd fun K' hK' => ?_
        refine op1_sound hI hF h hP fun a' w' ⟨x, v, ρ', σ', e, hx', hI', hr, hk⟩ => hK' _ _ ?_
        subst e
        exact awOpsD_sound hg rest hdv' (hx.trans hx') hI' ((hF.ext hI hx').put o.dst (hok o) hr) hk
      · rename_i j b hgd
        split at h
        · rename_i c hc
          refine wpListIn_step fun K' hK' => ?_
          refine opG_sound hI hF (guardB_sound hF hgd hc) h hP fun a' w' ⟨x, v, ρ', σ', e, hx', hI', hr, hk⟩ => hK' _ _ ?_
          subst e
          exact awOpsD_sound hg rest hdv' (hx.trans hx') hI' ((hF.ext hI hx').put o.dst (hok o) hr) hk
        · exact h.elim
theorem awD_sound (hm : P.follows .mixedOrders = true) (hg : G'.g = G.g) {ks : List Nat} {E : FuncId → List A → Fr → St → Prop} {n0 : Nat} {tx : Md} {ρ0 : Ren} {w0 : World} (h0 : ρ0.length = n0) : ∀ (c : Code) {QA : Pst} {QB : FuncId → List A → Fr → Nat → Pst} {fr : Fr} {σ : St} {ρ : Ren} {w : World} {a : Act},
    (!tx.tx || lexCode c) = true → dvB ks c = true → Ext ρ0 w0 ρ w → Inv G ρ σ w → HoldsF (pre w0.heap.size) ρ w fr a → awD P G G' n0 tx E c QA QB fr σ → c.wpIn (RF none) 0 P (BehindD G G' ks E ρ0 w0 QA QB) a w
  | .region id ops false, QA, QB, fr, σ, ρ, w, a, hc, hdv, hx, hI, hF, h => wpIn_region_list (awOpsD_sound hg ops.toList hdv hx hI hF h)
  | .seq c d, QA, QB, fr, σ, ρ, w, a, hc, hdv, hx, hI, hF, h => by
    have hl1 : (!tx.tx || lexCode c) = true := by revert hc; simp only [lexCode]; cases tx.tx <;> simp +contextual
    have hl2 : (!tx.tx || lexCode d) = true := by revert hc; simp only [lexCode]; cases tx.tx <;> simp +contextual
    simp only [awD] at h
    simp only [dvB] at hdv
    cases hd : defB c with
    | true =>
      rw [hd, cond_true] at h hdv
      rw [Bool.and_eq_true] at hdv
      refine wpIn_seq (wpIn_mono (awD_sound hm hg h0 c hl1 hdv.1 hx hI hF h) fun e a' w' hq => ?_)
      rcases hq with hq | ⟨dd, g, as, fr1, ρ1, σ1, w1, t1, k1, k2, k3, k4, k5, hq⟩
      · cases e with
        | normal => obtain ⟨_, _, _, _, _, _, h⟩ := hq; exact h.elim
        | _ => exact .inl hq
      · cases e with
        | normal =>
          obtain ⟨fr', σ', ρ', h1, h2, h3, h4⟩ := hq
          exact wpIn_mono (aw_sound hm d (tx := ⟨tx.tx, tx.cuts, false⟩) (rn := none) k2.len rfl (fun _ => ⟨rfl, rfl⟩) hl2 (avoids_keep hdv.2) h1 h2 h3 h4) fun e a' w' hq => .inr ⟨dd, g, as, fr1, ρ1, σ1, w1, t1, k1, k2, k3, k4, k5, hq⟩
        | _ => exact .inr ⟨dd, g, as, fr1, ρ1, σ1, w1, t1, k1, k2, k3, k4, k5, hq⟩
    | false =>
      rw [hd, cond_false] at h hdv
      refine wpIn_seq (wpIn_mono (aw_sound hm c (tx := ⟨tx.tx, tx.cuts, true⟩) (rn := none) (b := pre w0.heap.size) h0 rfl (fun h => by cases h) hl1 (avoids_nil _) hx hI hF h) fun e a' w' hq => ?_)
      cases e with
      | normal => obtain ⟨fr', σ', ρ', h1, h2, h3, h4⟩ := hq; exact awD_sound hm hg h0 d hl2 hdv h1 h2 h3 h4
      | _ => exact .inl hq
  | .block id c, QA, QB, fr, σ, ρ, w, a, hc, hdv, hx, hI, hF, h => by
    simp only [awD] at h
    refine wpIn_block (wpIn_mono (awD_sound hm hg h0 c (by revert hc; cases tx.tx <;> simp +contextual [lexCode]) hdv hx hI hF h) fun e a' w' hq => ?_)
    rcases hq with hq | ⟨dd, g, as, fr1, ρ1, σ1, w1, t1, k1, k2, k3, k4, k5, hq⟩
    · cases e with
      | normal => obtain ⟨_, _, _, _, _, _, h⟩ := hq; exact h.elim
      | exit i =>
        obtain ⟨fr', σ', ρ', h1, h2, h3, h4⟩ := hq
        simp only [Exit.inBlock]
        simp only at h4
        by_cases hi : i = id
        · rw [if_pos hi] at h4; exact h4.elim
        · rw [if_neg hi] at h4 ⊢; exact .inl ⟨fr', σ', ρ', h1, h2, h3, h4⟩
      | _ => exact .inl hq
    · cases e with
      | exit i =>
        obtain ⟨fr', σ', ρ', h1, h2, h3, h4⟩ := hq
        simp only [Exit.inBlock]
        simp only at h4
        by_cases hi : i = id
        · rw [if_pos hi] at h4 ⊢; exact .inr ⟨dd, g, as, fr1, ρ1, σ1, w1, t1, k1, k2, k3, k4, k5, fr', σ', ρ', h1, h2, h3, h4⟩
        · rw [if_neg hi] at h4 ⊢; exact .inr ⟨dd, g, as, fr1, ρ1, σ1, w1, t1, k1, k2, k3, k4, k5, fr', σ', ρ', h1, h2, h3, h4⟩
      | _ => exact .inr ⟨dd, g, as, fr1, ρ1, σ1, w1, t1, k1, k2, k3, k4, k5, hq⟩
  | .scope c, QA, QB, fr, σ, ρ, w, a, hc, hdv, hx, hI, hF, h => by
    simp only [awD] at h
    refine wpIn_scope_straight (wpIn_mono (awD_sound hm hg h0 c (by revert hc; cases tx.tx <;> simp +contextual [lexCode]) hdv hx hI hF h) fun e a' w' hq => ?_)
    cases e with
    | goto l => rcases hq with hq | ⟨_, _, _, _, _, _, _, _, _, _, _, _, _, hq⟩ <;> exact hq.elim
    | _ => exact hq

/-- One deferred closure, at the door. -/
theorem AD.leaves {fn : Func} {Q : Ending → World → Prop} {tmps : Array Value} {d : Deferred} {g : FuncId} {as : List A} {rv : Option A} {R : St → Prop} {u : FrameMode} (hu : u ≠ .run) (hI : Inv G ρ σ w) (hd : DefR ρ w d g as)
    (hr : match rv with | none => u = .returning | some a => ∃ v, u = .panicking [{ v, recovered := false }] ∧ RepA ρ w a v) (h : AD P G g as rv σ R)
    (hk : ∀ ρ' σ' w', Ext ρ w ρ' w' → Inv G ρ' σ' w' → R σ' → LeavesInM (RF none) 0 P fn tmps Q [] .returning w') : LeavesInM (RF none) 0 P fn tmps Q [d] u w := by
  obtain ⟨vs, us, rfl, hL⟩ := hd
  obtain ⟨hcall, h⟩ := h
  refine ⟨hu, .inr ⟨(fun h => by cases h), .func g, us.toArray, g, (vs ++ us).toArray, rfl, ?_, fun _ _ => trivial, ?_⟩⟩
  · have : (callFunc g (vs ++ us).toArray).run P w = .ok (.enter g (vs ++ us).toArray) w := by
      unfold callable at hcall
      split at hcall
      · rename_i fn hfn
        simp only [Bool.and_eq_true, bne_iff_ne, ne_eq] at hcall
        obtain ⟨hn, hb⟩ := hcall
        have hbn : ¬ fn.body = none := by intro hb'; rw [hb'] at hb; simp at hb
        simp [callFunc, hfn, hn, hbn]
      · cases hcall
    simpa [invoke] using this
  · refine CallsDIn.mono (h ρ w (vs ++ us) u hI hL hr) ?_
    rintro e u' w' ⟨v, ρ', σ', rfl, h1, h2, h3, h4⟩
    simp only [h1]
    exact hk ρ' σ' w' h2 h3 h4
theorem DefR.ext {d : Deferred} {g : FuncId} {as : List A} (h : DefR ρ w d g as) (hx : Ext ρ w ρ' w') : DefR ρ' w' d g as := by
  obtain ⟨vs, us, e, hL⟩ := h
  exact ⟨vs, us, e, hL.ext hx⟩
/-- An end behind the deferring statement: the closure runs, then the results are read. -/
def endD (P : Program) (G G' : Glob) (n0 : Nat) (fn : Func) (R : A → St → Prop) (g : FuncId) (as : List A) (_ : Fr) (_ : Nat) : Pst
  | .exit _, _, _ => False
  | _, fr, σ => AD P G' g as none σ fun σ2 => RetOK P G n0 fn R fr σ2
end
end Go.Ab
