/- Code over abstract frames and stores: what it comes to, and that it does; the rule that enters a function. -/
import Derived.Test.YtpmjdaiboniagaaAbDraw
import Derived.Scope
namespace Go.Ab
open Go Go.RowKit

/-- One frame and store may be taken for another: less is known of the second. n0: the objects that were there when the function began. -/
def Weak (G : Glob) (n0 : Nat) (fr : Fr) (σ : St) (fr' : Fr) (σ' : St) : Prop :=
  ∀ ρ0 w0 ρ w vs, ρ0.length = n0 → Ext ρ0 w0 ρ w → Inv G ρ σ w → RepL ρ w fr vs → ∃ ρ', Ext ρ0 w0 ρ' w ∧ Inv G ρ' σ' w ∧ RepL ρ' w fr' vs
def Wk (G : Glob) (n0 : Nat) (I : Fr → St → Prop) (fr : Fr) (σ : St) : Prop := ∃ fr' σ', Weak G n0 fr σ fr' σ' ∧ I fr' σ'
theorem Weak.refl (G : Glob) (n0 : Nat) (fr : Fr) (σ : St) : Weak G n0 fr σ fr σ := fun _ _ ρ _ _ _ hx hI hr => ⟨ρ, hx, hI, hr⟩
theorem Weak.trans {G : Glob} {n0 : Nat} {f f' f'' : Fr} {s s' s'' : St} (h : Weak G n0 f s f' s') (k : Weak G n0 f' s' f'' s'') : Weak G n0 f s f'' s'' := fun ρ0 w0 ρ w vs h0 hx hI hr =>
  let ⟨ρ', a, b, c⟩ := h ρ0 w0 ρ w vs h0 hx hI hr
  k ρ0 w0 ρ' w vs h0 a b c

section
variable (P : Program) (G : Glob)
def condA (a : A) (t e : Prop) : Prop := match a with
  | .d (.bool x) => (x = true → t) ∧ (x = false → e)
  | _ => False
/-- How a function is gone through: are the drawn regions taken in the text's order? before which regions is the proof cut? -/
structure Md where
  tx : Bool
  cuts : List Nat
/-- The region that code begins with. -/
def headId : Code → Option Nat
  | .region id _ _ => some id
  | .seq a _ => headId a
  | .block _ c => headId c
  | .loop c => headId c
  | .scope c => headId c
  | _ => none
def cutB (l : List Nat) (c : Code) : Bool := match l with
  | [] => false
  | x :: r => (match headId c with | some id => id == x || r.contains id | none => false)
/-- CODE. -/
def aw (n0 : Nat) (tx : Md) : Code → Pst → Fr → St → Prop
  | .skip, Q, fr, σ => Q .normal fr σ
  | .region _ ops false, Q, fr, σ => awOps P G ops ops.toList (Q .normal) fr σ
  | .region _ ops true, Q, fr, σ => bif tx.tx then awOps P G ops ops.toList (Q .normal) fr σ else ∃ p : Plan, p.depth ≤ ops.size ∧ p.check (infsOf ops) false 0 = true ∧ awPlan P G ops (Q .normal) p fr σ
  | .seq a b, Q, fr, σ => bif cutB tx.cuts b then
      ∃ I : Fr → St → Prop, aw n0 tx a (fun e fr σ => match e with | .normal => Wk G n0 I fr σ | .exit i => Q (.exit i) fr σ | .ret => Q .ret fr σ) fr σ ∧ ∀ fr σ, I fr σ → aw n0 tx b Q fr σ
    else aw n0 tx a (fun e fr σ => match e with | .normal => aw n0 tx b Q fr σ | .exit i => Q (.exit i) fr σ | .ret => Q .ret fr σ) fr σ
  | .cond c t e, Q, fr, σ => condA (ev G fr c) (aw n0 tx t Q fr σ) (aw n0 tx e Q fr σ)
  | .block id c, Q, fr, σ => aw n0 tx c (fun e fr σ => match e with | .normal => Q .normal fr σ | .exit i => if i = id then Q .normal fr σ else Q (.exit i) fr σ | .ret => Q .ret fr σ) fr σ
  | .loop c, Q, fr, σ => ∃ (I : Nat → Fr → St → Prop) (m0 : Nat), Wk G n0 (I m0) fr σ ∧ ∀ m fr σ, I m fr σ →
      aw n0 tx c (fun e fr' σ' => match e with | .normal => Wk G n0 (fun f s => ∃ m', m' < m ∧ I m' f s) fr' σ' | .exit i => Q (.exit i) fr' σ' | .ret => Q .ret fr' σ') fr σ
  | .exit id, Q, fr, σ => Q (.exit id) fr σ
  | .ret, Q, fr, σ => Q .ret fr σ
  | .label _, Q, fr, σ => Q .normal fr σ
  | .scope c, Q, fr, σ => aw n0 tx c Q fr σ
  | _, _, _, _ => False
end

section
variable {P : Program} {ρ ρ' : Ren} {w w' : World} {σ : St} {G : Glob}

/-- What stands behind code, seen from where the function began. -/
def Behind (G : Glob) (ρ0 : Ren) (w0 : World) (Q : Pst) : Exit → Act → World → Prop
  | .normal, a, w => ∃ fr σ ρ, Ext ρ0 w0 ρ w ∧ Inv G ρ σ w ∧ HoldsF ρ w fr a ∧ Q .normal fr σ
  | .exit i, a, w => ∃ fr σ ρ, Ext ρ0 w0 ρ w ∧ Inv G ρ σ w ∧ HoldsF ρ w fr a ∧ Q (.exit i) fr σ
  | .ret, a, w => ∃ fr σ ρ, Ext ρ0 w0 ρ w ∧ Inv G ρ σ w ∧ HoldsF ρ w fr a ∧ Q .ret fr σ
  | _, _, _ => False

theorem aw_sound (hm : P.follows .mixedOrders = true) {ρ0 : Ren} {w0 : World} {n0 : Nat} (h0 : ρ0.length = n0) {tx : Md} : ∀ (c : Code) (_ : (!tx.tx || lexCode c) = true) {Q : Pst} {fr : Fr} {σ : St} {ρ : Ren} {w : World} {a : Act}, Ext ρ0 w0 ρ w → Inv G ρ σ w → HoldsF ρ w fr a → aw P G n0 tx c Q fr σ →
    c.wp P (Behind G ρ0 w0 Q) a w
  | .skip, hc, Q, fr, σ, ρ, w, a, hx, hI, hF, h => wp_skip ⟨fr, σ, ρ, hx, hI, hF, h⟩
  | .region id ops false, hc, Q, fr, σ, ρ, w, a, hx, hI, hF, h => by
    simp only [aw] at h
    exact wp_region_list (awOps_sound ops.toList hI hF h fun fr' σ' ρ' a' w' h1 h2 h3 h4 => ⟨fr', σ', ρ', hx.trans h1, h2, h3, h4⟩)
  | .region id ops true, hc, Q, fr, σ, ρ, w, a, hx, hI, hF, h => by
    simp only [aw] at h
    have fin : ∀ p : Plan, p.depth ≤ ops.size → p.check (infsOf ops) false 0 = true → awPlan P G ops (Q .normal) p fr σ → (Code.region id ops true).wp P (Behind G ρ0 w0 Q) a w := fun p h1 h2 h3 =>
      draw_sound hm p h1 h2 hI hF h3 fun fr' σ' ρ' a' w' k1 k2 k3 k4 => ⟨fr', σ', ρ', hx.trans k1, k2, k3, k4⟩
    obtain ⟨tx, cuts⟩ := tx
    cases tx with
    | true =>
      simp only [lexCode, textB, textM, infsOf, List.length_map, Array.length_toList, Bool.not_true, Bool.false_or] at hc
      exact fin _ (by rw [text_depth]; exact Nat.le_refl _) hc (by have := text_plan (P := P) (G := G) ops.toList 0 (by simp) h; simpa using this)
    | false => obtain ⟨p, h1, h2, h3⟩ := h; exact fin p h1 h2 h3
  | .seq c d, hc, Q, fr, σ, ρ, w, a, hx, hI, hF, h => by
    simp only [aw] at h
    have hl1 : (!tx.tx || lexCode c) = true := by revert hc; simp only [lexCode]; cases tx.tx <;> simp +contextual
    have hl2 : (!tx.tx || lexCode d) = true := by revert hc; simp only [lexCode]; cases tx.tx <;> simp +contextual
    cases hcut : cutB tx.cuts d with
    | true =>
      rw [hcut, cond_true] at h
      obtain ⟨I, ha, hb⟩ := h
      refine wp_seq (wp_mono (aw_sound hm h0 c hl1 hx hI hF ha) fun e a' w' hq => ?_)
      cases e with
      | normal =>
        obtain ⟨fr', σ', ρ', h1, h2, h3, fr2, σ2, hw, hI2⟩ := hq
        obtain ⟨ρ2, r1, r2, r3⟩ := hw ρ0 w0 ρ' w' _ h0 h1 h2 h3.2
        exact aw_sound hm h0 d hl2 r1 r2 ⟨h3.1, r3⟩ (hb _ _ hI2)
      | exit i => exact hq
      | ret => exact hq
      | goto l => exact hq
      | panic c => exact hq
      | outgrown => exact hq
    | false =>
      rw [hcut, cond_false] at h
      refine wp_seq (wp_mono (aw_sound hm h0 c hl1 hx hI hF h) fun e a' w' hq => ?_)
      cases e with
      | normal => obtain ⟨fr', σ', ρ', h1, h2, h3, h4⟩ := hq; exact aw_sound hm h0 d hl2 h1 h2 h3 h4
      | exit i => exact hq
      | ret => exact hq
      | goto l => exact hq
      | panic c => exact hq
      | outgrown => exact hq
  | .cond c t e, hc, Q, fr, σ, ρ, w, a, hx, hI, hF, h => by
    simp only [aw, condA] at h
    have hev := ev_rep hI hF c
    split at h
    · rename_i x hcv
      rw [hcv] at hev
      exact wp_cond_split (bool_form hev) (fun ht => aw_sound hm h0 t (by revert hc; cases tx.tx <;> simp +contextual [lexCode]) hx hI hF (h.1 ht)) (fun he => aw_sound hm h0 e (by revert hc; cases tx.tx <;> simp +contextual [lexCode]) hx hI hF (h.2 he))
    · exact h.elim
  | .block id c, hc, Q, fr, σ, ρ, w, a, hx, hI, hF, h => by
    simp only [aw] at h
    refine wp_block (wp_mono (aw_sound hm h0 c (by revert hc; cases tx.tx <;> simp +contextual [lexCode]) hx hI hF h) fun e a' w' hq => ?_)
    cases e with
    | normal => exact hq
    | exit i =>
      obtain ⟨fr', σ', ρ', h1, h2, h3, h4⟩ := hq
      simp only [Exit.inBlock]
      simp only at h4
      by_cases hi : i = id
      · rw [if_pos hi] at h4 ⊢; exact ⟨fr', σ', ρ', h1, h2, h3, h4⟩
      · rw [if_neg hi] at h4 ⊢; exact ⟨fr', σ', ρ', h1, h2, h3, h4⟩
    | ret => exact hq
    | goto l => exact hq
    | panic c => exact hq
    | outgrown => exact hq
  | .loop c, hc, Q, fr, σ, ρ, w, a, hx, hI, hF, h => by
    simp only [aw] at h
    obtain ⟨I, m0, ⟨fr1, σ1, hw1, hI1⟩, hround⟩ := h
    obtain ⟨ρ1, k1, k2, k3⟩ := hw1 ρ0 w0 ρ w _ h0 hx hI hF.2
    refine wp_loop_ghost (fun m a w => ∃ fr σ ρ, Ext ρ0 w0 ρ w ∧ Inv G ρ σ w ∧ HoldsF ρ w fr a ∧ I m fr σ) m0 ⟨fr1, σ1, ρ1, k1, k2, ⟨hF.1, k3⟩, hI1⟩ ?_
    rintro m a' w' ⟨fr2, σ2, ρ2, q1, q2, q3, q4⟩
    refine wp_mono (aw_sound hm h0 c (by revert hc; cases tx.tx <;> simp +contextual [lexCode]) q1 q2 q3 (hround m fr2 σ2 q4)) fun e a'' w'' hq => ?_
    cases e with
    | normal =>
      obtain ⟨fr3, σ3, ρ3, h1, h2, h3, fr4, σ4, hw4, m', hlt, hI4⟩ := hq
      obtain ⟨ρ4, r1, r2, r3⟩ := hw4 ρ0 w0 ρ3 w'' _ h0 h1 h2 h3.2
      exact ⟨m', hlt, fr4, σ4, ρ4, r1, r2, ⟨h3.1, r3⟩, hI4⟩
    | exit i => exact hq
    | ret => exact hq
    | goto l => exact hq
    | panic c => exact hq
    | outgrown => exact hq
  | .exit id, hc, Q, fr, σ, ρ, w, a, hx, hI, hF, h => wp_exit ⟨fr, σ, ρ, hx, hI, hF, h⟩
  | .ret, hc, Q, fr, σ, ρ, w, a, hx, hI, hF, h => wp_ret ⟨fr, σ, ρ, hx, hI, hF, h⟩
  | .label l, hc, Q, fr, σ, ρ, w, a, hx, hI, hF, h => wp_label ⟨fr, σ, ρ, hx, hI, hF, h⟩
  | .scope c, hc, Q, fr, σ, ρ, w, a, hx, hI, hF, h => by
    simp only [aw] at h
    refine wp_scope_straight (wp_mono (aw_sound hm h0 c (by revert hc; cases tx.tx <;> simp +contextual [lexCode]) hx hI hF h) fun e a' w' hq => ?_)
    cases e with
    | normal => exact hq
    | exit i => exact hq
    | ret => exact hq
    | goto l => exact hq
    | panic c => exact hq
    | outgrown => exact hq

/-- The results, out of the frame. -/
def resK (P : Program) (σ : St) (fr : Fr) : List ResultVar → (List A → Prop) → Prop
  | [], k => k []
  | .tmp t :: r, k => resK P σ fr r fun as => k (fr.getD t .any :: as)
  | .cell a t :: r, k => rdLoad P σ t (fun p x => p ∧ resK P σ fr r fun as => k (x :: as)) (fr.getD a .any)
def packA : List A → A
  | [x] => x
  | as => .tup as
theorem loadAt_addr {t : TypeId} {v u : Value} (h : (Instr.loadAt t v).run P w = .ok u w) : (do loadVar t (← asAddr v)).run P w = .ok u w := by
  cases v with
  | pointer a =>
    cases a with
    | none => simp [Instr.loadAt, Instr.sureAddr] at h
    | some a => simpa [Instr.loadAt, Instr.sureAddr, asAddr] using h
  | _ => simp [Instr.loadAt, Instr.sureAddr] at h
def resF (tmps : Array Value) : ResultVar → Sem Value
  | .tmp t => pure (tmps.getD t undef)
  | .cell a t => do loadVar t (← asAddr (tmps.getD a undef))
theorem results_eq (fn : Func) (tmps : Array Value) : results fn tmps = (do let vs ← fn.results.mapM (resF tmps); pure (if h : vs.size = 1 then vs[0] else .tuple vs)) := rfl
theorem resK_sound {fr : Fr} {a : Act} (hI : Inv G ρ σ w) (hF : HoldsF ρ w fr a) : ∀ (rs : List ResultVar) {k : List A → Prop}, resK P σ fr rs k → ∃ as vs, k as ∧ RepL ρ w as vs ∧
    (rs.mapM (resF a.tmps)).run P w = .ok vs w
  | [], k, h => ⟨[], [], h, ⟨rfl, fun i x v hx => by simp at hx⟩, rfl⟩
  | .tmp t :: r, k, h => by
    obtain ⟨as, vs, h1, h2, h3⟩ := resK_sound hI hF r (k := fun as => k (fr.getD t .any :: as)) h
    refine ⟨_, a.tmps.getD t undef :: vs, h1, ⟨by simp [h2.1], fun i x v hx hv => ?_⟩, ?_⟩
    · match i with
      | 0 => injection hx with hx; injection hv with hv; subst hx; subst hv; exact hF.slot t
      | i + 1 => exact h2.2 i x v (by simpa using hx) (by simpa using hv)
    · simp only [List.mapM_cons, resF, Sem.run_bind, Sem.run_pure, Result.andThen_ok, h3]
  | .cell x t :: r, k, h => by
    simp only [resK] at h
    obtain ⟨p, y, ⟨hp, hk⟩, hs⟩ := rdLoad_sound (P := P) hI (hF.slot x) h
    obtain ⟨v, h1, h2⟩ := hs hp
    obtain ⟨as, vs, h4, h5, h6⟩ := resK_sound hI hF r hk
    refine ⟨_, v :: vs, h4, ⟨by simp [h5.1], fun i x v hx hv => ?_⟩, ?_⟩
    · match i with
      | 0 => simp at hx hv; subst hx; subst hv; exact h2
      | i + 1 => exact h5.2 i x v (by simpa using hx) (by simpa using hv)
    · have he : (resF a.tmps (.cell x t)).run P w = .ok v w := loadAt_addr h1
      simp only [List.mapM_cons, Sem.run_bind, he, Result.andThen_ok, h6, Sem.run_pure]

/-- What a function must come to at its end. -/
def RetOK (P : Program) (G : Glob) (n0 : Nat) (fn : Func) (R : A → St → Prop) (fr : Fr) (σ : St) : Prop :=
  resK P σ fr fn.results.toList fun as => ∃ r σ', Weak G n0 [packA as] σ [r] σ' ∧ R r σ'
def Ends (P : Program) (G : Glob) (n0 : Nat) (fn : Func) (R : A → St → Prop) : Pst
  | .normal, fr, σ => RetOK P G n0 fn R fr σ
  | .ret, fr, σ => RetOK P G n0 fn R fr σ
  | .exit _, _, _ => False

theorem pack_rep {as : List A} {vs : List Value} (h : RepL ρ w as vs) : RepA ρ w (packA as) (if h : vs.toArray.size = 1 then vs.toArray[0] else .tuple vs.toArray) := by
  match as, vs, h with
  | [], [], h => exact .tup [] [] rfl (fun i x v hx => by simp at hx)
  | [x], [v], h => exact h.2 0 x v rfl rfl
  | x :: y :: as, v :: u :: vs, h =>
    rw [dif_neg (by simp)]
    exact .tup _ _ h.1 h.2
  | [], _ :: _, h => simp [RepL] at h
  | [_], [], h => simp [RepL] at h
  | [_], _ :: _ :: _, h => simp [RepL] at h
  | _ :: _ :: _, [], h => simp [RepL] at h
  | _ :: _ :: _, [_], h => simp [RepL] at h

theorem ret_sound {n0 : Nat} {fn : Func} {R : A → St → Prop} {ρ0 : Ren} {w0 : World} {fr : Fr} {a : Act} (h0 : ρ0.length = n0) (hx : Ext ρ0 w0 ρ w) (hI : Inv G ρ σ w) (hF : HoldsF ρ w fr a) (h : RetOK P G n0 fn R fr σ) :
    a.defers = [] ∧ ∃ v, (results fn a.tmps).run P w = .ok v w ∧ ∃ v' ρ' σ' r, Ending.returned v = .returned v' ∧ Ext ρ0 w0 ρ' w ∧ Inv G ρ' σ' w ∧ RepA ρ' w r v' ∧ R r σ' := by
  obtain ⟨as, vs, ⟨r, σ', hw, hR⟩, hrep, hrun⟩ := resK_sound hI hF fn.results.toList h
  have hp := pack_rep hrep
  obtain ⟨ρ', k1, k2, k3⟩ := hw ρ0 w0 ρ w [if h : vs.toArray.size = 1 then vs.toArray[0] else .tuple vs.toArray] h0 hx hI ⟨rfl, fun i x v hx hv => by
    match i with
    | 0 => injection hx with hx; injection hv with hv; subst hx; subst hv; exact hp
    | i + 1 => simp at hx⟩
  refine ⟨hF.1, _, ?_, _, ρ', σ', r, rfl, k1, k2, k3.2 0 r _ rfl rfl, hR⟩
  rw [results_eq]
  simp only [Array.mapM_eq_mapM_toList, Sem.run_bind, Sem.run_map, hrun, Result.andThen_ok, Sem.run_pure]

/-- ████ A FUNCTION IS ENTERED ████ -/
theorem ac_enterB (hm : P.follows .mixedOrders = true) {tx : Md} {f : FuncId} {fn : Func} {c : Code} {n : Nat} {args : List A} {R : A → St → Prop} (hf : P.funcs[f]? = some fn) (hb : fn.body = some c) (hn : fn.ntmps = n) (hcall : callable P f = true)
    (hlex : (!tx.tx || lexCode c) = true) (h : Bd σ.length σ → aw P G σ.length tx c (Ends P G σ.length fn R) (args ++ List.replicate (n - args.length) .any) σ) : AC P G f args σ R := by
  refine ⟨hcall, fun ρ w vs hI hL => ?_⟩
  refine calls_of_wp hf hb ?_
  have hF : HoldsF ρ w (args ++ List.replicate (n - args.length) .any) { tmps := vs.toArray ++ Array.replicate (fn.ntmps - vs.toArray.size) undef, defers := [] } := by
    refine ⟨rfl, by have := hL.1; simp [hn]; omega, fun i x v hx hv => ?_⟩
    by_cases hi : i < args.length
    · rw [List.getElem?_append_left hi] at hx
      simp only [Array.toList_append] at hv
      rw [List.getElem?_append_left (by have := hL.1; simpa using by omega)] at hv
      exact hL.2 i x v hx hv
    · rw [List.getElem?_append_right (by omega), List.getElem?_replicate] at hx
      split at hx
      · injection hx with hx; subst hx; exact .any _
      · cases hx
  refine wp_mono (aw_sound hm hI.len c hlex (Ext.refl ρ w) hI hF (h hI.bd)) fun e a' w' hq => ?_
  cases e with
  | normal =>
    obtain ⟨fr, σ', ρ', h1, h2, h3, h4⟩ := hq
    exact ret_sound hI.len h1 h2 h3 h4
  | ret =>
    obtain ⟨fr, σ', ρ', h1, h2, h3, h4⟩ := hq
    exact ret_sound hI.len h1 h2 h3 h4
  | exit i => obtain ⟨_, _, _, _, _, _, h⟩ := hq; exact h.elim
  | goto l => exact hq.elim
  | panic c => exact hq.elim
  | outgrown => exact hq.elim

/-- The same, all its drawn regions in the text's order. -/
theorem ac_enter (hm : P.follows .mixedOrders = true) {f : FuncId} {fn : Func} {c : Code} {n : Nat} {args : List A} {R : A → St → Prop} (hf : P.funcs[f]? = some fn) (hb : fn.body = some c) (hn : fn.ntmps = n) (hcall : callable P f = true)
    (h : Bd σ.length σ → aw P G σ.length ⟨true, []⟩ c (Ends P G σ.length fn R) (args ++ List.replicate (n - args.length) .any) σ) (hlex : lexCode c = true := by kernel_rfl) : AC P G f args σ R := ac_enterB hm hf hb hn hcall (by simpa using hlex) h
/-- The same, its drawn regions each by a plan of its own. -/
theorem ac_enter' (hm : P.follows .mixedOrders = true) {f : FuncId} {fn : Func} {c : Code} {n : Nat} {args : List A} {R : A → St → Prop} (hf : P.funcs[f]? = some fn) (hb : fn.body = some c) (hn : fn.ntmps = n) (hcall : callable P f = true)
    (h : Bd σ.length σ → aw P G σ.length ⟨false, []⟩ c (Ends P G σ.length fn R) (args ++ List.replicate (n - args.length) .any) σ) : AC P G f args σ R := ac_enterB hm hf hb hn hcall rfl h
/-- The same two, the proof cut before some regions. -/
theorem ac_enterC (cuts : List Nat) (hm : P.follows .mixedOrders = true) {f : FuncId} {fn : Func} {c : Code} {n : Nat} {args : List A} {R : A → St → Prop} (hf : P.funcs[f]? = some fn) (hb : fn.body = some c) (hn : fn.ntmps = n) (hcall : callable P f = true)
    (h : Bd σ.length σ → aw P G σ.length ⟨true, cuts⟩ c (Ends P G σ.length fn R) (args ++ List.replicate (n - args.length) .any) σ) (hlex : lexCode c = true := by kernel_rfl) : AC P G f args σ R := ac_enterB hm hf hb hn hcall (by simpa using hlex) h
theorem ac_enterC' (cuts : List Nat) (hm : P.follows .mixedOrders = true) {f : FuncId} {fn : Func} {c : Code} {n : Nat} {args : List A} {R : A → St → Prop} (hf : P.funcs[f]? = some fn) (hb : fn.body = some c) (hn : fn.ntmps = n) (hcall : callable P f = true)
    (h : Bd σ.length σ → aw P G σ.length ⟨false, cuts⟩ c (Ends P G σ.length fn R) (args ++ List.replicate (n - args.length) .any) σ) : AC P G f args σ R := ac_enterB hm hf hb hn hcall rfl h

/-- OBJECTS ARE LET GO that nothing names any more. -/
theorem Weak.cut {n0 : Nat} {fr : Fr} {σ junk : St} (hn : n0 ≤ σ.length) (hbd : Bd σ.length σ) (hfr : bdL σ.length fr = true) : Weak G n0 fr (σ ++ junk) fr σ := fun ρ0 w0 ρ w vs h0 hx hI hr => by
  have hlen : ρ.length = σ.length + junk.length := by have := hI.len; simpa using this
  have hget : ∀ i, i < σ.length → (ρ.take σ.length)[i]? = ρ[i]? := fun i hi => List.getElem?_take_of_lt hi
  have hsub : ∀ (i : Nat) (r : Rs), (ρ.take σ.length)[i]? = some r → i < σ.length ∧ ρ[i]? = some r := fun i r h => by
    have hi : i < σ.length := by
      have := (List.getElem?_eq_some_iff.1 h).1
      simp at this; omega
    exact ⟨hi, by rw [← hget i hi]; exact h⟩
  have hM : ∀ b, M (ρ.take σ.length) b → M ρ b := fun b ⟨i, h⟩ => ⟨i, (hsub i _ h).2⟩
  refine ⟨ρ.take σ.length, ⟨hx.os, hx.tape, hx.output, hx.size, by simp; omega, fun id r h => ?_, fun b h hlt => hx.fresh b (hM b h) hlt, hx.block, hx.shape⟩, ⟨by simp; omega, fun i j b h1 h2 => hI.inj i j b (hsub i _ h1).2 (hsub j _ h2).2, fun i b h => hI.lt i b (hsub i _ h).2, fun id o h => ?_, fun g x h => (hI.glob g x h).cut hget hM rfl, hbd⟩,
    ⟨hr.1, fun i x v h1 h2 => (hr.2 i x v h1 h2).cut hget hM (bdL_spec hfr i x h1)⟩⟩
  · have hid : id < ρ0.length := (List.getElem?_eq_some_iff.1 h).1
    rw [hget id (by omega)]
    exact hx.ids id r h
  · have hid : id < σ.length := (List.getElem?_eq_some_iff.1 h).1
    have hob := hbd id o h
    rcases hI.obj id o (by rw [List.getElem?_append_left hid]; exact h) with ⟨b, h1, h2⟩ | ⟨h1, h2⟩
    · refine .inl ⟨b, by rw [hget id hid]; exact h1, ?_⟩
      cases o with
      | cells cs =>
        obtain ⟨vs, e, a1, a2, a3⟩ := h2
        exact ⟨vs, e, a1, a2, fun i x hx' => let ⟨v, b1, b2, b3⟩ := a3 i x hx'; ⟨v, b1, b2, b3.cut hget hM (bdL_spec hob i x hx')⟩⟩
      | map es =>
        obtain ⟨ms, c, a1, a2, a3⟩ := h2
        refine ⟨ms, c, a1, a2, fun i x m hx' hm => ⟨?_, (a3 i x m hx' hm).2.cut hget hM ?_⟩⟩
        · have := (RepA.d (a3 i x m hx' hm).1 : RepA ρ w (.d x.1) m.key).cut hget hM rfl
          cases this with | d h => exact h
        · simp only [Ob.bd, List.all_eq_true] at hob
          exact hob x (List.mem_of_getElem? hx')
    · exact .inr ⟨by rw [hget id hid]; exact h1, h2⟩

def maskN (live : List Nat) : Nat → Fr → Fr
  | _, [] => []
  | i, x :: r => (if live.contains i then x else .any) :: maskN live (i + 1) r
theorem maskN_get (live : List Nat) : ∀ (fr : Fr) (n i : Nat), (maskN live n fr)[i]? = (fr[i]?).map fun x => if live.contains (n + i) then x else .any
  | [], n, i => by simp [maskN]
  | x :: fr, n, 0 => by simp [maskN]
  | x :: fr, n, i + 1 => by
    simp only [maskN, List.getElem?_cons_succ, maskN_get live fr (n + 1) i]
    rw [show n + 1 + i = n + (i + 1) by omega]
theorem maskN_len (live : List Nat) : ∀ (fr : Fr) (n : Nat), (maskN live n fr).length = fr.length
  | [], _ => rfl
  | x :: fr, n => by simp [maskN, maskN_len live fr (n + 1)]
theorem Weak.mask {n0 : Nat} {fr : Fr} {σ : St} (live : List Nat) : Weak G n0 fr σ (maskN live 0 fr) σ := fun ρ0 w0 ρ w vs h0 hx hI hr => by
  refine ⟨ρ, hx, hI, by rw [maskN_len]; exact hr.1, fun i x v h1 h2 => ?_⟩
  rw [maskN_get] at h1
  simp only [Option.map_eq_some_iff] at h1
  obtain ⟨y, hy, rfl⟩ := h1
  split
  · exact hr.2 i y v hy h2
  · exact .any _
theorem Wk.mask {n0 : Nat} {fr : Fr} {σ : St} {I : Fr → St → Prop} (live : List Nat) (h : I (maskN live 0 fr) σ) : Wk G n0 I fr σ := ⟨_, σ, Weak.mask live, h⟩
theorem Wk.cut {n0 : Nat} {fr : Fr} {σ junk : St} {I : Fr → St → Prop} (live : List Nat) (hn : n0 ≤ σ.length) (hbd : Bd σ.length σ) (hfr : bdL σ.length (maskN live 0 fr) = true) (h : I (maskN live 0 fr) σ) : Wk G n0 I fr (σ ++ junk) :=
  ⟨_, σ, (Weak.mask live).trans (Weak.cut hn hbd hfr), h⟩
theorem Bd.append {n : Nat} {σ l : St} (h : Bd n σ) (hl : ∀ o, some o ∈ l → o.bd n = true) : Bd n (σ ++ l) := fun id o ho => by
  by_cases hid : id < σ.length
  · rw [List.getElem?_append_left hid] at ho; exact h id o ho
  · rw [List.getElem?_append_right (by omega)] at ho
    exact hl o (List.mem_of_getElem? ho)
/-- The plain end: data is handed back, and what was made is let go. -/
theorem ret_d {σ junk : St} {x : D} {R : A → St → Prop} (hbd : Bd σ.length σ) (h : R (.d x) σ) : ∃ r σ', Weak G σ.length [.d x] (σ ++ junk) [r] σ' ∧ R r σ' :=
  ⟨_, σ, Weak.cut (Nat.le_refl _) hbd rfl, h⟩
theorem ret_d0 {σ : St} {x : D} {R : A → St → Prop} (h : R (.d x) σ) : ∃ r σ', Weak G σ.length [.d x] σ [r] σ' ∧ R r σ' := ⟨_, σ, Weak.refl _ _ _ _, h⟩
end
end Go.Ab
