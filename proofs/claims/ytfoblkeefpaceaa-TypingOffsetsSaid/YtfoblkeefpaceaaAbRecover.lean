/- Closures that are called as deferred calls: plain ones; those that call recover. -/
import Derived.Test.YtfoblkeefpaceaaAbDefer
set_option linter.unusedSimpArgs false
set_option linter.unusedVariables false
namespace Go.Ab
open Go Go.RowKit

def isRecO : Op → Bool
  | .call c => (match c.callee with | .builtin .recover => c.args.isEmpty | _ => false)
  | _ => false
def isRec (o : Oper) : Bool := isRecO o.op
/-- A region that recovers: otherwise it only reads. -/
def awOpsS (P : Program) (G : Glob) (σ : St) (rv : A) (ops : Array Oper) : List Oper → (Fr → Prop) → Fr → Prop
  | [], K, fr => K fr
  | o :: rest, K, fr => bif isRecO o.op then o.guard = none ∧ awOpsS P G σ rv ops rest K (put fr o.dst rv) else
    match o.guard with
      | none => rd P σ (ev G fr) o.op fun p x => p ∧ awOpsS P G σ rv ops rest K (put fr o.dst x)
      | some (j, b) => match guardB ops fr j b with
        | some c => rdG P σ (ev G fr) o.op fun p x => (c = true → p) ∧ awOpsS P G σ rv ops rest K (put fr o.dst (.grd c x))
        | none => False
/-- CODE THAT RECOVERS ONCE. -/
def awS (P : Program) (G : Glob) (n0 : Nat) (tx : Md) (rv : A) : Code → Pst → Fr → St → Prop
  | .region _ ops false, Q, fr, σ => (ops.toList.filter isRec).length = 1 ∧ awOpsS P G σ rv ops ops.toList (fun fr => Q .normal fr σ) fr
  | .seq a b, Q, fr, σ => awS P G n0 tx rv a (fun e fr σ => match e with | .normal => aw P G n0 ⟨tx.tx, tx.cuts, true⟩ b Q fr σ | .exit i => Q (.exit i) fr σ | .ret => Q .ret fr σ) fr σ
  | _, _, _, _ => False

section
variable {P : Program} {ρ ρ' : Ren} {w w' : World} {σ : St} {G : Glob}

/-- The mode behind a call of recover. -/
def recM : FrameMode → FrameMode
  | .panicking ({ v, recovered := false, goexit := false } :: older) => .panicking ({ v, recovered := true } :: older)
  | m => m
/-- The mode and what recover answers in it. -/
def RecOK (u : FrameMode) (rv : A) (ρ : Ren) (w : World) : Prop := (u = .returning ∧ rv = .d .nili) ∨ ∃ v, u = .panicking [{ v, recovered := false }] ∧ RepA ρ w rv v
theorem yldN_in {o : Oper} {ops : Array Oper} {i : Nat} {rest : List Nat} {a : Act} {cs : List Frame} {Q : Exit → Act → List Frame → World → Prop} {v : Value} (hi : ops[i]? = some o) (hw : Region.wanted o (yielded ops a.tmps) = true) (h : (execOp a.eval o).run P w = .ok (.value v) w)
    (hK : wpOpsSIn (RF none) 0 P ops Q rest (a.put o.dst v) cs w) : wpOpsSIn (RF none) 0 P ops Q (i :: rest) a cs w := by
  simp only [wpOpsSIn, hi]
  exact ⟨fun _ _ => trivial, by rw [if_pos hw, h]; exact hK⟩
theorem skip_in {o : Oper} {ops : Array Oper} {i : Nat} {rest : List Nat} {a : Act} {cs : List Frame} {Q : Exit → Act → List Frame → World → Prop} (hi : ops[i]? = some o) (hw : Region.wanted o (yielded ops a.tmps) = false)
    (hK : wpOpsSIn (RF none) 0 P ops Q rest (a.put o.dst undef) cs w) : wpOpsSIn (RF none) 0 P ops Q (i :: rest) a cs w := by
  simp only [wpOpsSIn, hi]
  exact ⟨fun _ _ => trivial, by rw [if_neg (by simp [hw])]; exact hK⟩
theorem awOpsS_sound {rv : A} {ops : Array Oper} {Q : Exit → Act → List Frame → World → Prop} {K : Fr → Prop} {B : Nat} (hI : Inv G ρ σ w) : ∀ (l : List Oper) (n : Nat) {u : FrameMode} {fr : Fr} {a : Act} {c₀ : Frame} {cs : List Frame}, ops.toList.drop n = l →
    (l.filter isRec).length ≤ 1 → ((l.filter isRec).length = 1 → RecOK u rv ρ w) → c₀.mode = u → HoldsF (pre B) ρ w fr a → awOpsS P G σ rv ops l K fr →
    (∀ fr' a', HoldsF (pre B) ρ w fr' a' → K fr' → Q .normal a' ({ c₀ with mode := if (l.filter isRec).length = 1 then recM u else u } :: cs) w) → wpOpsSIn (RF none) 0 P ops Q ((List.range ops.size).drop n) a (c₀ :: cs) w
  | [], n, u, fr, a, c₀, cs, hl, _, _, hu, hF, h, hQ => by
    have hn : ops.size ≤ n := by simpa using hl
    rw [List.drop_eq_nil_of_le (by simpa using hn)]
    have := hQ fr a hF h
    have e : ({ c₀ with mode := u } : Frame) = c₀ := by subst hu; rfl
    simp only [List.filter_nil, List.length_nil, Nat.zero_ne_one, if_false, e] at this
    exact this
  | o :: rest, n, u, fr, a, c₀, cs, hl, h1, hr, hu, hF, h, hQ => by
    have hok : okDst (pre B) o.dst := fun d _ p hp => by cases hp
    have hn : n < ops.size := by
      rcases Nat.lt_or_ge n ops.size with h | h
      · exact h
      · rw [List.drop_eq_nil_of_le (by simpa using h)] at hl; cases hl
    have hcons := List.drop_eq_getElem_cons (l := ops.toList) (i := n) (by simpa using hn)
    rw [hl] at hcons
    injection hcons with ho hrest
    have hi : ops[n]? = some o := by rw [Array.getElem?_eq_getElem hn, ho]; simp
    have hdr : (List.range ops.size).drop n = n :: (List.range ops.size).drop (n + 1) := by
      rw [List.drop_eq_getElem_cons (by simpa using hn)]; simp
    rw [hdr]
    unfold awOpsS at h
    cases hrec : isRecO o.op with
    | true =>
      rw [hrec, cond_true] at h
      obtain ⟨hg, h⟩ := h
      have hrec' : isRec o = true := hrec
      have hlen : ((o :: rest).filter isRec).length = (rest.filter isRec).length + 1 := by simp [List.filter_cons, hrec']
      have hz : (rest.filter isRec).length = 0 := by omega
      simp only [wpOpsSIn, hi]
      refine ⟨fun _ _ => trivial, ?_⟩
      rw [if_pos (by simp [Region.wanted, hg])]
      have hrun : (execOp a.eval o).run P w = .ok .recover w := by
        obtain ⟨dst, op, type, pos, after, guard⟩ := o
        simp only at hrec
        unfold isRecO at hrec
        split at hrec
        · rename_i c
          obtain ⟨callee, args, ts⟩ := c
          simp only at hrec
          split at hrec
          · have : args = #[] := by simpa using hrec
            subst this
            rfl
          · cases hrec
        · cases hrec
      rw [hrun]
      have hR := hr (by omega)
      have hQ' : ∀ fr' a', HoldsF (pre B) ρ w fr' a' → K fr' → Q .normal a' ({ c₀ with mode := recM u } :: cs) w := fun fr' a' k1 k2 => by
        have := hQ fr' a' k1 k2
        rwa [if_pos (by omega)] at this
      rcases hR with ⟨rfl, rfl⟩ | ⟨v, rfl, hv⟩
      · have e1 : recoverD (c₀ :: cs) = none := by simp [recoverD, hu]
        simp only [e1]
        refine awOpsS_sound hI rest (n + 1) (u := .returning) (c₀ := c₀) hrest.symm (by omega) (fun h => by omega) hu (hF.put o.dst hok (.d .nili)) h fun fr' a' k1 k2 => ?_
        rw [if_neg (by omega)]
        exact hQ' fr' a' k1 k2
      · have e1 : recoverD (c₀ :: cs) = some (v, { c₀ with mode := .panicking [{ v, recovered := true }] } :: cs) := by simp [recoverD, hu]
        simp only [e1]
        refine awOpsS_sound hI rest (n + 1) (u := .panicking [{ v, recovered := true }]) (c₀ := { c₀ with mode := .panicking [{ v, recovered := true }] }) hrest.symm (by omega) (fun h => by omega) rfl (hF.put o.dst hok hv) h fun fr' a' k1 k2 => ?_
        rw [if_neg (by omega)]
        exact hQ' fr' a' k1 k2
    | false =>
      rw [hrec, cond_false] at h
      have hrec' : isRec o = false := hrec
      have hf : (o :: rest).filter isRec = rest.filter isRec := by simp [List.filter_cons, hrec']
      rw [hf] at h1 hr hQ
      split at h
      · rename_i hg
        obtain ⟨p, x, ⟨hp, hk⟩, hs⟩ := rd_sound hI (ev_rep hI hF) h
        obtain ⟨v, k1, k2⟩ := hs hp
        exact yldN_in hi (by simp [Region.wanted, hg]) k1 (awOpsS_sound hI rest (n + 1) hrest.symm h1 hr hu (hF.put o.dst hok k2) hk hQ)
      · rename_i j b hg
        split at h
        · rename_i c hc
          have hw := guardB_sound hF hg hc
          cases c with
          | true =>
            obtain ⟨p, x, ⟨hp, hk⟩, hs⟩ := rdG_sound hI (ev_rep hI hF) h
            obtain ⟨v, k1, k2⟩ := hs (hp rfl)
            exact yldN_in hi hw k1 (awOpsS_sound hI rest (n + 1) hrest.symm h1 hr hu (hF.put o.dst hok (.grd _ (fun _ => k2) (fun h => by cases h))) hk hQ)
          | false =>
            obtain ⟨p, x, _, hk⟩ := rdG_some h
            exact skip_in hi hw (awOpsS_sound hI rest (n + 1) hrest.symm h1 hr hu (hF.put o.dst hok (.grd _ (fun h => by cases h) (fun _ => rfl))) hk hQ)
        · exact h.elim
def BehindS (G : Glob) (ρ0 : Ren) (w0 : World) (Q : Pst) (c₀ : Frame) (cs : List Frame) (u : FrameMode) : Exit → Act → List Frame → World → Prop := fun e a cs' w => cs' = { c₀ with mode := recM u } :: cs ∧ Behind G (pre w0.heap.size) ρ0 w0 Q e a w
theorem wpSIn_mono {F : Fence} {n : Nat} {c : Code} {Q Q' : Exit → Act → List Frame → World → Prop} {a : Act} {cs : List Frame} (h : c.wpSIn F n P Q a cs w) (hq : ∀ e a cs w, Q e a cs w → Q' e a cs w) : c.wpSIn F n P Q' a cs w :=
  fun b k hb hr hF hroom => let ⟨e, a', cs', w', l, q, r⟩ := h b k hb hr hF hroom; ⟨e, a', cs', w', l, hq _ _ _ _ q, r⟩
theorem awS_sound (hm : P.follows .mixedOrders = true) {n0 : Nat} {tx : Md} {rv : A} {u : FrameMode} {ρ0 : Ren} {w0 : World} {c₀ : Frame} {cs : List Frame} (h0 : ρ0.length = n0) (hu : c₀.mode = u) (hr : RecOK u rv ρ0 w0) : ∀ (c : Code) {Q : Pst} {fr : Fr} {σ : St} {ρ : Ren} {w : World} {a : Act},
    (!tx.tx || lexCode c) = true → Ext ρ0 w0 ρ w → Inv G ρ σ w → HoldsF (pre w0.heap.size) ρ w fr a → awS P G n0 tx rv c Q fr σ → c.wpSIn (RF none) 0 P (BehindS G ρ0 w0 Q c₀ cs u) a (c₀ :: cs) w
  | .region id ops false, Q, fr, σ, ρ, w, a, hc, hx, hI, hF, h => by
    obtain ⟨h1, h⟩ := h
    have h1' : (ops.toList.filter isRec).length = 1 := h1
    refine wpSIn_region ?_
    have := awOpsS_sound (Q := BehindS G ρ0 w0 Q c₀ cs u) (cs := cs) hI ops.toList 0 rfl (by omega) (fun _ => by
      rcases hr with h | ⟨v, h2, h3⟩
      · exact .inl h
      · exact .inr ⟨v, h2, h3.ext hx⟩) hu hF h fun fr' a' k1 k2 => by
        rw [if_pos h1']
        exact ⟨rfl, fr', σ, ρ, hx, hI, k1, k2⟩
    simpa using this
  | .seq c d, Q, fr, σ, ρ, w, a, hc, hx, hI, hF, h => by
    have hl1 : (!tx.tx || lexCode c) = true := by revert hc; simp only [lexCode]; cases tx.tx <;> simp +contextual
    have hl2 : (!tx.tx || lexCode d) = true := by revert hc; simp only [lexCode]; cases tx.tx <;> simp +contextual
    simp only [awS] at h
    refine wpSIn_seq ?_
    have := awS_sound hm h0 hu hr (cs := cs) c hl1 hx hI hF h
    refine wpSIn_mono this fun e a' cs' w' hq => ?_
    obtain ⟨rfl, hq⟩ := hq
    cases e with
    | normal =>
      obtain ⟨fr', σ', ρ', h1, h2, h3, h4⟩ := hq
      refine wpSIn_of_wpIn rfl (wpIn_mono (aw_sound hm d (tx := ⟨tx.tx, tx.cuts, true⟩) (rn := none) (b := pre w0.heap.size) h0 rfl (fun h => by cases h) hl2 (avoids_nil _) h1 h2 h3 h4) fun e a' w' hq => ⟨rfl, hq⟩)
    | _ => exact ⟨rfl, hq⟩

/-- The end of a deferred closure. -/
def endS (P : Program) (G : Glob) (n0 : Nat) (fn : Func) (R : St → Prop) : Pst := Ends P G n0 fn fun _ s => R s
theorem deferred_frame {n : Nat} {fn : Func} {args : List A} {vs : List Value} (hn : fn.ntmps = n) (hL : RepL ρ w args vs) : HoldsF (pre w.heap.size) ρ w (args ++ List.replicate (n - args.length) .any) { tmps := vs.toArray ++ Array.replicate (fn.ntmps - vs.toArray.size) undef, defers := [] } := by
  refine ⟨⟨⟨[], rfl, trivial, fun _ => rfl⟩, fun p hp => by cases hp⟩, by have := hL.1; simp [hn]; omega, fun i x v hx hv => ?_⟩
  by_cases hi : i < args.length
  · rw [List.getElem?_append_left hi] at hx
    simp only [Array.toList_append] at hv
    rw [List.getElem?_append_left (by have := hL.1; simpa using by omega)] at hv
    exact hL.2 i x v hx hv
  · rw [List.getElem?_append_right (by omega), List.getElem?_replicate] at hx
    split at hx
    · injection hx with hx; subst hx; exact .any _
    · cases hx
theorem ends_run {n0 : Nat} {fn : Func} {R : St → Prop} {ρ0 : Ren} {w0 : World} {fr : Fr} {a : Act} (h0 : ρ0.length = n0) (h : RetOK P G n0 fn (fun _ s => R s) fr σ) (hx : Ext ρ0 w0 ρ w) (hI : Inv G ρ σ w) (hF : HoldsF (pre w0.heap.size) ρ w fr a) :
    a.defers = [] ∧ ∃ v, (results fn a.tmps).run P w = .ok v w ∧ ∃ ρ' σ', Ext ρ0 w0 ρ' w ∧ Inv G ρ' σ' w ∧ R σ' := by
  obtain ⟨⟨⟨ms, h1, h2, h3⟩, _⟩, hL⟩ := hF
  refine ⟨by rw [h1, h3 rfl]; rfl, ?_⟩
  obtain ⟨as, vs, ⟨r, σ', hw, hR⟩, hrep, hrun⟩ := resK_sound hI fn.results.toList (fun r _ => slot_rep hL (slotR r)) h
  have hp := pack_rep hrep
  obtain ⟨ρ', k1, k2, k3⟩ := hw ρ0 w0 ρ w [if h : vs.toArray.size = 1 then vs.toArray[0] else .tuple vs.toArray] h0 hx hI ⟨rfl, fun i x v hx hv => by
    match i with
    | 0 => injection hx with hx; injection hv with hv; subst hx; subst hv; exact hp
    | i + 1 => simp at hx⟩
  refine ⟨if h : vs.toArray.size = 1 then vs.toArray[0] else .tuple vs.toArray, ?_, ρ', σ', k1, k2, hR⟩
  rw [results_eq]
  simp only [Array.mapM_eq_mapM_toList, Sem.run_bind, Sem.run_map, hrun, Result.andThen_ok, Sem.run_pure]
/-- A DEFERRED CLOSURE THAT DOES NOT RECOVER, in a return. -/
theorem ad_enter (hm : P.follows .mixedOrders = true) {tx : Md} {f : FuncId} {fn : Func} {c : Code} {n : Nat} {args : List A} {R : St → Prop} (hf : P.funcs[f]? = some fn) (hb : fn.body = some c) (hn : fn.ntmps = n) (hcall : callable P f = true)
    (hlex : (!tx.tx || lexCode c) = true) (h : Bd σ.length σ → aw P G.calm σ.length ⟨tx.tx, tx.cuts, true⟩ c (endS P G.calm σ.length fn R) (args ++ List.replicate (n - args.length) .any) σ) : AD P G f args none σ R := by
  refine ⟨hcall, fun ρ w vs u hI hL hu => ?_⟩
  subst hu
  have hI' : Inv G.calm ρ σ w := hI.turn rfl
  refine CallsDIn.mono (callsDIn_of_wp (R := fun e w' => ∃ v ρ' σ', e = .returned v ∧ Ext ρ w ρ' w' ∧ Inv G.calm ρ' σ' w' ∧ R σ') hf hb trivial ?_ rfl) ?_
  · refine wpIn_mono (aw_sound hm c (tx := ⟨tx.tx, tx.cuts, true⟩) (rn := none) (b := pre w.heap.size) hI'.len rfl (fun h => by cases h) hlex (avoids_nil _) (Ext.refl ρ w) hI' (deferred_frame hn hL) (h hI.bd)) fun e a' w' hq => ?_
    have fin : ∀ {fr σ' ρ'}, Ext ρ w ρ' w' → Inv G.calm ρ' σ' w' → HoldsF (pre w.heap.size) ρ' w' fr a' → RetOK P G.calm σ.length fn (fun _ s => R s) fr σ' → a'.defers = [] ∧ ∃ v, (results fn a'.tmps).run P w' = .ok v w' ∧ ∃ v' ρ' σ', Ending.returned v = .returned v' ∧ Ext ρ w ρ' w' ∧ Inv G.calm ρ' σ' w' ∧ R σ' := fun h1 h2 h3 h4 => by
      obtain ⟨k1, v, k2, ρ2, σ2, k3⟩ := ends_run hI.len h4 h1 h2 h3
      exact ⟨k1, v, k2, v, ρ2, σ2, rfl, k3⟩
    cases e with
    | normal => obtain ⟨fr, σ', ρ', h1, h2, h3, h4⟩ := hq; exact fin h1 h2 h3 h4
    | ret => obtain ⟨fr, σ', ρ', h1, h2, h3, h4⟩ := hq; exact fin h1 h2 h3 h4
    | exit i => obtain ⟨_, _, _, _, _, _, h⟩ := hq; exact h.elim
    | goto l => exact hq.elim
    | panic c => obtain ⟨⟨_, _, _, _, _, _, _, _, h⟩, _⟩ := hq; exact h.elim
    | outgrown => exact hq.elim
  · rintro e u' w' ⟨rfl, v, ρ', σ', rfl, k1, k2, k3⟩
    exact ⟨v, ρ', σ', rfl, rfl, k1, k2.turn rfl, k3⟩
/-- A DEFERRED CLOSURE THAT RECOVERS. -/
theorem ad_rec (hm : P.follows .mixedOrders = true) {tx : Md} {rv : Option A} {f : FuncId} {fn : Func} {c : Code} {n : Nat} {args : List A} {R : St → Prop} (hf : P.funcs[f]? = some fn) (hb : fn.body = some c) (hn : fn.ntmps = n) (hcall : callable P f = true)
    (hlex : (!tx.tx || lexCode c) = true) (h : Bd σ.length σ → awS P G.calm σ.length tx (rv.getD (.d .nili)) c (endS P G.calm σ.length fn R) (args ++ List.replicate (n - args.length) .any) σ) : AD P G f args rv σ R := by
  refine ⟨hcall, fun ρ w vs u hI hL hu => ?_⟩
  have hI' : Inv G.calm ρ σ w := hI.turn rfl
  have hR : RecOK u (rv.getD (.d .nili)) ρ w := by
    cases rv with
    | none => exact .inl ⟨hu, rfl⟩
    | some a => exact .inr hu
  have hset : settle (recM u) = .returning := by
    rcases hR with ⟨rfl, _⟩ | ⟨v, rfl, _⟩ <;> rfl
  refine callsDIn_of_wpSIn hf hb trivial fun c₀ cs hmode => ?_
  refine wpSIn_mono (awS_sound hm hI'.len hmode hR c hlex (Ext.refl ρ w) hI' (deferred_frame hn hL) (h hI.bd)) fun e a' cs' w' hq => ?_
  obtain ⟨rfl, hq⟩ := hq
  have fin : ∀ {fr σ' ρ'}, Ext ρ w ρ' w' → Inv G.calm ρ' σ' w' → HoldsF (pre w.heap.size) ρ' w' fr a' → RetOK P G.calm σ.length fn (fun _ s => R s) fr σ' →
      a'.defers = [] ∧ ∃ u', ({ c₀ with mode := recM u } :: cs : List Frame) = { c₀ with mode := u' } :: cs ∧ ∃ v, (results fn a'.tmps).run P w' = .ok v w' ∧ ∃ v' ρ' σ', Ending.returned v = .returned v' ∧ settle u' = .returning ∧ Ext ρ w ρ' w' ∧ Inv G ρ' σ' w' ∧ R σ' := fun h1 h2 h3 h4 => by
    obtain ⟨k1, v, k2, ρ2, σ2, k3, k4, k5⟩ := ends_run hI.len h4 h1 h2 h3
    exact ⟨k1, _, rfl, v, k2, v, ρ2, σ2, rfl, hset, k3, k4.turn rfl, k5⟩
  cases e with
  | normal => obtain ⟨fr, σ', ρ', h1, h2, h3, h4⟩ := hq; exact fin h1 h2 h3 h4
  | ret => obtain ⟨fr, σ', ρ', h1, h2, h3, h4⟩ := hq; exact fin h1 h2 h3 h4
  | exit i => obtain ⟨_, _, _, _, _, _, h⟩ := hq; exact h.elim
  | goto l => exact hq.elim
  | panic c => obtain ⟨⟨_, _, _, _, _, _, _, _, h⟩, _⟩ := hq; exact h.elim
  | outgrown => exact hq.elim
end
end Go.Ab
