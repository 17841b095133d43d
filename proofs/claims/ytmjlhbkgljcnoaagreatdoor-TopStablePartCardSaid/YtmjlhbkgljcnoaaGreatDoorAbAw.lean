/- Code over abstract frames and stores: what it comes to, and that it does; the rule that enters a function. -/
import Derived.Test.YtmjlhbkgljcnoaaGreatDoorAbDraw
import Derived.Scope
set_option linter.unusedSimpArgs false
set_option linter.unusedVariables false
namespace Go.Ab
open Go Go.RowKit

/-- One frame and store may be taken for another: less is known of the second. n0: the objects that were there when the function began. -/
def Weak (G : Glob) (n0 : Nat) (fr : Fr) (σ : St) (fr' : Fr) (σ' : St) : Prop :=
  ∀ ρ0 w0 ρ w vs, ρ0.length = n0 → Ext ρ0 w0 ρ w → Inv G ρ σ w → RepL ρ w fr vs → ∃ ρ', Ext ρ0 w0 ρ' w ∧ Inv G ρ' σ' w ∧ RepL ρ' w fr' vs
def Wk (G : Glob) (n0 : Nat) (I : Fr → St → Prop) (fr : Fr) (σ : St) : Prop := ∃ fr' σ', Weak G n0 fr σ fr' σ' ∧ I fr' σ'
theorem Weak.refl (G : Glob) (n0 : Nat) (fr : Fr) (σ : St) : Weak G n0 fr σ fr σ := fun _ _ ρ _ _ _ hx hI hr => ⟨ρ, hx, hI, hr⟩
theorem Weak.trans {G : Glob} {n0 : Nat} {f f' f'' : Fr} {s s' s'' : St} (h : Weak G n0 f s f' s') (k : Weak G n0 f' s' f'' s'') : Weak G n0 f s f'' s'' := fun ρ0 w0 ρ w vs h0 hx hI hr =>
  let ⟨ρ', a, b, c⟩ := h ρ0 w0 ρ w vs h0 hx hI hr
  k ρ0 w0 ρ' w vs h0 a b c

section
variable (P : Program) (G : Glob)
def condA (a : A) (t e : Prop) : Prop := match a with
  | .d (.bool x) => (x = true → t) ∧ (x = false → e)
  | _ => False
/-- How a function is gone through: are the drawn regions taken in the text's order? before which regions is the proof cut? -/
structure Md where
  tx : Bool
  cuts : List Nat
  rnd : Bool
/-- The region that code begins with. -/
def headId : Code → Option Nat
  | .region id _ _ => some id
  | .seq a _ => headId a
  | .block _ c => headId c
  | .loop c => headId c
  | .scope c => headId c
  | _ => none
def cutB (l : List Nat) (c : Code) : Bool := match l with
  | [] => false
  | x :: r => (match headId c with | some id => id == x || r.contains id | none => false)
/-- What yield hands over goes to the parameters' slots. -/
def setPs : Fr → List Tmp → List A → Fr
  | fr, t :: ts, x :: xs => setPs (fr.set t x) ts xs
  | fr, _, _ => fr
/-- A round's end: object id is the loop's record; k: what yield's caller goes on with. -/
def endR (G : Glob) (n : Nat) (id l : Nat) (r : Loop) (fr : List A) (k : A → St → Prop) : Pst
  | .normal, _, st => ∃ st', Weak G n [] st [] st' ∧ st'[id]? = some (some (.lp l { r with state := .busy } fr)) ∧ k (.d (.bool true)) (st'.set id (some (.lp l r fr)))
  | .ret, _, st => ∃ st', Weak G n [] st [] st' ∧ st'[id]? = some (some (.lp l { r with state := .busy } fr)) ∧ k (.d (.bool false)) (st'.set id (some (.lp l { r with state := .done, pending := some .ret } fr)))
  | .exit i, _, st => ∃ st', Weak G n [] st [] st' ∧ st'[id]? = some (some (.lp l { r with state := .busy } fr)) ∧ k (.d (.bool false)) (st'.set id (some (.lp l { r with state := .done, pending := some (.exit i) } fr)))
/-- Behind a range over a function. -/
def endF (G : Glob) (n0 : Nat) (id l : Nat) (r : Loop) (fr : List A) (Q : Pst) (st : St) : Prop :=
  st[id]? = some (some (.lp l r fr)) ∧ Wk G n0 (Q .normal) fr (st.set id none) ∨
  st[id]? = some (some (.lp l { r with state := .done, pending := some .ret } fr)) ∧ Wk G n0 (Q .ret) fr (st.set id none) ∨
  ∃ i, st[id]? = some (some (.lp l { r with state := .done, pending := some (.exit i) } fr)) ∧ Wk G n0 (Q (.exit i)) fr (st.set id none)
/-- CODE. -/
def aw : Nat → Md → Code → Pst → Fr → St → Prop
  | _, _, .skip, Q, fr, σ => Q .normal fr σ
  | _, _, .region _ ops false, Q, fr, σ => awOps P G ops ops.toList (Q .normal) fr σ
  | _, tx, .region _ ops true, Q, fr, σ => bif tx.tx then awOps P G ops ops.toList (Q .normal) fr σ else ∃ p : Plan, p.depth ≤ ops.size ∧ p.check (infsOf ops) false 0 = true ∧ awPlan P G ops (Q .normal) p fr σ
  | n0, tx, .seq a b, Q, fr, σ => bif cutB tx.cuts b then
      ∃ I : Fr → St → Prop, aw n0 tx a (fun e fr σ => match e with | .normal => Wk G n0 I fr σ | .exit i => Q (.exit i) fr σ | .ret => Q .ret fr σ) fr σ ∧ ∀ fr σ, I fr σ → aw n0 tx b Q fr σ
    else aw n0 tx a (fun e fr σ => match e with | .normal => aw n0 tx b Q fr σ | .exit i => Q (.exit i) fr σ | .ret => Q .ret fr σ) fr σ
  | n0, tx, .cond c t e, Q, fr, σ => condA (ev G fr c) (aw n0 tx t Q fr σ) (aw n0 tx e Q fr σ)
  | n0, tx, .block id c, Q, fr, σ => aw n0 tx c (fun e fr σ => match e with | .normal => Q .normal fr σ | .exit i => if i = id then Q .normal fr σ else Q (.exit i) fr σ | .ret => Q .ret fr σ) fr σ
  | n0, tx, .loop c, Q, fr, σ => ∃ (I : Nat → Fr → St → Prop) (m0 : Nat), Wk G n0 (I m0) fr σ ∧ ∀ m fr σ, I m fr σ →
      aw n0 tx c (fun e fr' σ' => match e with | .normal => Wk G n0 (fun f s => ∃ m', m' < m ∧ I m' f s) fr' σ' | .exit i => Q (.exit i) fr' σ' | .ret => Q .ret fr' σ') fr σ
  | n0, tx, .rangeFunc g ps assign body, Q, fr, σ => bif tx.rnd then False else (∀ a s, ¬ G.pan a s) ∧ Wk G n0 (fun fr σ => bdL σ.length fr = true ∧ ∃ f first cap, ev G fr g = .fn (.func f) first cap ∧
      ∀ (l : Nat) (r : Loop), (∀ args st k, st[σ.length]? = some (some (.lp l r fr)) ∧ args.length = ps.size ∧
          aw st.length ⟨tx.tx, tx.cuts, true⟩ assign (fun e fr2 st2 => match e with
            | .normal => st2[σ.length]? = some (some (.lp l r fr)) ∧ aw st.length ⟨tx.tx, tx.cuts, true⟩ body (endR G st.length σ.length l r fr k) fr2 (st2.set σ.length (some (.lp l { r with state := .busy } fr)))
            | _ => False) (setPs fr ps.toList args) st → YC P G l args st k) →
        AC P G f (first ++ .fn (.yield l) [] [] :: cap) (σ ++ [some (.lp l r fr)]) fun _ st => endF G n0 σ.length l r fr Q st) fr σ
  | _, _, .exit id, Q, fr, σ => Q (.exit id) fr σ
  | _, _, .ret, Q, fr, σ => Q .ret fr σ
  | _, _, .label _, Q, fr, σ => Q .normal fr σ
  | n0, tx, .scope c, Q, fr, σ => aw n0 tx c Q fr σ
  | _, _, _, _, _, _ => False
end

section
variable {P : Program} {ρ ρ' : Ren} {w w' : World} {σ : St} {G : Glob}

/-- What stands behind code, seen from where the function began. -/
def Behind (G : Glob) (b : Df) (ρ0 : Ren) (w0 : World) (Q : Pst) : Exit → Act → World → Prop
  | .normal, a, w => ∃ fr σ ρ, Ext ρ0 w0 ρ w ∧ Inv G ρ σ w ∧ HoldsF b ρ w fr a ∧ Q .normal fr σ
  | .exit i, a, w => ∃ fr σ ρ, Ext ρ0 w0 ρ w ∧ Inv G ρ σ w ∧ HoldsF b ρ w fr a ∧ Q (.exit i) fr σ
  | .ret, a, w => ∃ fr σ ρ, Ext ρ0 w0 ρ w ∧ Inv G ρ σ w ∧ HoldsF b ρ w fr a ∧ Q .ret fr σ
  | .panic chain, a, w => Pan G ρ0 w0 chain w ∧ Dfs b w a
  | _, _, _ => False
/-- Are these slots written nowhere in the code? -/
def avoidsB (ks : List Nat) : Code → Bool
  | .region _ ops _ => ops.toList.all fun o => match o.dst with | some d => !ks.contains d | none => true
  | .seq a b => avoidsB ks a && avoidsB ks b
  | .cond _ a b => avoidsB ks a && avoidsB ks b
  | .block _ c => avoidsB ks c
  | .loop c => avoidsB ks c
  | .scope c => avoidsB ks c
  | _ => true
theorem avoids_nil (c : Code) : avoidsB [] c = true := by
  induction c with
  | region id ops d => simp only [avoidsB, List.all_eq_true]; intro o _; split <;> simp
  | seq a b iha ihb => simp [avoidsB, iha, ihb]
  | cond c a b iha ihb => simp [avoidsB, iha, ihb]
  | block id c ih => simpa [avoidsB] using ih
  | loop c ih => simpa [avoidsB] using ih
  | scope c ih => simpa [avoidsB] using ih
  | _ => rfl
theorem avoids_region {b : Df} {id : Nat} {ops : Array Oper} {d : Bool} (h : avoidsB (b.ks.map (·.1)) (.region id ops d) = true) : ∀ o ∈ ops.toList, okDst b o.dst := fun o ho t ht p hp e => by
  simp only [avoidsB, List.all_eq_true] at h
  have := h o ho
  rw [ht] at this
  simp only [Bool.not_eq_true', List.contains_eq_mem, decide_eq_false_iff_not, List.mem_map] at this
  exact this ⟨p, hp, e⟩

theorem stepR_scope {b : Frame} {a : Act} {k : List Item} {cs : List Frame} {w : World} {c : Code} : step P (lone (b.atR a (.code (.scope c) :: k)) cs w) = .next (lone (b.atR a (.code c :: .inScope c :: k)) cs w) :=
  step_lone_go (by simp [stepG, stepG.exec, Frame.atR])
theorem stepR_inScope {b : Frame} {a : Act} {k : List Item} {cs : List Frame} {w : World} {c : Code} : step P (lone (b.atR a (.inScope c :: k)) cs w) = .next (lone (b.atR a k) cs w) :=
  step_lone_go (by simp [stepG, stepG.exec, Frame.atR])
theorem wpIn_scope_straight {F : Fence} {n : Nat} {c : Code} {Q : Exit → Act → World → Prop} {a : Act} (h : c.wpIn F n P (Exit.noGoto Q) a w) : (Code.scope c).wpIn F n P Q a w := by
  intro b k cs hro hb hr
  have h0 : (lone (b.atR a (.code (.scope c) :: k)) cs w).fenced P F := fenced_calm hb hr rfl
  obtain ⟨e, a₁, w₁, hq, harr⟩ := h b (.inScope c :: k) cs hro hb hr
  cases e with
  | normal => exact ⟨.normal, a₁, w₁, hq, .head h0 stepR_scope (StepsIn.trans harr (.one (fenced_calm hb hr rfl) stepR_inScope))⟩
  | exit id =>
    have hx : exitTo id (.inScope c :: k) = exitTo id k := by simp [exitTo]
    exact ⟨.exit id, a₁, w₁, hq, fun k' hk => .head h0 stepR_scope (harr.1 k' (by rw [hx]; exact hk)), fun hr' hk => let ⟨k₁, h1, h2⟩ := harr.2 hr' (by rw [hx]; exact hk); ⟨k₁, h1, .head h0 stepR_scope h2⟩⟩
  | goto l => exact hq.elim
  | ret => exact ⟨_, a₁, w₁, hq, .of_steps (.one h0 stepR_scope) harr⟩
  | panic ch => exact ⟨_, a₁, w₁, hq, .of_steps (.one h0 stepR_scope) harr⟩
  | outgrown => exact ⟨_, a₁, w₁, hq, .of_steps (.one h0 stepR_scope) harr⟩

/-- The heap has turned at no block of ours. -/
theorem Inv.later (hI : Inv G ρ σ w) (hx : Ext ρ w ρ w') (hb : ∀ b, M ρ b → w'.heap[b]? = w.heap[b]?) : Inv G ρ σ w' :=
  ⟨hI.len, hI.inj, fun i b h => Nat.lt_of_lt_of_le (hI.lt i b h) hx.size, fun id o h => by
    rcases hI.obj id o h with ⟨b, h1, h2⟩ | h
    · exact .inl ⟨b, h1, h2.keep hx (hb b ⟨id, h1⟩)⟩
    · exact .inr h, fun g x h => (hI.glob g x h).ext hx, hI.bd, fun b hm ds => by rw [hb b hm]; exact hI.own b hm ds⟩
theorem Inv.aside (hI : Inv G ρ σ w) (ob : Obj) : Ext ρ w ρ (w.alloc ob) ∧ Inv G ρ σ (w.alloc ob) := by
  have hold : ∀ b, b < w.heap.size → (w.alloc ob).heap[b]? = w.heap[b]? := fun b hb => heap_alloc_old w _ hb
  have hx : Ext ρ w ρ (w.alloc ob) := ⟨rfl, rfl, rfl, by simp, Nat.le_refl _, fun _ _ h => .inl h, fun _ h _ => h, fun b hb _ => hold b hb, fun b vs e z h => ⟨vs, by rw [hold b (Array.getElem?_eq_some_iff.1 h).1]; exact h, rfl⟩⟩
  exact ⟨hx, hI.later hx fun b ⟨i, h⟩ => hold b (hI.lt i b h)⟩
/-- A loop's record, as it lies. -/
theorem Inv.lp_at (hI : Inv G ρ σ w) {id l : Nat} {r : Loop} {fr : List A} (h : σ[id]? = some (some (.lp l r fr))) : ρ[id]? = some (.live l) ∧ w.heap[l]? = some (.loop r) ∧ RepL ρ w fr r.tmps.toList := by
  rcases hI.obj id _ h with ⟨b, h1, rfl, h3, h4⟩ | ⟨_, h2⟩
  · exact ⟨h1, h3, h4⟩
  · cases h2
/-- A loop's record turns. -/
theorem Inv.lp_set (hI : Inv G ρ σ w) {id l : Nat} {r : Loop} {fr : List A} (h : σ[id]? = some (some (.lp l r fr))) (r' : Loop) (ht : r'.tmps = r.tmps) :
    Ext ρ w ρ (w.putObj l (.loop r')) ∧ Inv G ρ (σ.set id (some (.lp l r' fr))) (w.putObj l (.loop r')) := by
  obtain ⟨h1, h2, h3⟩ := hI.lp_at h
  have hl := hI.lt id l h1
  have hold : ∀ k, k ≠ l → (w.putObj l (.loop r')).heap[k]? = w.heap[k]? := fun k hk => World.putObj_heap_other hk
  have hx : Ext ρ w ρ (w.putObj l (.loop r')) := by
    refine ⟨rfl, rfl, rfl, by simp, Nat.le_refl _, fun _ _ h => .inl h, fun _ h _ => h, fun k _ hm => hold k (fun e => hm ⟨id, by rw [e]; exact h1⟩), fun k us e z hk => ?_⟩
    by_cases hkl : k = l
    · subst hkl; rw [h2] at hk; cases hk
    · exact ⟨us, by rw [hold k hkl]; exact hk, rfl⟩
  refine ⟨hx, by rw [List.length_set]; exact hI.len, hI.inj, fun i b hb => by rw [World.putObj_size]; exact hI.lt i b hb, fun i o ho => ?_, fun g x hg => (hI.glob g x hg).ext hx, by
    rw [List.length_set]; exact hI.bd.set id (fun o ho => by injection ho with ho; subst ho; exact (hI.bd id _ h : bdL σ.length fr = true)), fun b hb ds he => ?_⟩
  · rw [List.getElem?_set] at ho
    split at ho
    · rename_i e
      subst e
      split at ho
      · injection ho with ho; injection ho with ho; subst ho
        exact .inl ⟨l, h1, rfl, World.putObj_heap_same hl, by rw [ht]; exact h3.ext hx⟩
      · cases ho
    · rename_i hne
      rcases hI.obj i o ho with ⟨b, g1, g2⟩ | g
      · exact .inl ⟨b, g1, g2.keep hx (hold b (fun e => hne (hI.inj id i l h1 (by rw [← e]; exact g1))))⟩
      · exact .inr g
  · by_cases hbl : b = l
    · subst hbl; rw [World.putObj_heap_same hl] at he; cases he
    · rw [hold b hbl] at he; exact hI.own b hb ds he
theorem setPs_rep : ∀ (ps : List Tmp) {fr : Fr} {xs : List A} {us vs : List Value}, RepL ρ w fr us → RepL ρ w xs vs → RepL ρ w (setPs fr ps xs) ((ps.zip vs).foldl (fun tmps (p : Tmp × Value) => tmps.set p.1 p.2) us)
  | [], fr, xs, us, vs, h, _ => by cases xs <;> exact h
  | t :: ps, fr, [], us, [], h, _ => h
  | t :: ps, fr, [], us, _ :: _, _, k => by simp [RepL] at k
  | t :: ps, fr, _ :: _, us, [], _, k => by simp [RepL] at k
  | t :: ps, fr, x :: xs, us, v :: vs, h, k => by
    refine setPs_rep ps (fr := fr.set t x) (us := us.set t v) ⟨by simp [h.1], fun i y u hy hu => ?_⟩ ⟨by have := k.1; simpa using this, fun i y u hy hu => k.2 (i + 1) y u (by simpa using hy) (by simpa using hu)⟩
    rw [List.getElem?_set] at hy hu
    split at hy
    · rename_i e; subst e
      split at hy
      · rename_i hl
        rw [if_pos rfl, if_pos (by rw [← h.1]; exact hl)] at hu
        injection hy with hy; injection hu with hu; subst hy; subst hu; exact k.2 0 x v rfl rfl
      · cases hy
    · rename_i hne
      rw [if_neg hne] at hu
      exact h.2 i y u hy hu
theorem setPs_arr : ∀ (ps : List (Tmp × Value)) (us : Array Value), (ps.foldl (fun tmps (p : Tmp × Value) => tmps.setIfInBounds p.1 p.2) us).toList = ps.foldl (fun tmps (p : Tmp × Value) => tmps.set p.1 p.2) us.toList
  | [], _ => rfl
  | p :: ps, us => by
    rw [List.foldl_cons, List.foldl_cons, setPs_arr ps, Array.toList_setIfInBounds]
/-- The mark of a range over a function joins the others. -/
theorem Marks.cons {B : Nat} {ds : List Deferred} (h : Marks B w ds) (hB : B ≤ w.heap.size) (hw : w'.heap[w.heap.size]? = some (.deferred (some []))) (hk : ∀ (r : Nat) (ds : Option (List Deferred)), w.heap[r]? = some (Obj.deferred ds) → w'.heap[r]? = some (Obj.deferred ds)) :
    Marks B w' ({ target := .collected w.heap.size, args := #[] } :: ds) := by
  refine ⟨⟨_, rfl, hB, hw, ?_⟩, h.keep hk⟩
  intro d hd
  have : ∀ {ds : List Deferred}, Marks B w ds → ∀ d ∈ ds, d.target ≠ .collected w.heap.size := fun {ds} h => by
    induction ds with
    | nil => intro d hd; cases hd
    | cons e ds ih =>
      intro d hd
      obtain ⟨⟨r, rfl, h2, h3, h4⟩, h5⟩ := h
      rcases List.mem_cons.1 hd with rfl | hd
      · intro he
        injection he with he
        have := (Array.getElem?_eq_some_iff.1 h3).1
        omega
      · exact ih h5 d hd
  exact this h d hd

/-- What is to be shown of code. -/
def SoundAt (P : Program) (G : Glob) (c : Code) : Prop := ∀ {n0 : Nat} {tx : Md} {rn : Option Nat} {b : Df} {ρ0 : Ren} {w0 : World} (_ : ρ0.length = n0) (_ : b.B = w0.heap.size) (_ : tx.rnd = false → rn = none ∧ b.mks = true) (_ : (!tx.tx || lexCode c) = true) (_ : avoidsB (b.ks.map (·.1)) c = true) {Q : Pst} {fr : Fr} {σ : St} {ρ : Ren} {w : World} {a : Act},
    Ext ρ0 w0 ρ w → Inv G ρ σ w → HoldsF b ρ w fr a → aw P G n0 tx c Q fr σ → c.wpIn (RF rn) 0 P (Behind G b ρ0 w0 Q) a w
theorem range_sound {g : Operand} {ps : Array Tmp} {assign body : Code} (ha : SoundAt P G assign) (hb : SoundAt P G body) : SoundAt P G (.rangeFunc g ps assign body) := by
  intro n0 tx rn b ρ0 w0 h0 hB hn hc hav Q fr σ ρ w a hx hI hF h
  have hl1 : (!tx.tx || lexCode assign) = true := by revert hc; simp only [lexCode]; cases tx.tx <;> simp +contextual
  have hl2 : (!tx.tx || lexCode body) = true := by revert hc; simp only [lexCode]; cases tx.tx <;> simp +contextual
  simp only [aw] at h
  cases hr : tx.rnd with
  | true => rw [hr] at h; exact h.elim
  | false =>
  obtain ⟨rfl, hmk⟩ := hn hr
  rw [hr, cond_false] at h
  obtain ⟨hnp, fr1, σ1, hw1, hbd, f, first, cap, hg, hcall⟩ := h
  obtain ⟨ρ1, k1, k2, k3⟩ := hw1 ρ0 w0 ρ w _ h0 hx hI hF.2
  have hev := ev_rep k2 (⟨hF.1, k3⟩ : HoldsF b ρ1 w fr1 a) g
  rw [hg] at hev
  generalize hgv : a.eval g = gv at hev
  cases hev with
  | fn _ _ _ vs us l1 l2 r1 r2 =>
  refine wpIn_rangeFunc fun fn _ => ?_
  obtain ⟨x1, I1⟩ := k2.aside (.deferred (some []))
  obtain ⟨w1, hw1e⟩ : ∃ w1, w.alloc (.deferred (some [])) = w1 := ⟨_, rfl⟩
  have hD : w1.heap[w.heap.size]? = some (.deferred (some [])) := by rw [← hw1e]; exact World.alloc_heap_new w _
  have hs1 : w1.heap.size = w.heap.size + 1 := by rw [← hw1e]; simp
  rw [hw1e] at x1 I1
  obtain ⟨r, hre⟩ : ∃ r : Loop, ({ state := .ready, pending := none, fn, tmps := a.tmps, params := ps, assign, body, defers := w.heap.size } : Loop) = r := ⟨_, rfl⟩
  have hrt : r.tmps = a.tmps := by rw [← hre]
  have hrp : r.params = ps := by rw [← hre]
  have hrs : r.state = .ready := by rw [← hre]
  have hrn : ({ r with state := .ready, pending := none } : Loop) = r := by rw [← hre]
  obtain ⟨x2, I2⟩ := I1.push (ob := .loop r) (o := .lp w1.heap.size r fr1) (bdL_mono (Nat.le_succ _) fr1 hbd) (fun ρ' w' hx' hh => ⟨rfl, hh, by rw [hrt]; exact (k3.ext x1).ext hx'⟩) (fun ds h => by cases h)
  obtain ⟨l, hle⟩ : ∃ l, w1.heap.size = l := ⟨_, rfl⟩
  rw [hle] at x2 I2
  obtain ⟨w2, hw2e⟩ : ∃ w2, w1.alloc (.loop r) = w2 := ⟨_, rfl⟩
  rw [hw2e] at x2 I2
  have hY : ∀ args st k, st[σ1.length]? = some (some (.lp l r fr1)) ∧ args.length = ps.size ∧
        aw P G st.length ⟨tx.tx, tx.cuts, true⟩ assign (fun e fr2 st2 => match e with
          | .normal => st2[σ1.length]? = some (some (.lp l r fr1)) ∧ aw P G st.length ⟨tx.tx, tx.cuts, true⟩ body (endR G st.length σ1.length l r fr1 k) fr2 (st2.set σ1.length (some (.lp l { r with state := .busy } fr1)))
          | _ => False) (setPs fr1 ps.toList args) st → YC P G l args st k := fun args st k ⟨hst, hlen, haw⟩ ρe we ws hIe hLe => by
    obtain ⟨q1, q2, q3⟩ := hIe.lp_at hst
    have hsz : ws.toArray.size = r.params.size := by rw [hrp, ← hlen, hLe.1]; simp
    refine ⟨_, _, _, _, run_yield q2 hsz, ?_⟩
    have hra : r.assign = assign := by rw [← hre]
    have hrb : r.body = body := by rw [← hre]
    rw [hra, hrb]
    refine roundIn_of_wpIn trivial ?_
    have hF0 : HoldsF (.at we.heap.size) ρe we (setPs fr1 ps.toList args) { tmps := (r.params.zip ws.toArray).foldl (fun tmps (p : Tmp × Value) => tmps.setIfInBounds p.1 p.2) r.tmps, defers := [] } := by
      refine ⟨⟨⟨[], rfl, trivial, fun _ => rfl⟩, fun p hp => by cases hp⟩, ?_⟩
      have := setPs_rep ps.toList q3 hLe
      have e : ((r.params.zip ws.toArray).foldl (fun tmps (p : Tmp × Value) => tmps.setIfInBounds p.1 p.2) r.tmps).toList = (ps.toList.zip ws).foldl (fun tmps (p : Tmp × Value) => tmps.set p.1 p.2) r.tmps.toList := by
        rw [hrp, ← Array.foldl_toList, setPs_arr]
        simp
      simp only [e]
      exact this
    refine wpIn_mono (ha (tx := ⟨tx.tx, tx.cuts, true⟩) (rn := some l) (b := .at we.heap.size) hIe.len rfl (fun h => by cases h) hl1 (avoids_nil _) (Ext.refl ρe we) hIe hF0 haw) fun e a' w' hq => ?_
    cases e with
    | normal =>
      obtain ⟨fr2, st2, ρ2, h1, h2, h3, h4, h5⟩ := hq
      obtain ⟨p1, p2, p3⟩ := h2.lp_at h4
      obtain ⟨x3, I3⟩ := h2.lp_set h4 { r with state := .busy } rfl
      refine ⟨_, run_beginRound p2 hrs, ?_⟩
      refine wpIn_mono (hb (tx := ⟨tx.tx, tx.cuts, true⟩) (rn := some l) (b := .at we.heap.size) hIe.len rfl (fun h => by cases h) hl2 (avoids_nil _) (h1.trans x3) I3 (h3.ext h2 x3) h5) fun e a'' w'' hq => ?_
      have fin : ∀ (fr4 : Fr) (st4 : St) (ρ4 : Ren) (st' : St) (jump : Option Code) (r' : Loop), Ext ρe we ρ4 w'' → Inv G ρ4 st4 w'' → Weak G st.length [] st4 [] st' → st'[σ1.length]? = some (some (.lp l { r with state := .busy } fr1)) →
          ({ r with state := if jump.isNone then .ready else .done, pending := jump } : Loop) = r' → k (.d (.bool jump.isNone)) (st'.set σ1.length (some (.lp l r' fr1))) →
          ∃ v w3, (Instr.endRound l jump).run P w'' = .ok v w3 ∧ ∃ v' ρ' σ' r, Ending.returned v = .returned v' ∧ Ext ρe we ρ' w3 ∧ Inv G ρ' σ' w3 ∧ RepA ρ' w3 r v' ∧ k r σ' := fun fr4 st4 ρ4 st' jump r' g1 g2 g3 g4 g5 g6 => by
        obtain ⟨ρ5, j1, j2, _⟩ := g3 ρe we ρ4 w'' [] hIe.len g1 g2 ⟨rfl, fun i x v hx => by simp at hx⟩
        obtain ⟨t1, t2, t3⟩ := j2.lp_at g4
        obtain ⟨x5, I5⟩ := j2.lp_set g4 r' (by rw [← g5])
        refine ⟨_, _, run_endRound jump t2, _, ρ5, _, _, rfl, j1.trans (g5 ▸ x5), g5 ▸ I5, .d (.bool _), ?_⟩
        rw [g5]
        exact g6
      cases e with
      | normal =>
        obtain ⟨fr4, st4, ρ4, g1, g2, g3, st', g4, g5, g6⟩ := hq
        exact fin fr4 st4 ρ4 st' none r g1 g2 g4 g5 hrn g6
      | ret =>
        obtain ⟨fr4, st4, ρ4, g1, g2, g3, st', g4, g5, g6⟩ := hq
        exact fin fr4 st4 ρ4 st' (some .ret) _ g1 g2 g4 g5 rfl g6
      | exit i =>
        obtain ⟨fr4, st4, ρ4, g1, g2, g3, st', g4, g5, g6⟩ := hq
        exact fin fr4 st4 ρ4 st' (some (.exit i)) _ g1 g2 g4 g5 rfl g6
      | goto t => exact hq.elim
      | panic c => obtain ⟨⟨_, _, _, _, _, _, _, _, h⟩, _⟩ := hq; exact (hnp _ _ h).elim
      | outgrown => exact hq.elim
    | exit i => obtain ⟨_, _, _, _, _, _, h⟩ := hq; exact h.elim
    | ret => obtain ⟨_, _, _, _, _, _, h⟩ := hq; exact h.elim
    | goto t => exact hq.elim
    | panic c => obtain ⟨⟨_, _, _, _, _, _, _, _, h⟩, _⟩ := hq; exact (hnp _ _ h).elim
    | outgrown => exact hq.elim
  have hac := hcall l r hY
  have hx2 : Ext ρ1 w (ρ1 ++ [.live l]) w2 := x1.trans x2
  have hyl : RepL (ρ1 ++ [.live l]) w2 [.fn (.yield l) [] []] [Value.func (.yield l) #[] #[]] := ⟨rfl, fun i x v h1 h2 => by
    match i with
    | 0 => simp at h1 h2; subst h1; subst h2; exact .fn (.yield l) [] [] [] [] rfl rfl (fun i x v h => by simp at h) (fun i x v h => by simp at h)
    | i + 1 => simp at h1⟩
  obtain ⟨e1, e2⟩ := ac_enters I2 (repL_append (as := first) (vs := vs) (RepL.ext (⟨l1, r1⟩ : RepL ρ1 w first vs) hx2) (repL_append (bs := cap) (us := us) hyl (RepL.ext (⟨l2, r2⟩ : RepL ρ1 w cap us) hx2))) (by simpa using hac)
  have henter : (Instr.enterLoop fn a.tmps ps assign body (RF none).round).run P w = .ok (l, [{ target := .collected w.heap.size, args := #[] }]) w2 := by
    have := run_enterLoop_outer (P := P) (w := w) fn a.tmps ps assign body
    rw [hre, hw1e, hw2e, ← hs1, hle] at this
    exact this
  refine ⟨l, _, w2, { target := .fn (.func f) us.toArray, args := (vs ++ [Value.func (.yield l) #[] #[]]).toArray }, w2, f, _, w2, henter, ?_, (fun _ _ => trivial), ?_, (fun h => by cases h), callsIn_RF (Calls.mono e2 ?_)⟩
  · have hcst : ∀ v, a.eval (.const v) = v := fun _ => rfl
    simp [resolve, rangeCall, Deferred.ofValue, hgv, hcst]
  · simpa [invoke] using e1
  rintro e w3 (⟨v, ρ3, σ3, rr, rfl, y1, y2, y3, y4⟩ | ⟨_, _, _, _, _, _, _, _, _, _, h⟩)
  case inr => exact (hnp _ _ h).elim
  have hmarks : ∀ w4, Ext ρ3 w3 ρ3 w4 → Dfs b w4 { a with defers := { target := .collected w.heap.size, args := #[] } :: a.defers } := fun w4 hx4 => by
    obtain ⟨⟨ms, q1, q2, q3⟩, q4⟩ := hF.1
    refine ⟨⟨_ :: ms, by rw [q1]; rfl, Marks.cons q2 (by rw [hB]; exact hx.size) ?_ fun r ds h => ?_, fun h => by rw [hmk] at h; cases h⟩, q4⟩
    · exact y2.deferred hx4 _ _ (I2.deferred y1 _ _ (I1.deferred x2 _ _ hD))
    · exact y2.deferred hx4 _ _ (I2.deferred y1 _ _ (I1.deferred x2 _ _ (k2.deferred x1 _ _ h)))
  have fin : ∀ (r' : Loop) (e : Ex), σ3[σ1.length]? = some (some (.lp l r' fr1)) → r'.state ≠ .busy → r'.tmps = a.tmps → Wk G n0 (Q e) fr1 (σ3.set σ1.length none) →
      ∃ w4, (Instr.endLoop l).run P w3 = .ok r'.pending w4 ∧ ∃ fr5 σ5 ρ5, Ext ρ0 w0 ρ5 w4 ∧ Inv G ρ5 σ5 w4 ∧ HoldsF b ρ5 w4 fr5 { a with defers := { target := .collected w.heap.size, args := #[] } :: a.defers } ∧ Q e fr5 σ5 := fun r' e g1 g2 g3 ⟨fr5, σ5, g4, g5⟩ => by
    obtain ⟨t1, t2, t3⟩ := y2.lp_at g1
    obtain ⟨x6, I6⟩ := y2.lp_set g1 { r' with state := .exhausted } rfl
    obtain ⟨x7, I7⟩ := I6.kill σ1.length
    rw [List.set_set] at I7
    have hx7 : Ext ρ0 w0 (ρ3.set σ1.length .dead) (w3.putObj l (.loop { r' with state := .exhausted })) := ((k1.trans (hx2.trans y1)).trans x6).trans x7
    obtain ⟨ρ5, z1, z2, z3⟩ := g4 ρ0 w0 _ _ a.tmps.toList h0 hx7 I7 (((((k3.ext hx2).ext y1)).ext x6).ext x7)
    exact ⟨_, run_endLoop t2 g2, fr5, σ5, ρ5, z1, z2, ⟨hmarks _ x6, z3⟩, g5⟩
  rcases y4 with ⟨g1, g2⟩ | ⟨g1, g2⟩ | ⟨i, g1, g2⟩
  · obtain ⟨w4, q1, q2⟩ := fin r .normal g1 (by rw [hrs]; intro h; cases h) hrt g2
    refine ⟨_, w4, q1, ?_⟩
    rw [show r.pending = none by rw [← hre]]
    exact q2
  · obtain ⟨w4, q1, q2⟩ := fin _ .ret g1 (by intro h; cases h) hrt g2
    exact ⟨_, w4, q1, wpIn_ret q2⟩
  · obtain ⟨w4, q1, q2⟩ := fin _ (.exit i) g1 (by intro h; cases h) hrt g2
    exact ⟨_, w4, q1, wpIn_exit q2⟩
theorem Pan.dfs {b : Df} {a : Act} {chain : List PanicEntry} (h : Pan G ρ w chain w') (hI : Inv G ρ σ w) (hd : Dfs b w a) : Dfs b w' a := by
  obtain ⟨_, ρ', _, _, _, hx, _⟩ := h
  exact hd.ext hI hx
theorem aw_sound (hm : P.follows .mixedOrders = true) (c : Code) : SoundAt P G c := by
  induction c with
  | skip =>
    intro n0 tx rn b ρ0 w0 h0 hB hn hc hav Q fr σ ρ w a hx hI hF h
    exact wpIn_skip ⟨fr, σ, ρ, hx, hI, hF, by simpa only [aw] using h⟩
  | seq c d ihc ihd =>
    intro n0 tx rn b ρ0 w0 h0 hB hn hc hav Q fr σ ρ w a hx hI hF h
    simp only [aw] at h
    have hl1 : (!tx.tx || lexCode c) = true := by revert hc; simp only [lexCode]; cases tx.tx <;> simp +contextual
    have hl2 : (!tx.tx || lexCode d) = true := by revert hc; simp only [lexCode]; cases tx.tx <;> simp +contextual
    cases hcut : cutB tx.cuts d with
    | true =>
      rw [hcut, cond_true] at h
      obtain ⟨I, ha, hb⟩ := h
      refine wpIn_seq (wpIn_mono (ihc h0 hB hn hl1 (Bool.and_eq_true_iff.1 hav).1 hx hI hF ha) fun e a' w' hq => ?_)
      cases e with
      | normal =>
        obtain ⟨fr', σ', ρ', h1, h2, h3, fr2, σ2, hw, hI2⟩ := hq
        obtain ⟨ρ2, r1, r2, r3⟩ := hw ρ0 w0 ρ' w' _ h0 h1 h2 h3.2
        exact ihd h0 hB hn hl2 (Bool.and_eq_true_iff.1 hav).2 r1 r2 ⟨h3.1, r3⟩ (hb _ _ hI2)
      | exit i => exact hq
      | ret => exact hq
      | goto l => exact hq
      | panic c => exact hq
      | outgrown => exact hq
    | false =>
      rw [hcut, cond_false] at h
      refine wpIn_seq (wpIn_mono (ihc h0 hB hn hl1 (Bool.and_eq_true_iff.1 hav).1 hx hI hF h) fun e a' w' hq => ?_)
      cases e with
      | normal => obtain ⟨fr', σ', ρ', h1, h2, h3, h4⟩ := hq; exact ihd h0 hB hn hl2 (Bool.and_eq_true_iff.1 hav).2 h1 h2 h3 h4
      | exit i => exact hq
      | ret => exact hq
      | goto l => exact hq
      | panic c => exact hq
      | outgrown => exact hq
  | cond c t e iht ihe =>
    intro n0 tx rn b ρ0 w0 h0 hB hn hc hav Q fr σ ρ w a hx hI hF h
    simp only [aw, condA] at h
    have hev := ev_rep hI hF c
    split at h
    · rename_i x hcv
      rw [hcv] at hev
      exact wpIn_cond_split (bool_form hev) (fun ht => iht h0 hB hn (by revert hc; cases tx.tx <;> simp +contextual [lexCode]) (Bool.and_eq_true_iff.1 hav).1 hx hI hF (h.1 ht)) (fun he => ihe h0 hB hn (by revert hc; cases tx.tx <;> simp +contextual [lexCode]) (Bool.and_eq_true_iff.1 hav).2 hx hI hF (h.2 he))
    · exact h.elim
  | block id c ihc =>
    intro n0 tx rn b ρ0 w0 h0 hB hn hc hav Q fr σ ρ w a hx hI hF h
    simp only [aw] at h
    refine wpIn_block (wpIn_mono (ihc h0 hB hn (by revert hc; cases tx.tx <;> simp +contextual [lexCode]) hav hx hI hF h) fun e a' w' hq => ?_)
    cases e with
    | normal => exact hq
    | exit i =>
      obtain ⟨fr', σ', ρ', h1, h2, h3, h4⟩ := hq
      simp only [Exit.inBlock]
      simp only at h4
      by_cases hi : i = id
      · rw [if_pos hi] at h4 ⊢; exact ⟨fr', σ', ρ', h1, h2, h3, h4⟩
      · rw [if_neg hi] at h4 ⊢; exact ⟨fr', σ', ρ', h1, h2, h3, h4⟩
    | ret => exact hq
    | goto l => exact hq
    | panic c => exact hq
    | outgrown => exact hq
  | loop c ihc =>
    intro n0 tx rn b ρ0 w0 h0 hB hn hc hav Q fr σ ρ w a hx hI hF h
    simp only [aw] at h
    obtain ⟨I, m0, ⟨fr1, σ1, hw1, hI1⟩, hround⟩ := h
    obtain ⟨ρ1, k1, k2, k3⟩ := hw1 ρ0 w0 ρ w _ h0 hx hI hF.2
    refine wpIn_loop_ghost (fun m a w => ∃ fr σ ρ, Ext ρ0 w0 ρ w ∧ Inv G ρ σ w ∧ HoldsF b ρ w fr a ∧ I m fr σ) m0 ⟨fr1, σ1, ρ1, k1, k2, ⟨hF.1, k3⟩, hI1⟩ ?_
    rintro m a' w' ⟨fr2, σ2, ρ2, q1, q2, q3, q4⟩
    refine wpIn_mono (ihc h0 hB hn (by revert hc; cases tx.tx <;> simp +contextual [lexCode]) hav q1 q2 q3 (hround m fr2 σ2 q4)) fun e a'' w'' hq => ?_
    cases e with
    | normal =>
      obtain ⟨fr3, σ3, ρ3, h1, h2, h3, fr4, σ4, hw4, m', hlt, hI4⟩ := hq
      obtain ⟨ρ4, r1, r2, r3⟩ := hw4 ρ0 w0 ρ3 w'' _ h0 h1 h2 h3.2
      exact ⟨m', hlt, fr4, σ4, ρ4, r1, r2, ⟨h3.1, r3⟩, hI4⟩
    | exit i => exact hq
    | ret => exact hq
    | goto l => exact hq
    | panic c => exact hq
    | outgrown => exact hq
  | rangeFunc g ps assign body iha ihb =>
    intro n0 tx rn b ρ0 w0 h0 hB hn hc hav Q fr σ ρ w a hx hI hF h
    exact range_sound iha ihb h0 hB hn hc hav hx hI hF h
  | exit id =>
    intro n0 tx rn b ρ0 w0 h0 hB hn hc hav Q fr σ ρ w a hx hI hF h
    exact wpIn_exit ⟨fr, σ, ρ, hx, hI, hF, by simpa only [aw] using h⟩
  | ret =>
    intro n0 tx rn b ρ0 w0 h0 hB hn hc hav Q fr σ ρ w a hx hI hF h
    exact wpIn_ret ⟨fr, σ, ρ, hx, hI, hF, by simpa only [aw] using h⟩
  | label l =>
    intro n0 tx rn b ρ0 w0 h0 hB hn hc hav Q fr σ ρ w a hx hI hF h
    exact wpIn_label ⟨fr, σ, ρ, hx, hI, hF, by simpa only [aw] using h⟩
  | scope c ihc =>
    intro n0 tx rn b ρ0 w0 h0 hB hn hc hav Q fr σ ρ w a hx hI hF h
    simp only [aw] at h
    refine wpIn_scope_straight (wpIn_mono (ihc h0 hB hn (by revert hc; cases tx.tx <;> simp +contextual [lexCode]) hav hx hI hF h) fun e a' w' hq => ?_)
    cases e with
    | normal => exact hq
    | exit i => exact hq
    | ret => exact hq
    | goto l => exact hq
    | panic c => exact hq
    | outgrown => exact hq
  | region id ops draw =>
    intro n0 tx rn b ρ0 w0 h0 hB hn hc hav Q fr σ ρ w a hx hI hF h
    cases draw with
    | false =>
      simp only [aw] at h
      exact wpIn_region_list (awOps_sound ops.toList (avoids_region hav) hI hF h (fun ρ' σ' a' w' h1 h2 h3 chain w'' hp => ⟨hp.pre (hx.trans h1), hp.dfs h2 h3⟩) fun fr' σ' ρ' a' w' h1 h2 h3 h4 => ⟨fr', σ', ρ', hx.trans h1, h2, h3, h4⟩)
    | true =>
      simp only [aw] at h
      have fin : ∀ p : Plan, p.depth ≤ ops.size → p.check (infsOf ops) false 0 = true → awPlan P G ops (Q .normal) p fr σ → (Code.region id ops true).wpIn (RF rn) 0 P (Behind G b ρ0 w0 Q) a w := fun p h1 h2 h3 =>
        draw_sound hm (avoids_region hav) p h1 h2 hI hF h3 (fun ρ' σ' a' w' h1 h2 h3 chain w'' hp => ⟨hp.pre (hx.trans h1), hp.dfs h2 h3⟩) fun fr' σ' ρ' a' w' k1 k2 k3 k4 => ⟨fr', σ', ρ', hx.trans k1, k2, k3, k4⟩
      obtain ⟨tx, cuts, rnd⟩ := tx
      cases tx with
      | true =>
        simp only [lexCode, textB, textM, infsOf, List.length_map, Array.length_toList, Bool.not_true, Bool.false_or] at hc
        exact fin _ (by rw [text_depth]; exact Nat.le_refl _) hc (by have := text_plan (P := P) (G := G) ops.toList 0 (by simp) h; simpa using this)
      | false => obtain ⟨p, h1, h2, h3⟩ := h; exact fin p h1 h2 h3
  | goto l =>
    intro n0 tx rn b ρ0 w0 h0 hB hn hc hav Q fr σ ρ w a hx hI hF h
    simp only [aw] at h
  | refuse y =>
    intro n0 tx rn b ρ0 w0 h0 hB hn hc hav Q fr σ ρ w a hx hI hF h
    simp only [aw] at h

/-- The results, out of the frame. -/
def resK (P : Program) (σ : St) (fr : Fr) : List ResultVar → (List A → Prop) → Prop
  | [], k => k []
  | .tmp t :: r, k => resK P σ fr r fun as => k (fr.getD t .any :: as)
  | .cell a t :: r, k => rdLoad P σ t (fun p x => p ∧ resK P σ fr r fun as => k (x :: as)) (fr.getD a .any)
def packA : List A → A
  | [x] => x
  | as => .tup as
theorem loadAt_addr {t : TypeId} {v u : Value} (h : (Instr.loadAt t v).run P w = .ok u w) : (do loadVar t (← asAddr v)).run P w = .ok u w := by
  cases v with
  | pointer a =>
    cases a with
    | none => simp [Instr.loadAt, Instr.sureAddr] at h
    | some a => simpa [Instr.loadAt, Instr.sureAddr, asAddr] using h
  | _ => simp [Instr.loadAt, Instr.sureAddr] at h
def resF (tmps : Array Value) : ResultVar → Sem Value
  | .tmp t => pure (tmps.getD t undef)
  | .cell a t => do loadVar t (← asAddr (tmps.getD a undef))
theorem results_eq (fn : Func) (tmps : Array Value) : results fn tmps = (do let vs ← fn.results.mapM (resF tmps); pure (if h : vs.size = 1 then vs[0] else .tuple vs)) := rfl
def slotR : ResultVar → Nat
  | .tmp t => t
  | .cell a _ => a
theorem resK_sound {fr : Fr} {tmps : Array Value} (hI : Inv G ρ σ w) : ∀ (rs : List ResultVar) {k : List A → Prop}, (∀ r ∈ rs, RepA ρ w (fr.getD (slotR r) .any) (tmps.getD (slotR r) undef)) → resK P σ fr rs k → ∃ as vs, k as ∧ RepL ρ w as vs ∧
    (rs.mapM (resF tmps)).run P w = .ok vs w
  | [], k, hs, h => ⟨[], [], h, ⟨rfl, fun i x v hx => by simp at hx⟩, rfl⟩
  | .tmp t :: r, k, hs, h => by
    obtain ⟨as, vs, h1, h2, h3⟩ := resK_sound hI r (k := fun as => k (fr.getD t .any :: as)) (fun r hr => hs r (List.mem_cons_of_mem _ hr)) h
    refine ⟨_, tmps.getD t undef :: vs, h1, ⟨by simp [h2.1], fun i x v hx hv => ?_⟩, ?_⟩
    · match i with
      | 0 => injection hx with hx; injection hv with hv; subst hx; subst hv; exact hs _ (List.mem_cons_self ..)
      | i + 1 => exact h2.2 i x v (by simpa using hx) (by simpa using hv)
    · simp only [List.mapM_cons, resF, Sem.run_bind, Sem.run_pure, Result.andThen_ok, h3]
  | .cell x t :: r, k, hs, h => by
    simp only [resK] at h
    obtain ⟨p, y, ⟨hp, hk⟩, hs'⟩ := rdLoad_sound (P := P) hI (hs _ (List.mem_cons_self ..)) h
    obtain ⟨v, h1, h2⟩ := hs' hp
    obtain ⟨as, vs, h4, h5, h6⟩ := resK_sound hI r (fun r hr => hs r (List.mem_cons_of_mem _ hr)) hk
    refine ⟨_, v :: vs, h4, ⟨by simp [h5.1], fun i x v hx hv => ?_⟩, ?_⟩
    · match i with
      | 0 => simp at hx hv; subst hx; subst hv; exact h2
      | i + 1 => exact h5.2 i x v (by simpa using hx) (by simpa using hv)
    · have he : (resF tmps (.cell x t)).run P w = .ok v w := loadAt_addr h1
      simp only [List.mapM_cons, Sem.run_bind, he, Result.andThen_ok, h6, Sem.run_pure]

/-- What a function must come to at its end. -/
def RetOK (P : Program) (G : Glob) (n0 : Nat) (fn : Func) (R : A → St → Prop) (fr : Fr) (σ : St) : Prop :=
  resK P σ fr fn.results.toList fun as => ∃ r σ', Weak G n0 [packA as] σ [r] σ' ∧ R r σ'
def Ends (P : Program) (G : Glob) (n0 : Nat) (fn : Func) (R : A → St → Prop) : Pst
  | .normal, fr, σ => RetOK P G n0 fn R fr σ
  | .ret, fr, σ => RetOK P G n0 fn R fr σ
  | .exit _, _, _ => False

theorem pack_rep {as : List A} {vs : List Value} (h : RepL ρ w as vs) : RepA ρ w (packA as) (if h : vs.toArray.size = 1 then vs.toArray[0] else .tuple vs.toArray) := by
  match as, vs, h with
  | [], [], h => exact .tup [] [] rfl (fun i x v hx => by simp at hx)
  | [x], [v], h => exact h.2 0 x v rfl rfl
  | x :: y :: as, v :: u :: vs, h =>
    rw [dif_neg (by simp)]
    exact .tup _ _ h.1 h.2
  | [], _ :: _, h => simp [RepL] at h
  | [_], [], h => simp [RepL] at h
  | [_], _ :: _ :: _, h => simp [RepL] at h
  | _ :: _ :: _, [], h => simp [RepL] at h
  | _ :: _ :: _, [_], h => simp [RepL] at h

theorem RepD.put {m : Nat → Prop} {x : D} {v : Value} (hs : w.heap.size ≤ w'.heap.size) (hc : ∀ a v, w.cell? a = some v → w'.cell? a = some v) (h : RepD w m x v) : RepD w' m x v := by
  induction h with
  | int k n => exact .int k n
  | bool b => exact .bool b
  | str s => exact .str s
  | nilp => exact .nilp
  | nilf => exact .nilf
  | nili => exact .nili
  | nilm => exact .nilm
  | nils => exact .nils
  | sl0 sz a c => exact .sl0 sz a c
  | sl sz xs b o c vs hm hb hcp len one cell rep ih => exact .sl sz xs b o c vs hm (Nat.lt_of_lt_of_le hb hs) hcp len one (fun i x j y h1 h2 => hc _ _ (cell i x j y h1 h2)) ih
  | agg cs vs len one rep ih => exact .agg cs vs len one ih
theorem RepA.put {x : A} {v : Value} (hs : w.heap.size ≤ w'.heap.size) (hc : ∀ a v, w.cell? a = some v → w'.cell? a = some v) (hh : ∀ (b : Nat) vs e z, w.heap[b]? = some (.cells vs e z) → w'.heap[b]? = some (.cells vs e z)) (h : RepA ρ w x v) : RepA ρ w' x v := by
  induction h with
  | d h => exact .d (h.put hs hc)
  | ea x off b o vs hm hb one cell rep => exact .ea x off b o vs hm (Nat.lt_of_lt_of_le hb hs) one (fun j y h1 => hc _ _ (cell j y h1)) (fun j y h1 => (rep j y h1).put hs hc)
  | ref off h => exact .ref off h
  | refDead off v h => exact .refDead off v h
  | rs h hb hcp hsz ho => exact .rs h (hh _ _ _ _ hb) hcp hsz ho
  | rsEmpty sz ow h => exact .rsEmpty sz ow h
  | rsDead sz off len ow v h => exact .rsDead sz off len ow v h
  | mapr h => exact .mapr h
  | mapDead v h => exact .mapDead v h
  | agg cs vs len one rep ih => exact .agg cs vs len one ih
  | tup cs vs len rep ih => exact .tup cs vs len ih
  | fn f cs ds vs us len len' rep rep' ih ih' => exact .fn f cs ds vs us len len' ih ih'
  | ifc t h ih => exact .ifc t ih
  | grd c h h' ih => exact .grd c ih h'
  | any v => exact .any v
/-- A mark's block is shut. -/
theorem Inv.shut {ρ0 : Ren} {w0 : World} (hx : Ext ρ0 w0 ρ w) (hI : Inv G ρ σ w) {r : Nat} {ds : Option (List Deferred)} (hr : w.heap[r]? = some (.deferred ds)) (h0 : w0.heap.size ≤ r) (o : Option (List Deferred)) :
    Ext ρ0 w0 ρ (w.putObj r (.deferred o)) ∧ Inv G ρ σ (w.putObj r (.deferred o)) ∧ ∀ (x : A) (v : Value), RepA ρ w x v → RepA ρ (w.putObj r (.deferred o)) x v := by
  have hold : ∀ k, k ≠ r → (w.putObj r (.deferred o)).heap[k]? = w.heap[k]? := fun k hk => World.putObj_heap_other hk
  have hcell : ∀ a v, w.cell? a = some v → (w.putObj r (.deferred o)).cell? a = some v := fun a v h => by
    have hne : a.block ≠ r := fun e => by
      simp only [World.cell?, e, hr] at h
      cases h
    rw [← h]
    simp only [World.cell?, hold _ hne]
  have hh : ∀ (b : Nat) vs e z, w.heap[b]? = some (.cells vs e z) → (w.putObj r (.deferred o)).heap[b]? = some (.cells vs e z) := fun b vs e z h => by
    rw [hold b (fun e => by rw [e, hr] at h; cases h)]; exact h
  have hsz : w.heap.size ≤ (w.putObj r (.deferred o)).heap.size := by simp
  have hrep : ∀ (x : A) (v : Value), RepA ρ w x v → RepA ρ (w.putObj r (.deferred o)) x v := fun x v h => h.put hsz hcell hh
  refine ⟨⟨hx.os, hx.tape, hx.output, Nat.le_trans hx.size hsz, hx.len, hx.ids, hx.fresh, fun b hb hm => ?_, fun b vs e z h => ?_⟩, ⟨hI.len, hI.inj, fun i b h => Nat.lt_of_lt_of_le (hI.lt i b h) hsz, fun id o' h => ?_, fun g x h => hrep _ _ (hI.glob g x h), hI.bd, fun b hb ds' he => ?_⟩, hrep⟩
  · rw [hold b (by omega)]; exact hx.block b hb hm
  · obtain ⟨vs', h1, h2⟩ := hx.shape b vs e z h
    exact ⟨vs', hh _ _ _ _ h1, h2⟩
  · rcases hI.obj id o' h with ⟨b, h1, h2⟩ | h1
    · refine .inl ⟨b, h1, ?_⟩
      have hb : (w.putObj r (.deferred o)).heap[b]? = w.heap[b]? := hold b (fun e => hI.own b ⟨id, h1⟩ ds (by rw [e]; exact hr))
      cases o' with
      | cells cs =>
        obtain ⟨us, e, k1, k2, k3⟩ := h2
        exact ⟨us, e, by rw [hb]; exact k1, k2, fun i x hx' => let ⟨v, q1, q2, q3⟩ := k3 i x hx'; ⟨v, q1, q2, hrep _ _ q3⟩⟩
      | map es =>
        obtain ⟨ms, clock, k1, k2, k3⟩ := h2
        exact ⟨ms, clock, by rw [hb]; exact k1, k2, fun i x m hx' hm => let ⟨q1, q2⟩ := k3 i x m hx' hm; ⟨q1.put hsz hcell, hrep _ _ q2⟩⟩
      | lp l r fr =>
        obtain ⟨k1, k2, k3⟩ := h2
        exact ⟨k1, by rw [hb]; exact k2, ⟨k3.1, fun i x v h1 h2 => hrep _ _ (k3.2 i x v h1 h2)⟩⟩
    · exact .inr h1
  · by_cases hbr : b = r
    · subst hbr; exact hI.own b hb ds hr
    · rw [hold b hbr] at he; exact hI.own b hb ds' he
/-- The marks are shut, one by one; then what was there before them. -/
theorem marks_sound {fn : Func} {R : Ending → World → Prop} {ρ0 : Ren} {w0 : World} {tmps : Array Value} {T : List Deferred} {u : FrameMode} (hu : u ≠ .run) : ∀ {ds : List Deferred} {w : World}, Ext ρ0 w0 ρ w → Inv G ρ σ w → Marks w0.heap.size w ds →
    (∀ w', Ext ρ0 w0 ρ w' → Inv G ρ σ w' → (∀ (x : A) (v : Value), RepA ρ w x v → RepA ρ w' x v) → LeavesInM (RF none) 0 P fn tmps R T u w') → LeavesInM (RF none) 0 P fn tmps R (ds ++ T) u w
  | [], w, hx, hI, _, hT => hT w hx hI fun _ _ h => h
  | d :: ds, w, hx, hI, ⟨⟨r, hd, h1, h2, h3⟩, hM⟩, hT => by
    obtain ⟨x1, I1, hrep⟩ := hI.shut hx h2 h1 none
    refine ⟨hu, .inl ⟨r, _, by rw [hd], run_takeDeferred h2, marks_sound hu x1 I1 ?_ fun w' k1 k2 k3 => hT w' k1 k2 fun x v h => k3 x v (hrep x v h)⟩⟩
    have : ∀ {ds : List Deferred}, (∀ d' ∈ ds, d'.target ≠ .collected r) → Marks w0.heap.size w ds → Marks w0.heap.size (w.putObj r (.deferred none)) ds := fun {ds} hne hM => by
      induction ds with
      | nil => trivial
      | cons e ds ih =>
        obtain ⟨⟨r', g1, g2, g3, g4⟩, g5⟩ := hM
        refine ⟨⟨r', g1, g2, ?_, g4⟩, ih (fun d' hd' => hne d' (List.mem_cons_of_mem _ hd')) g5⟩
        rw [World.putObj_heap_other (fun e' => hne _ (List.mem_cons_self ..) (by rw [g1, e']))]
        exact g3
    exact this h3 hM
/-- At the end: the results are read. -/
theorem res_sound {n0 : Nat} {fn : Func} {R : A → St → Prop} {ρ0 : Ren} {w0 : World} {fr : Fr} {tmps : Array Value} (h0 : ρ0.length = n0) (h : RetOK P G n0 fn R fr σ) (hx : Ext ρ0 w0 ρ w) (hI : Inv G ρ σ w) (hs : ∀ r ∈ fn.results.toList, RepA ρ w (fr.getD (slotR r) .any) (tmps.getD (slotR r) undef)) :
    LeavesInM (RF none) 0 P fn tmps (Called P G ρ0 w0 R) [] .returning w := by
  obtain ⟨as, vs, ⟨r, σ', hw, hR⟩, hrep, hrun⟩ := resK_sound hI fn.results.toList hs h
  have hp := pack_rep hrep
  obtain ⟨ρ', k1, k2, k3⟩ := hw ρ0 w0 ρ w [if h : vs.toArray.size = 1 then vs.toArray[0] else .tuple vs.toArray] h0 hx hI ⟨rfl, fun i x v hx hv => by
    match i with
    | 0 => injection hx with hx; injection hv with hv; subst hx; subst hv; exact hp
    | i + 1 => simp at hx⟩
  refine ⟨_, ?_, .inl ⟨_, ρ', σ', r, rfl, k1, k2, k3.2 0 r _ rfl rfl, hR⟩⟩
  rw [results_eq]
  simp only [Array.mapM_eq_mapM_toList, Sem.run_bind, Sem.run_map, hrun, Result.andThen_ok, Sem.run_pure]
theorem ret_sound {b : Df} {n0 : Nat} {fn : Func} {R : A → St → Prop} {ρ0 : Ren} {w0 : World} {fr : Fr} {a : Act} (hb : b.T = []) (hB : b.B = w0.heap.size) (h0 : ρ0.length = n0) (h : RetOK P G n0 fn R fr σ) (hx : Ext ρ0 w0 ρ w) (hI : Inv G ρ σ w) (hF : HoldsF b ρ w fr a) :
    LeavesInM (RF none) 0 P fn a.tmps (Called P G ρ0 w0 R) a.defers .returning w := by
  obtain ⟨⟨⟨ms, h1, h2, _⟩, _⟩, hL⟩ := hF
  rw [h1, hb]
  exact marks_sound (by simp) hx hI (hB ▸ h2) fun w' k1 k2 k3 => res_sound h0 h k1 k2 fun r _ => k3 _ _ (slot_rep hL (slotR r))
theorem pan_sound {b : Df} {fn : Func} {R : A → St → Prop} {ρ0 : Ren} {w0 : World} {a : Act} {chain : List PanicEntry} (hb : b.T = []) (hB : b.B = w0.heap.size) (h : Pan G ρ0 w0 chain w) (hd : Dfs b w a) :
    LeavesInM (RF none) 0 P fn a.tmps (Called P G ρ0 w0 R) a.defers (.panicking chain) w := by
  obtain ⟨⟨ms, h1, h2, _⟩, _⟩ := hd
  obtain ⟨v, ρ', σ', r, g1, g2, g3, g4, g5⟩ := h
  rw [h1, hb]
  exact marks_sound (by simp) g2 g3 (hB ▸ h2) fun w' k1 k2 k3 => .inr ⟨chain, rfl, v, ρ', σ', r, g1, k1, k2, k3 _ _ g4, g5⟩

/-- ████ A FUNCTION IS ENTERED ████ -/
theorem ac_enterB (hm : P.follows .mixedOrders = true) {tx : Md} {f : FuncId} {fn : Func} {c : Code} {n : Nat} {args : List A} {R : A → St → Prop} (hf : P.funcs[f]? = some fn) (hb : fn.body = some c) (hn : fn.ntmps = n) (hcall : callable P f = true)
    (hlex : (!tx.tx || lexCode c) = true) (h : Bd σ.length σ → aw P G σ.length tx c (Ends P G σ.length fn R) (args ++ List.replicate (n - args.length) .any) σ) : AC P G f args σ R := by
  refine ⟨hcall, fun ρ w vs hI hL => ?_⟩
  refine (callsIn_wide (n := 0)).1 (callsIn_of_wp_marks (F := RF none) hf hb trivial ?_ rfl)
  have hF : HoldsF (.at w.heap.size) ρ w (args ++ List.replicate (n - args.length) .any) { tmps := vs.toArray ++ Array.replicate (fn.ntmps - vs.toArray.size) undef, defers := [] } := by
    refine ⟨⟨⟨[], rfl, trivial, fun _ => rfl⟩, fun p hp => by cases hp⟩, by have := hL.1; simp [hn]; omega, fun i x v hx hv => ?_⟩
    by_cases hi : i < args.length
    · rw [List.getElem?_append_left hi] at hx
      simp only [Array.toList_append] at hv
      rw [List.getElem?_append_left (by have := hL.1; simpa using by omega)] at hv
      exact hL.2 i x v hx hv
    · rw [List.getElem?_append_right (by omega), List.getElem?_replicate] at hx
      split at hx
      · injection hx with hx; subst hx; exact .any _
      · cases hx
  refine wpIn_mono (aw_sound hm c (rn := none) (b := .at w.heap.size) hI.len rfl (fun _ => ⟨rfl, rfl⟩) hlex (avoids_nil _) (Ext.refl ρ w) hI hF (h hI.bd)) fun e a' w' hq => ?_
  cases e with
  | normal =>
    obtain ⟨fr, σ', ρ', h1, h2, h3, h4⟩ := hq
    exact ret_sound rfl rfl hI.len h4 h1 h2 h3
  | ret =>
    obtain ⟨fr, σ', ρ', h1, h2, h3, h4⟩ := hq
    exact ret_sound rfl rfl hI.len h4 h1 h2 h3
  | exit i => obtain ⟨_, _, _, _, _, _, h⟩ := hq; exact h.elim
  | goto l => exact hq.elim
  | panic c => exact pan_sound rfl rfl hq.1 hq.2
  | outgrown => exact hq.elim

/-- The same, all its drawn regions in the text's order. -/
theorem ac_enter (hm : P.follows .mixedOrders = true) {f : FuncId} {fn : Func} {c : Code} {n : Nat} {args : List A} {R : A → St → Prop} (hf : P.funcs[f]? = some fn) (hb : fn.body = some c) (hn : fn.ntmps = n) (hcall : callable P f = true)
    (h : Bd σ.length σ → aw P G σ.length ⟨true, [], false⟩ c (Ends P G σ.length fn R) (args ++ List.replicate (n - args.length) .any) σ) (hlex : lexCode c = true := by kernel_rfl) : AC P G f args σ R := ac_enterB hm hf hb hn hcall (by simpa using hlex) h
/-- The same, its drawn regions each by a plan of its own. -/
theorem ac_enter' (hm : P.follows .mixedOrders = true) {f : FuncId} {fn : Func} {c : Code} {n : Nat} {args : List A} {R : A → St → Prop} (hf : P.funcs[f]? = some fn) (hb : fn.body = some c) (hn : fn.ntmps = n) (hcall : callable P f = true)
    (h : Bd σ.length σ → aw P G σ.length ⟨false, [], false⟩ c (Ends P G σ.length fn R) (args ++ List.replicate (n - args.length) .any) σ) : AC P G f args σ R := ac_enterB hm hf hb hn hcall rfl h
/-- The same two, the proof cut before some regions. -/
theorem ac_enterC (cuts : List Nat) (hm : P.follows .mixedOrders = true) {f : FuncId} {fn : Func} {c : Code} {n : Nat} {args : List A} {R : A → St → Prop} (hf : P.funcs[f]? = some fn) (hb : fn.body = some c) (hn : fn.ntmps = n) (hcall : callable P f = true)
    (h : Bd σ.length σ → aw P G σ.length ⟨true, cuts, false⟩ c (Ends P G σ.length fn R) (args ++ List.replicate (n - args.length) .any) σ) (hlex : lexCode c = true := by kernel_rfl) : AC P G f args σ R := ac_enterB hm hf hb hn hcall (by simpa using hlex) h
theorem ac_enterC' (cuts : List Nat) (hm : P.follows .mixedOrders = true) {f : FuncId} {fn : Func} {c : Code} {n : Nat} {args : List A} {R : A → St → Prop} (hf : P.funcs[f]? = some fn) (hb : fn.body = some c) (hn : fn.ntmps = n) (hcall : callable P f = true)
    (h : Bd σ.length σ → aw P G σ.length ⟨false, cuts, false⟩ c (Ends P G σ.length fn R) (args ++ List.replicate (n - args.length) .any) σ) : AC P G f args σ R := ac_enterB hm hf hb hn hcall rfl h

/-- OBJECTS ARE LET GO that nothing names any more. -/
theorem Weak.cut {n0 : Nat} {fr : Fr} {σ junk : St} (hn : n0 ≤ σ.length) (hbd : Bd σ.length σ) (hfr : bdL σ.length fr = true) : Weak G n0 fr (σ ++ junk) fr σ := fun ρ0 w0 ρ w vs h0 hx hI hr => by
  have hlen : ρ.length = σ.length + junk.length := by have := hI.len; simpa using this
  have hget : ∀ i, i < σ.length → (ρ.take σ.length)[i]? = ρ[i]? := fun i hi => List.getElem?_take_of_lt hi
  have hsub : ∀ (i : Nat) (r : Rs), (ρ.take σ.length)[i]? = some r → i < σ.length ∧ ρ[i]? = some r := fun i r h => by
    have hi : i < σ.length := by
      have := (List.getElem?_eq_some_iff.1 h).1
      simp at this; omega
    exact ⟨hi, by rw [← hget i hi]; exact h⟩
  have hM : ∀ b, M (ρ.take σ.length) b → M ρ b := fun b ⟨i, h⟩ => ⟨i, (hsub i _ h).2⟩
  refine ⟨ρ.take σ.length, ⟨hx.os, hx.tape, hx.output, hx.size, by simp; omega, fun id r h => ?_, fun b h hlt => hx.fresh b (hM b h) hlt, hx.block, hx.shape⟩, ⟨by simp; omega, fun i j b h1 h2 => hI.inj i j b (hsub i _ h1).2 (hsub j _ h2).2, fun i b h => hI.lt i b (hsub i _ h).2, fun id o h => ?_, fun g x h => (hI.glob g x h).cut hget hM rfl, hbd, fun b hb => hI.own b (hM b hb)⟩,
    ⟨hr.1, fun i x v h1 h2 => (hr.2 i x v h1 h2).cut hget hM (bdL_spec hfr i x h1)⟩⟩
  · have hid : id < ρ0.length := (List.getElem?_eq_some_iff.1 h).1
    rw [hget id (by omega)]
    exact hx.ids id r h
  · have hid : id < σ.length := (List.getElem?_eq_some_iff.1 h).1
    have hob := hbd id o h
    rcases hI.obj id o (by rw [List.getElem?_append_left hid]; exact h) with ⟨b, h1, h2⟩ | ⟨h1, h2⟩
    · refine .inl ⟨b, by rw [hget id hid]; exact h1, ?_⟩
      cases o with
      | cells cs =>
        obtain ⟨vs, e, a1, a2, a3⟩ := h2
        exact ⟨vs, e, a1, a2, fun i x hx' => let ⟨v, b1, b2, b3⟩ := a3 i x hx'; ⟨v, b1, b2, b3.cut hget hM (bdL_spec hob i x hx')⟩⟩
      | map es =>
        obtain ⟨ms, c, a1, a2, a3⟩ := h2
        refine ⟨ms, c, a1, a2, fun i x m hx' hm => ⟨?_, (a3 i x m hx' hm).2.cut hget hM ?_⟩⟩
        · have := (RepA.d (a3 i x m hx' hm).1 : RepA ρ w (.d x.1) m.key).cut hget hM rfl
          cases this with | d h => exact h
        · simp only [Ob.bd, List.all_eq_true] at hob
          exact hob x (List.mem_of_getElem? hx')
      | lp l r fr =>
        obtain ⟨a0, a1, a2⟩ := h2
        exact ⟨a0, a1, ⟨a2.1, fun i x v h1 h2 => (a2.2 i x v h1 h2).cut hget hM (bdL_spec hob i x h1)⟩⟩
    · exact .inr ⟨by rw [hget id hid]; exact h1, h2⟩

def maskN (live : List Nat) : Nat → Fr → Fr
  | _, [] => []
  | i, x :: r => (if live.contains i then x else .any) :: maskN live (i + 1) r
theorem maskN_get (live : List Nat) : ∀ (fr : Fr) (n i : Nat), (maskN live n fr)[i]? = (fr[i]?).map fun x => if live.contains (n + i) then x else .any
  | [], n, i => by simp [maskN]
  | x :: fr, n, 0 => by simp [maskN]
  | x :: fr, n, i + 1 => by
    simp only [maskN, List.getElem?_cons_succ, maskN_get live fr (n + 1) i]
    rw [show n + 1 + i = n + (i + 1) by omega]
theorem maskN_len (live : List Nat) : ∀ (fr : Fr) (n : Nat), (maskN live n fr).length = fr.length
  | [], _ => rfl
  | x :: fr, n => by simp [maskN, maskN_len live fr (n + 1)]
theorem Weak.mask {n0 : Nat} {fr : Fr} {σ : St} (live : List Nat) : Weak G n0 fr σ (maskN live 0 fr) σ := fun ρ0 w0 ρ w vs h0 hx hI hr => by
  refine ⟨ρ, hx, hI, by rw [maskN_len]; exact hr.1, fun i x v h1 h2 => ?_⟩
  rw [maskN_get] at h1
  simp only [Option.map_eq_some_iff] at h1
  obtain ⟨y, hy, rfl⟩ := h1
  split
  · exact hr.2 i y v hy h2
  · exact .any _
theorem Wk.mask {n0 : Nat} {fr : Fr} {σ : St} {I : Fr → St → Prop} (live : List Nat) (h : I (maskN live 0 fr) σ) : Wk G n0 I fr σ := ⟨_, σ, Weak.mask live, h⟩
theorem Wk.cut {n0 : Nat} {fr : Fr} {σ junk : St} {I : Fr → St → Prop} (live : List Nat) (hn : n0 ≤ σ.length) (hbd : Bd σ.length σ) (hfr : bdL σ.length (maskN live 0 fr) = true) (h : I (maskN live 0 fr) σ) : Wk G n0 I fr (σ ++ junk) :=
  ⟨_, σ, (Weak.mask live).trans (Weak.cut hn hbd hfr), h⟩
theorem Bd.append {n : Nat} {σ l : St} (h : Bd n σ) (hl : ∀ o, some o ∈ l → o.bd n = true) : Bd n (σ ++ l) := fun id o ho => by
  by_cases hid : id < σ.length
  · rw [List.getElem?_append_left hid] at ho; exact h id o ho
  · rw [List.getElem?_append_right (by omega)] at ho
    exact hl o (List.mem_of_getElem? ho)
/-- The plain end: data is handed back, and what was made is let go. -/
theorem ret_d {σ junk : St} {x : D} {R : A → St → Prop} (hbd : Bd σ.length σ) (h : R (.d x) σ) : ∃ r σ', Weak G σ.length [.d x] (σ ++ junk) [r] σ' ∧ R r σ' :=
  ⟨_, σ, Weak.cut (Nat.le_refl _) hbd rfl, h⟩
theorem ret_d0 {σ : St} {x : D} {R : A → St → Prop} (h : R (.d x) σ) : ∃ r σ', Weak G σ.length [.d x] σ [r] σ' ∧ R r σ' := ⟨_, σ, Weak.refl _ _ _ _, h⟩
end
end Go.Ab
