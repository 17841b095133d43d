/- Regions that draw their order: readings may come in whatever order, what writes comes alone. -/
import Derived.Test.YtmjlhbkgljcnoaaGreatDoorAbGrow
namespace Go.Ab
open Go Go.RowKit

section
variable {P : Program} {ρ ρ' : Ren} {w w' : World} {σ : St} {G : Glob} {rn : Option Nat}

/-- A reading's answer is laid before whatever follows. -/
abbrev Par (F : (Prop → A → Prop) → Prop) (k : Prop → A → Prop) : Prop := ∃ p x, k p x ∧ ∀ k' : Prop → A → Prop, k' p x → F k'

theorem par_load {t : TypeId} {k : Prop → A → Prop} {a : A} (h : rdLoad P σ t k a) : Par (fun k => rdLoad P σ t k a) k := by
  revert h; unfold rdLoad; repeat' split
  all_goals first | exact False.elim | exact fun h => ⟨_, _, h, fun _ h => h⟩
theorem par_part {t o : Nat} {k : Prop → A → Prop} {a : A} (h : rdPart P t o k a) : Par (fun k => rdPart P t o k a) k := by
  revert h; unfold rdPart; repeat' split
  all_goals first | exact False.elim | exact fun h => ⟨_, _, h, fun _ h => h⟩
theorem par_fieldAddr {t f : Nat} {k : Prop → A → Prop} {a : A} (h : rdFieldAddr P σ t f k a) : Par (fun k => rdFieldAddr P σ t f k a) k := by
  revert h; unfold rdFieldAddr; repeat' split
  all_goals first | exact False.elim | exact fun h => ⟨_, _, h, fun _ h => h⟩
theorem par_field {t f : Nat} {k : Prop → A → Prop} {a : A} (h : rdField P t f k a) : Par (fun k => rdField P t f k a) k := by
  revert h; unfold rdField; split
  · exact par_part
  · exact False.elim
theorem par_indexAddr {t : TypeId} {k : Prop → A → Prop} {a b : A} (h : rdIndexAddr P σ t k a b) : Par (fun k => rdIndexAddr P σ t k a b) k := by
  revert h; unfold rdIndexAddr; repeat' split
  all_goals first | exact False.elim | exact fun h => ⟨_, _, h, fun _ h => h⟩
theorem par_index {t : TypeId} {k : Prop → A → Prop} {a b : A} (h : rdIndex P t k a b) : Par (fun k => rdIndex P t k a b) k := by
  revert h; unfold rdIndex; split
  · exact fun h => ⟨_, _, h, fun _ h => h⟩
  · split
    · intro h; obtain ⟨p, x, h1, h2⟩ := par_part h; exact ⟨_, _, h1, fun k' hk => h2 _ hk⟩
    · exact False.elim
  · split
    · intro h; obtain ⟨p, x, h1, h2⟩ := par_part h; exact ⟨_, _, h1, fun k' hk => h2 _ hk⟩
    · exact False.elim
  · exact False.elim
theorem par_arith {op : BinOp} {k : Prop → A → Prop} {ik : IntKind} {a b : Int} (h : rdArith op k ik a b) : Par (fun k => rdArith op k ik a b) k := by
  revert h; unfold rdArith; split
  all_goals first | exact False.elim | exact fun h => ⟨_, _, h, fun _ h => h⟩
theorem par_str {op : BinOp} {k : Prop → A → Prop} {a b : List UInt8} (h : rdStr op k a b) : Par (fun k => rdStr op k a b) k := by
  revert h; unfold rdStr; split
  all_goals first | exact False.elim | exact fun h => ⟨_, _, h, fun _ h => h⟩
theorem par_bin {op : BinOp} {t : TypeId} {k : Prop → A → Prop} {a b : A} (h : rdBin P op t k a b) : Par (fun k => rdBin P op t k a b) k := by
  revert h; unfold rdBin; split
  · split
    · exact fun h => ⟨_, _, h, fun _ h => h⟩
    · exact fun h => ⟨_, _, h, fun _ h => h⟩
    · split
      · exact par_arith
      · exact False.elim
  · exact par_str
  all_goals
    repeat' split
    all_goals first | exact False.elim | exact fun h => ⟨_, _, h, fun _ h => h⟩
theorem par_un {op : UnOp} {k : Prop → A → Prop} {a : A} (h : rdUn op k a) : Par (fun k => rdUn op k a) k := by
  revert h; unfold rdUn; repeat' split
  all_goals first | exact False.elim | exact fun h => ⟨_, _, h, fun _ h => h⟩
theorem par_convert {s t : TypeId} {k : Prop → A → Prop} {a : A} (h : rdConvert P σ s t k a) : Par (fun k => rdConvert P σ s t k a) k := by
  revert h; unfold rdConvert; repeat' split
  all_goals first | exact False.elim | exact fun h => ⟨_, _, h, fun _ h => h⟩
theorem par_len {t : TypeId} {k : Prop → A → Prop} {a : A} (h : rdLen P σ t k a) : Par (fun k => rdLen P σ t k a) k := by
  revert h; unfold rdLen; split
  all_goals first | exact False.elim | exact fun h => ⟨_, _, h, fun _ h => h⟩
theorem par_pick {k : Prop → A → Prop} {a b c : A} (h : rdPick k a b c) : Par (fun k => rdPick k a b c) k := by
  revert h; unfold rdPick; split
  all_goals first | exact False.elim | exact fun h => ⟨_, _, h, fun _ h => h⟩
theorem par_slice {t : TypeId} {k : Prop → A → Prop} {x : A} {lo hi : Option A} (h : rdSlice P σ t k x lo hi) : Par (fun k => rdSlice P σ t k x lo hi) k := by
  revert h; unfold rdSlice; repeat' split
  all_goals first | exact False.elim | exact fun h => ⟨_, _, h, fun _ h => h⟩
theorem par_extract {i : Nat} {k : Prop → A → Prop} {a : A} (h : rdExtract k i a) : Par (fun k => rdExtract k i a) k := by
  revert h; unfold rdExtract; split
  all_goals first | exact False.elim | exact fun h => ⟨_, _, h, fun _ h => h⟩
theorem par_assert {t : TypeId} {ok : Bool} {k : Prop → A → Prop} {a : A} (h : rdAssert P t ok k a) : Par (fun k => rdAssert P t ok k a) k := by
  revert h; unfold rdAssert; split
  · split
    · exact fun h => ⟨_, _, h, fun _ h => h⟩
    · split
      · exact fun h => ⟨_, _, h, fun _ h => h⟩
      · exact False.elim
  · split
    · exact fun h => ⟨_, _, h, fun _ h => h⟩
    · exact False.elim
  · exact False.elim
theorem par_lookup {t : TypeId} {ok : Bool} {k : Prop → A → Prop} {a b : A} (h : rdLookup P σ t ok k a b) : Par (fun k => rdLookup P σ t ok k a b) k := by
  revert h; unfold rdLookup; repeat' split
  all_goals first | exact False.elim | exact fun h => ⟨_, _, h, fun _ h => h⟩
theorem par_nil {k : Prop → A → Prop} {a : A} (h : rdNil σ k a) : Par (fun k => rdNil σ k a) k := by
  revert h; unfold rdNil; repeat' split
  all_goals first | exact False.elim | exact fun h => ⟨_, _, h, fun _ h => h⟩
theorem par_build {t : TypeId} {ps : List (Nat × A)} {k : Prop → A → Prop} (h : rdBuild P σ t ps k) : Par (fun k => rdBuild P σ t ps k) k := by
  revert h; unfold rdBuild; repeat' split
  all_goals first | exact False.elim | exact fun h => ⟨_, _, h, fun _ h => h⟩
theorem par_builtin {b : Builtin} {as : List A} {ts : List TypeId} {k : Prop → A → Prop} (h : rdBuiltin P σ b k as ts) : Par (fun k => rdBuiltin P σ b k as ts) k := by
  revert h; unfold rdBuiltin; split
  · split
    · exact par_len
    · unfold rdCap
      split
      · exact fun h => ⟨_, _, h, fun _ h => h⟩
      · exact False.elim
    · exact False.elim
  · unfold rdMinMax
    repeat' split
    all_goals first | exact False.elim | exact fun h => ⟨_, _, h, fun _ h => h⟩
  · exact False.elim
theorem rd_par {e : Operand → A} {op : Op} {k : Prop → A → Prop} (h : rd P σ e op k) : Par (fun k => rd P σ e op k) k := by
  cases op with
  | move x => exact ⟨_, _, h, fun _ h => h⟩
  | assign x => exact ⟨_, _, h, fun _ h => h⟩
  | pick a b c => exact par_pick h
  | load t a => exact par_load h
  | fieldAddr t a f => exact par_fieldAddr h
  | field t a f => exact par_field h
  | indexAddr t a b => exact par_indexAddr h
  | index t a b => exact par_index h
  | binOp o t a b t' => exact par_bin h
  | unOp o t a => exact par_un h
  | convert s t a => exact par_convert h
  | slice t x lo hi mx =>
    cases mx with
    | some m => exact h.elim
    | none => exact par_slice h
  | extract a i => exact par_extract h
  | makeInterface t a => exact ⟨_, _, h, fun _ h => h⟩
  | makeFunc f a b => exact ⟨_, _, h, fun _ h => h⟩
  | typeAssert a t u b => exact par_assert h
  | build t ps => exact par_build h
  | lookup t a b ok => exact par_lookup h
  | nilCheck a => exact par_nil h
  | call c =>
    obtain ⟨callee, args, ts⟩ := c
    cases callee with
    | builtin b => exact par_builtin h
    | _ => exact h.elim
  | _ => exact h.elim
theorem par_cmp {o : BinOp} {t : TypeId} {k : Prop → A → Prop} {a b : A} (h : rdCmp P o t k a b) : Par (fun k => rdCmp P o t k a b) k := by
  revert h; unfold rdCmp; split
  · exact fun h => ⟨_, _, h, fun _ h => h⟩
  · exact par_bin
theorem rdC_par {e : Operand → A} {op : Op} {k : Prop → A → Prop} (h : rdC P σ e op k) : Par (fun k => rdC P σ e op k) k := by
  revert h; unfold rdC; split
  · exact par_cmp
  · exact rd_par
theorem rdG_par {e : Operand → A} {op : Op} {k : Prop → A → Prop} (h : rdG P σ e op k) : Par (fun k => rdG P σ e op k) k := by
  revert h; unfold rdG; split
  · intro h; obtain ⟨p, z, h1, h2⟩ := par_pick h; exact ⟨_, _, h1, fun k' hk => h2 _ hk⟩
  · intro h; obtain ⟨p, z, h1, h2⟩ := rdC_par h; exact ⟨_, _, h1, fun k' hk => h2 _ hk⟩

/-- Operations that only read. -/
def readsB : Op → Bool
  | .binOp o _ _ y _ => (nilC o y).isNone
  | .move _ | .assign _ | .pick .. | .load .. | .fieldAddr .. | .field .. | .indexAddr .. | .index .. | .unOp .. | .convert .. | .slice .. | .extract .. | .makeInterface .. | .makeFunc .. | .typeAssert .. | .build .. | .lookup .. | .nilCheck _ => true
  | .call c => match c.callee with
    | .builtin .len => true
    | .builtin .min => true
    | .builtin .max => true
    | _ => false
  | _ => false
/-- One operation, its guard looked at. -/
def stepV (P : Program) (G : Glob) (ops : Array Oper) (o : Oper) (k : A → St → Prop) (fr : Fr) (σ : St) : Prop := match o.guard with
  | none => op1 P G σ (ev G fr) o.op k
  | some (j, b) => match guardB ops fr j b with
    | some c => opG P G σ (ev G fr) c o.op k
    | none => False
def stepA (P : Program) (G : Glob) (ops : Array Oper) (o : Oper) (K : Fr → St → Prop) (fr : Fr) (σ : St) : Prop := stepV P G ops o (fun x σ' => K (put fr o.dst x) σ') fr σ
theorem awOps_cons (ops : Array Oper) (o : Oper) (rest : List Oper) (K : Fr → St → Prop) (fr : Fr) (σ : St) : awOps P G ops (o :: rest) K fr σ = stepA P G ops o (awOps P G ops rest K) fr σ := by
  simp only [awOps, stepA, stepV]
  cases o.guard with
  | none => rfl
  | some q => obtain ⟨j, b⟩ := q; rfl

theorem op1_reads {e : Operand → A} {op : Op} {k : A → St → Prop} (hr : readsB op = true) : op1 P G σ e op k = rd P σ e op fun p a => p ∧ k a σ := by
  cases op with
  | call c =>
    obtain ⟨callee, args, ts⟩ := c
    cases callee with
    | builtin b => cases b <;> first | rfl | cases hr
    | _ => cases hr
  | binOp o t x y ty =>
    simp only [readsB, Option.isNone_iff_eq_none] at hr
    simp only [op1, hr]
  | _ => first | rfl | cases hr
theorem opG_reads {e : Operand → A} {op : Op} {c : Bool} {k : A → St → Prop} (hr : readsB op = true) : opG P G σ e c op k = rdG P σ e op fun p a => (c = true → p) ∧ k (.grd c a) σ := by
  cases op with
  | call cl =>
    obtain ⟨callee, args, ts⟩ := cl
    cases callee with
    | builtin b => cases b <;> first | rfl | cases hr
    | _ => cases hr
  | _ => first | rfl | cases hr

/-- In frame fr the operation reads x, and that is all. -/
def YldA (P : Program) (G : Glob) (ops : Array Oper) (o : Oper) (σ : St) (fr : Fr) (x : A) : Prop := ∀ k : A → St → Prop, k x σ → stepV P G ops o k fr σ
theorem step_reads {ops : Array Oper} {o : Oper} {k : A → St → Prop} {fr : Fr} (hr : readsB o.op = true) (h : stepV P G ops o k fr σ) : ∃ x, YldA P G ops o σ fr x ∧ k x σ := by
  unfold YldA
  revert h; unfold stepV; split
  · rw [op1_reads hr]
    intro h
    obtain ⟨p, x, ⟨h1, h2⟩, h3⟩ := rd_par h
    exact ⟨x, fun K' hK => by rw [op1_reads hr]; exact h3 _ ⟨h1, hK⟩, h2⟩
  · split
    · rw [opG_reads hr]
      intro h
      obtain ⟨p, x, ⟨h1, h2⟩, h3⟩ := rdG_par h
      exact ⟨.grd _ x, fun K' hK => by rw [opG_reads hr]; exact h3 _ ⟨h1, hK⟩, h2⟩
    · exact False.elim

theorem getD_set_ne' {fr : Fr} {d t : Nat} {x : A} (h : d ≠ t) : List.getD (fr.set d x) t .any = List.getD fr t .any := by
  simp [List.getD, List.getElem?_set_ne h]
theorem ev_put {fr : Fr} {dst : Option Tmp} {x : A} {y : Operand} (h : ∀ d, dst = some d → y ≠ .tmp d) : ev G (put fr dst x) y = ev G fr y := by
  cases dst with
  | none => rfl
  | some d =>
    cases y with
    | tmp t => simp only [put, ev]; exact getD_set_ne' fun e => h d rfl (e ▸ rfl)
    | _ => rfl
theorem put_comm (fr : Fr) {d e : Option Tmp} (x y : A) (h : ∀ t, d = some t → e ≠ some t) : put (put fr d x) e y = put (put fr e y) d x := by
  cases d with
  | none => rfl
  | some d =>
    cases e with
    | none => rfl
    | some e =>
      have : d ≠ e := fun he => h d rfl (he ▸ rfl)
      simp [put, List.set_comm _ _ this]
theorem rdG_congr {e e' : Operand → A} {op : Op} {k : Prop → A → Prop} (h : ∀ x ∈ op.operands.toList, e x = e' x) (hh : rdG P σ e op k) : rdG P σ e' op k := by
  revert hh h; unfold rdG; split
  · rename_i x a b
    intro h
    rw [h x (by simp [Op.operands]), h a (by simp [Op.operands]), h b (by simp [Op.operands])]; exact id
  · intro h hh
    have e1 : (op.operands.toList.all fun x => (e x).cond) = (op.operands.toList.all fun x => (e' x).cond) := by
      rw [Bool.eq_iff_iff, List.all_eq_true, List.all_eq_true]
      exact ⟨fun hx x hm => by rw [← h x hm]; exact hx x hm, fun hx x hm => by rw [h x hm]; exact hx x hm⟩
    rw [← e1]
    exact rdC_congr (fun x hx => by simp only [h x hx]) hh
theorem looks_op {ops : Array Oper} {o : Oper} {d : Option Tmp} (hd : ∀ t, d = some t → t ∉ o.looksAt ops) : ∀ x ∈ o.op.operands.toList, ∀ t, d = some t → x ≠ .tmp t := by
  rintro x hx t ht rfl
  refine hd t ht ?_
  simp only [Oper.looksAt, List.mem_append, List.mem_filterMap]
  exact .inl ⟨_, hx, rfl⟩
theorem guardB_put {ops : Array Oper} {o : Oper} {fr : Fr} {j : Nat} {b : Bool} {d : Option Tmp} {y : A} (hg : o.guard = some (j, b)) (hd : ∀ t, d = some t → t ∉ o.looksAt ops) : guardB ops (put fr d y) j b = guardB ops fr j b := by
  unfold guardB
  split
  · rename_i t ht
    have : ∀ t', d = some t' → t' ≠ t := by
      rintro t' h rfl
      refine hd t' h ?_
      simp only [Oper.looksAt, List.mem_append, hg, ht]
      exact .inr (by simp)
    have e : List.getD (put fr d y) t .any = List.getD fr t .any := by
      cases d with
      | none => rfl
      | some t' => exact getD_set_ne' (this t' rfl)
    rw [e]
  · rfl
theorem wrAlloc_mono {t : TypeId} {k k' : Prop → A → St → Prop} (hk : ∀ p x s, k p x s → k' p x s) (h : wrAlloc P σ t k) : wrAlloc P σ t k' := by
  revert h; unfold wrAlloc; repeat' split
  all_goals first | exact False.elim | exact hk _ _ _
theorem wrBox_mono {x : A} {k k' : Prop → A → St → Prop} (hk : ∀ p x s, k p x s → k' p x s) (h : wrBox σ x k) : wrBox σ x k' := hk _ _ _ h
theorem wrBuildSlice_mono {t n : Nat} {ps : List (Nat × A)} {k k' : Prop → A → St → Prop} (hk : ∀ p x s, k p x s → k' p x s) (h : wrBuildSlice P σ t n ps k) : wrBuildSlice P σ t n ps k' := by
  revert h; unfold wrBuildSlice; repeat' split
  all_goals first | exact False.elim | exact hk _ _ _
theorem wrMakeSlice_mono {t : TypeId} {a b : A} {k k' : Prop → A → St → Prop} (hk : ∀ p x s, k p x s → k' p x s) (h : wrMakeSlice P σ t a b k) : wrMakeSlice P σ t a b k' := by
  revert h; unfold wrMakeSlice; repeat' split
  all_goals first | exact False.elim | exact hk _ _ _
theorem wrStore_mono {t : TypeId} {a b : A} {k k' : Prop → A → St → Prop} (hk : ∀ p x s, k p x s → k' p x s) (h : wrStore P σ t a b k) : wrStore P σ t a b k' := by
  revert h; unfold wrStore; repeat' split
  all_goals first | exact False.elim | exact hk _ _ _
theorem wrAppend_mono {t u : TypeId} {a b : A} {k k' : Prop → A → St → Prop} (hk : ∀ p x s, k p x s → k' p x s) (h : wrAppend P σ t u a b k) : wrAppend P σ t u a b k' := by
  revert h; unfold wrAppend; repeat' split
  all_goals first | exact False.elim | exact hk _ _ _
theorem wrMapUpdate_mono {t : TypeId} {a b c : A} {k k' : Prop → A → St → Prop} (hk : ∀ p x s, k p x s → k' p x s) (h : wrMapUpdate P σ t a b c k) : wrMapUpdate P σ t a b c k' := by
  revert h; unfold wrMapUpdate; repeat' split
  all_goals first | exact False.elim | exact hk _ _ _
theorem wrDelete_mono {t : TypeId} {a b : A} {k k' : Prop → A → St → Prop} (hk : ∀ p x s, k p x s → k' p x s) (h : wrDelete P σ t a b k) : wrDelete P σ t a b k' := by
  revert h; unfold wrDelete; repeat' split
  all_goals first | exact False.elim | exact hk _ _ _
theorem wrClear_mono {t : TypeId} {a : A} {k k' : Prop → A → St → Prop} (hk : ∀ p x s, k p x s → k' p x s) (h : wrClear P σ t a k) : wrClear P σ t a k' := by
  revert h; unfold wrClear; repeat' split
  all_goals first | exact False.elim | exact hk _ _ _
theorem wrCopy_mono {t tx : TypeId} {a x : A} {k k' : Prop → A → St → Prop} (hk : ∀ p x s, k p x s → k' p x s) (h : wrCopy P σ t tx a x k) : wrCopy P σ t tx a x k' := by
  revert h; unfold wrCopy; repeat' split
  all_goals first | exact False.elim | exact hk _ _ _
theorem wrNil_mono {q : Bool × Bool} {t : TypeId} {a : A} {k k' : A → St → Prop} (hk : ∀ x s, k x s → k' x s) (h : wrNil P σ q t k a) : wrNil P σ q t k' a := by
  revert h; unfold wrNil; split
  · exact fun h => ⟨h.1, hk _ _ h.2⟩
  · exact fun h => ⟨h.1, hk _ _ h.2⟩
  · exact fun h => ⟨h.1, hk _ _ h.2⟩
  · exact fun h => ⟨h.1, fun b hb => hk _ _ (h.2 b hb)⟩
  · exact fun h => ⟨h.1, fun b hb => hk _ _ (h.2 b hb)⟩
  · exact False.elim
theorem callV_mono {f : A} {as : List A} {k k' : A → St → Prop} (hk : ∀ x s, k x s → k' x s) (h : callV P G σ f as k) : callV P G σ f as k' := by
  revert h; unfold callV; split
  · exact fun h => h.mono hk
  · exact fun h => h.mono hk
  · exact False.elim
theorem callI_mono {r : A} {name : String} {as : List A} {k k' : A → St → Prop} (hk : ∀ x s, k x s → k' x s) (h : callI P G σ r name as k) : callI P G σ r name as k' := by
  revert h; unfold callI; split
  · split
    · exact fun h => h.mono hk
    · intro h
      obtain ⟨p, x, ⟨h1, h2⟩, h3⟩ := par_load h
      exact h3 _ ⟨h1, h2.mono hk⟩
    · intro h
      obtain ⟨p, x, ⟨h1, h2⟩, h3⟩ := par_fieldAddr h
      exact h3 _ ⟨h1, h2.mono hk⟩
    · exact False.elim
  · exact False.elim
theorem rd_mono {e : Operand → A} {op : Op} {k k' : Prop → A → Prop} (hk : ∀ p x, k p x → k' p x) (h : rd P σ e op k) : rd P σ e op k' := by
  obtain ⟨p, x, h1, h2⟩ := rd_par h; exact h2 _ (hk _ _ h1)
theorem op1_mono {e : Operand → A} {op : Op} {k k' : A → St → Prop} (hk : ∀ x s, k x s → k' x s) (h : op1 P G σ e op k) : op1 P G σ e op k' := by
  have hk3 : ∀ p x s, (p ∧ k x s) → (p ∧ k' x s) := fun p x s h => ⟨h.1, hk _ _ h.2⟩
  have reads : readsB op = true → op1 P G σ e op k' := fun hr => by
    rw [op1_reads hr] at h ⊢
    exact rd_mono (fun p x h => ⟨h.1, hk _ _ h.2⟩) h
  cases op with
  | alloc t => exact wrAlloc_mono hk3 h
  | box t x => exact wrBox_mono hk3 h
  | buildSlice t n ps => exact wrBuildSlice_mono hk3 h
  | makeSlice t l c => exact wrMakeSlice_mono hk3 h
  | store t a x => exact wrStore_mono hk3 h
  | makeMap t r =>
    cases r with
    | none => exact hk3 _ _ _ h
    | some r => exact h.elim
  | mapUpdate t m x v => exact wrMapUpdate_mono hk3 h
  | insert t m x v => exact wrMapUpdate_mono hk3 h
  | call c =>
    obtain ⟨callee, args, ts⟩ := c
    cases callee with
    | value f => exact callV_mono hk h
    | builtin b =>
      cases b with
      | append =>
        revert h
        simp only [op1, wrBuiltin]
        split
        · unfold wrApp
          split
          · unfold wrGrow
            repeat' split
            all_goals first | exact hk3 _ _ _ | exact False.elim
          · exact wrAppend_mono hk3
        · exact False.elim
      | delete =>
        revert h
        simp only [op1, wrBuiltin]
        split
        · exact wrDelete_mono hk3
        · exact False.elim
      | clear =>
        revert h
        simp only [op1, wrBuiltin]
        split
        · exact wrClear_mono hk3
        · exact False.elim
      | copy =>
        revert h
        simp only [op1, wrBuiltin]
        split
        · exact wrCopy_mono hk3
        · exact False.elim
      | len => exact reads rfl
      | _ =>
        simp only [op1, wrBuiltin] at h ⊢
        obtain ⟨p, x, h1, h2⟩ := par_builtin h
        exact h2 _ ⟨h1.1, hk _ _ h1.2⟩
    | invoke r name => exact callI_mono hk h
  | panic x => exact h
  | binOp o t x y ty =>
    cases hq : nilC o y with
    | none => exact reads (by simp only [readsB, hq]; rfl)
    | some q =>
      simp only [op1, hq] at h ⊢
      exact wrNil_mono hk h
  | _ => first | exact reads rfl | exact h.elim
theorem wrG_mono {e : Operand → A} {c : Bool} {op : Op} {k k' : A → St → Prop} (hk : ∀ x s, k x s → k' x s) (h : wrG P G σ e c op k) : wrG P G σ e c op k' :=
  ⟨fun hc => op1_mono hk (h.1 hc), fun hc => hk _ _ (h.2 hc)⟩
theorem opG_mono {e : Operand → A} {c : Bool} {op : Op} {k k' : A → St → Prop} (hk : ∀ x s, k x s → k' x s) (h : opG P G σ e c op k) : opG P G σ e c op k' := by
  have reads : rdG P σ e op (fun p x => (c = true → p) ∧ k (.grd c x) σ) → rdG P σ e op fun p x => (c = true → p) ∧ k' (.grd c x) σ := fun h => by
    obtain ⟨p, x, h1, h2⟩ := rdG_par h
    exact h2 _ ⟨h1.1, hk _ _ h1.2⟩
  revert h
  unfold opG
  split
  · split
    · exact fun h => h.imp (fun ⟨d, h1, h2⟩ => ⟨d, h1, hk _ _ h2⟩) (wrG_mono hk)
    · exact wrG_mono hk
    · exact wrG_mono hk
    · exact wrG_mono hk
    · exact wrG_mono hk
    · exact fun h => h.imp (fun ⟨d, h1, h2⟩ => ⟨d, h1, hk _ _ h2⟩) (wrG_mono hk)
    · exact reads
  · exact wrG_mono hk
  · exact wrG_mono hk
  · exact wrG_mono hk
  · exact wrG_mono hk
  · exact wrG_mono hk
  · exact wrG_mono hk
  · exact wrG_mono hk
  · exact wrG_mono hk
  · exact reads
theorem stepA_mono {ops : Array Oper} {o : Oper} {K K' : Fr → St → Prop} {fr : Fr} (hk : ∀ fr s, K fr s → K' fr s) (h : stepA P G ops o K fr σ) : stepA P G ops o K' fr σ := by
  revert h; unfold stepA stepV; split
  · exact op1_mono fun x s => hk _ _
  · split
    · exact opG_mono fun x s => hk _ _
    · exact False.elim

theorem op1_congr' {e e' : Operand → A} {op : Op} {k : A → St → Prop} (h : ∀ x ∈ op.operands.toList, e x = e' x) (hh : op1 P G σ e op k) : op1 P G σ e' op k := by
  have reads : readsB op = true → op1 P G σ e' op k := fun hr => by
    rw [op1_reads hr] at hh ⊢; exact rd_congr h hh
  cases op with
  | alloc t => exact hh
  | box t x => simp only [op1] at hh ⊢; rw [← h x (by simp [Op.operands])]; exact hh
  | buildSlice t n ps =>
    simp only [op1] at hh ⊢
    have e1 : (ps.toList.map fun p => (p.1, e p.2)) = ps.toList.map fun p => (p.1, e' p.2) := List.map_congr_left fun p hp => by
      rw [h p.2 (by simp only [Op.operands]; exact List.mem_map.2 ⟨p, hp, rfl⟩)]
    rw [← e1]; exact hh
  | makeSlice t l c => simp only [op1] at hh ⊢; rw [← h l (by simp [Op.operands]), ← h c (by simp [Op.operands])]; exact hh
  | store t a x => simp only [op1] at hh ⊢; rw [← h a (by simp [Op.operands]), ← h x (by simp [Op.operands])]; exact hh
  | makeMap t r =>
    cases r with
    | none => exact hh
    | some r => exact hh.elim
  | mapUpdate t m x v => simp only [op1] at hh ⊢; rw [← h m (by simp [Op.operands]), ← h x (by simp [Op.operands]), ← h v (by simp [Op.operands])]; exact hh
  | insert t m x v => simp only [op1] at hh ⊢; rw [← h m (by simp [Op.operands]), ← h x (by simp [Op.operands]), ← h v (by simp [Op.operands])]; exact hh
  | call c =>
    obtain ⟨callee, args, ts⟩ := c
    have e1 : args.toList.map e = args.toList.map e' := List.map_congr_left fun x hx => h x (by simp only [Op.operands, Call.operands, Array.toList_append, List.mem_append]; exact .inr hx)
    cases callee with
    | value f =>
      simp only [op1] at hh ⊢
      rw [← e1, ← h f (by simp [Op.operands, Call.operands])]; exact hh
    | builtin b => simp only [op1] at hh ⊢; rw [← e1]; exact hh
    | invoke r name =>
      simp only [op1] at hh ⊢
      rw [← e1, ← h r (by simp [Op.operands, Call.operands])]; exact hh
  | panic x => simp only [op1] at hh ⊢; rw [← h x (by simp [Op.operands])]; exact hh
  | binOp o t x y ty =>
    cases hq : nilC o y with
    | none => exact reads (by simp only [readsB, hq]; rfl)
    | some q =>
      simp only [op1, hq] at hh ⊢
      rw [← h x (by simp [Op.operands])]; exact hh
  | _ => first | exact reads rfl | exact hh.elim
theorem wrG_congr {e e' : Operand → A} {c : Bool} {op : Op} {k : A → St → Prop} (h : ∀ x ∈ op.operands.toList, e x = e' x) (hh : wrG P G σ e c op k) : wrG P G σ e' c op k :=
  ⟨fun hc => op1_congr' (fun x hx => by simp only [h x hx]) (hh.1 hc), hh.2⟩
theorem opG_congr {e e' : Operand → A} {c : Bool} {op : Op} {k : A → St → Prop} (h : ∀ x ∈ op.operands.toList, e x = e' x) (hh : opG P G σ e c op k) : opG P G σ e' c op k := by
  revert hh h; unfold opG; split
  · rename_i cl
    split
    · rename_i f hf
      intro h hh
      rcases hh with ⟨d, h1, h2⟩ | hh
      · refine .inl ⟨d, fun hc => ?_, h2⟩
        obtain ⟨h1, h3⟩ := h1 hc
        have e1 : (cl.args.toList.map fun x => (e x).strip) = cl.args.toList.map fun x => (e' x).strip := List.map_congr_left fun x hx => by rw [h x (by simp only [Op.operands, Call.operands, Array.toList_append, List.mem_append]; exact .inr hx)]
        refine ⟨?_, ?_⟩
        · rw [List.all_eq_true] at h1 ⊢
          exact fun x hx => by rw [← h x hx]; exact h1 x hx
        · rw [← e1, ← h f (by simp [Op.operands, Call.operands, hf])]; exact h3
      · exact .inr (wrG_congr h hh)
    · exact fun h => wrG_congr h
    · exact fun h => wrG_congr h
    · exact fun h => wrG_congr h
    · exact fun h => wrG_congr h
    · rename_i r name hf
      intro h hh
      rcases hh with ⟨d, h1, h2⟩ | hh
      · refine .inl ⟨d, fun hc => ?_, h2⟩
        obtain ⟨h1, h3⟩ := h1 hc
        have e1 : (cl.args.toList.map fun x => (e x).strip) = cl.args.toList.map fun x => (e' x).strip := List.map_congr_left fun x hx => by rw [h x (by simp only [Op.operands, Call.operands, Array.toList_append, List.mem_append]; exact .inr hx)]
        refine ⟨?_, ?_⟩
        · rw [List.all_eq_true] at h1 ⊢
          exact fun x hx => by rw [← h x hx]; exact h1 x hx
        · rw [← e1, ← h r (by simp [Op.operands, Call.operands, hf])]; exact h3
      · exact .inr (wrG_congr h hh)
    · exact fun h => rdG_congr h
  · exact fun h => wrG_congr h
  · exact fun h => wrG_congr h
  · exact fun h => wrG_congr h
  · exact fun h => wrG_congr h
  · exact fun h => wrG_congr h
  · exact fun h => wrG_congr h
  · exact fun h => wrG_congr h
  · exact fun h => wrG_congr h
  · exact fun h => rdG_congr h
/-- An operation sees nothing of what is put where it does not look. -/
theorem stepV_put {ops : Array Oper} {o : Oper} {d : Option Tmp} {y : A} {fr : Fr} {k : A → St → Prop} (hd : ∀ t, d = some t → t ∉ o.looksAt ops) :
    stepV P G ops o k (put fr d y) σ ↔ stepV P G ops o k fr σ := by
  have he := fun x hx => ev_put (G := G) (fr := fr) (x := y) (looks_op hd x hx)
  unfold stepV
  cases hg : o.guard with
  | none => exact ⟨op1_congr' he, op1_congr' fun x hx => (he x hx).symm⟩
  | some q =>
    obtain ⟨j, b⟩ := q
    simp only [guardB_put (fr := fr) (y := y) hg hd]
    cases guardB ops fr j b with
    | none => exact Iff.rfl
    | some c => exact ⟨opG_congr he, opG_congr fun x hx => (he x hx).symm⟩
theorem stepV_mono {ops : Array Oper} {o : Oper} {k k' : A → St → Prop} {fr : Fr} (hk : ∀ x s, k x s → k' x s) (h : stepV P G ops o k fr σ) : stepV P G ops o k' fr σ := by
  revert h; unfold stepV; split
  · exact op1_mono hk
  · split
    · exact opG_mono hk
    · exact False.elim

/-- Readings that look at no memory. -/
def lightB : Op → Bool
  | .binOp o _ _ y _ => (nilC o y).isNone
  | .move _ | .assign _ | .pick .. | .field .. | .index .. | .unOp .. | .extract .. | .makeInterface .. | .makeFunc .. | .typeAssert .. => true
  | _ => false
theorem light_reads {op : Op} (h : lightB op = true) : readsB op = true := by
  cases op <;> first | rfl | exact h | cases h
theorem rd_light {e : Operand → A} {op : Op} {k : Prop → A → Prop} (σ' : St) (hl : lightB op = true) : rd P σ e op k = rd P σ' e op k := by
  cases op <;> first | rfl | exact absurd hl (by decide) | cases hl
theorem stepV_light {ops : Array Oper} {o : Oper} {k : A → Prop} {fr : Fr} (σ' : St) (hl : lightB o.op = true) : stepV P G ops o (fun x _ => k x) fr σ ↔ stepV P G ops o (fun x _ => k x) fr σ' := by
  have hr := light_reads hl
  unfold stepV
  cases o.guard with
  | none => simp only; rw [op1_reads hr, op1_reads hr, rd_light σ' hl]
  | some q =>
    obtain ⟨j, b⟩ := q
    simp only
    cases guardB ops fr j b with
    | none => exact Iff.rfl
    | some c =>
      simp only
      rw [opG_reads hr, opG_reads hr]
      unfold rdG
      split
      · rfl
      · unfold rdC
        split
        · rfl
        · rw [rd_light σ' hl]
theorem YldA.light {ops : Array Oper} {o : Oper} {fr : Fr} {x : A} (σ' : St) (hl : lightB o.op = true) (h : YldA P G ops o σ fr x) : YldA P G ops o σ' fr x := fun k hk => by
  have h1 := h (fun y _ => k y σ') hk
  have h2 := (stepV_light σ' hl).1 h1
  have hr := light_reads hl
  obtain ⟨y, h3, h4⟩ := step_reads hr h2
  exact h3 _ h4

theorem stepV_later {ops : Array Oper} {o : Oper} {k : A → Prop} {fr : Fr} {σ' : St} (hl : Later σ σ') (hr : readsB o.op = true) (h : stepV P G ops o (fun x _ => k x) fr σ) : stepV P G ops o (fun x _ => k x) fr σ' := by
  revert h
  unfold stepV
  cases o.guard with
  | none => simp only; rw [op1_reads hr, op1_reads hr]; exact rd_later hl fun p p' a hp h => ⟨hp h.1, h.2⟩
  | some q =>
    obtain ⟨j, b⟩ := q
    simp only
    cases guardB ops fr j b with
    | none => exact id
    | some c =>
      simp only
      rw [opG_reads hr, opG_reads hr]
      exact rdG_later hl fun p p' a hp h => ⟨fun hc => hp (h.1 hc), h.2⟩
theorem YldA.later {ops : Array Oper} {o : Oper} {fr : Fr} {x : A} {σ' : St} (hl : Later σ σ') (hr : readsB o.op = true) (h : YldA P G ops o σ fr x) : YldA P G ops o σ' fr x := fun k hk => by
  have h1 := h (fun y _ => k y σ') hk
  have h2 := stepV_later hl hr h1
  obtain ⟨y, h3, h4⟩ := step_reads hr h2
  exact h3 _ h4
theorem opG_wr {e : Operand → A} {op : Op} {c : Bool} {k : A → St → Prop} (hg : growB op = true) : opG P G σ e c op k = wrG P G σ e c op k := by
  cases op <;> first | rfl | cases hg
theorem stepV_grow {ops : Array Oper} {o : Oper} {k : A → St → Prop} {fr : Fr} (hg : growB o.op = true) (h : stepV P G ops o k fr σ) : stepV P G ops o (fun x s => (∃ l, s = σ ++ l) ∧ k x s) fr σ := by
  revert h
  unfold stepV
  cases o.guard with
  | none => exact op1_grow hg
  | some q =>
    obtain ⟨j, b⟩ := q
    simp only
    cases guardB ops fr j b with
    | none => exact id
    | some c =>
      simp only
      rw [opG_wr hg, opG_wr hg]
      exact fun h => ⟨fun hc => op1_grow hg (h.1 hc), fun hc => ⟨⟨[], by simp⟩, h.2 hc⟩⟩
/-- Whatever order is drawn. -/
def awAny (P : Program) (G : Glob) (ops : Array Oper) (K : Fr → St → Prop) : Nat → Array Bool → Fr → St → Prop
  | 0, listed, fr, σ => Region.ready .any ops listed = [] ∧ K fr σ
  | fuel + 1, listed, fr, σ => (Region.ready .any ops listed = [] → K fr σ) ∧
    ∀ i ∈ Region.ready .any ops listed, ∃ o, ops[i]? = some o ∧ stepA P G ops o (awAny P G ops K fuel (listed.setIfInBounds i true)) fr σ

theorem stepA_sound {bf : Df} {ops : Array Oper} {o : Oper} {i : Nat} (hi : ops[i]? = some o) (hd : okDst bf o.dst) {Q : Exit → Act → World → Prop} {K : Fr → St → Prop} {fr : Fr} {a : Act} {K' : Act → World → Prop} (hI : Inv G ρ σ w) (hF : HoldsF bf ρ w fr a) (h : stepA P G ops o K fr σ)
    (hP : PQ G ρ w a Q) (hK : ∀ fr' σ' ρ' a' w', Ext ρ w ρ' w' → Inv G ρ' σ' w' → HoldsF bf ρ' w' fr' a' → K fr' σ' → K' a' w') : wpOpIn (RF rn) 0 P ops Q i K' a w := by
  have fin : ∀ a' w', Step G ρ w a o.dst (fun x σ' => K (put fr o.dst x) σ') a' w' → K' a' w' := by
    rintro a' w' ⟨x, v, ρ', σ', rfl, hx, hI', hr, hk⟩
    exact hK _ _ _ _ _ hx hI' ((hF.ext hI hx).put o.dst hd hr) hk
  unfold wpOpIn
  simp only [hi]
  unfold stepA stepV at h
  split at h
  · rename_i hg
    rw [if_pos (by simp [Region.wanted, hg])]
    exact (op1_sound hI hF h hP fin)
  · rename_i j b hg
    split at h
    · rename_i c hc
      have := opG_sound (rn := rn) (Q := Q) (K := K') hI hF (guardB_sound hF hg hc) h hP fin
      split at this
      · rename_i hw; rw [if_pos hw]; exact this
      · rename_i hw; rw [if_neg hw]; exact this
    · exact h.elim
theorem awAny_sound {b : Df} {ops : Array Oper} (hd : ∀ o ∈ ops.toList, okDst b o.dst) {K : Fr → St → Prop} {Q : Exit → Act → World → Prop} : ∀ (fuel : Nat) (listed : Array Bool) {fr : Fr} {σ : St} {ρ : Ren} {w : World} {a : Act}, Inv G ρ σ w → HoldsF b ρ w fr a → awAny P G ops K fuel listed fr σ →
    (∀ ρ' σ' a' w', Ext ρ w ρ' w' → Inv G ρ' σ' w' → Dfs b w' a' → PQ G ρ' w' a' Q) →
    (∀ fr' σ' ρ' a' w', Ext ρ w ρ' w' → Inv G ρ' σ' w' → HoldsF b ρ' w' fr' a' → K fr' σ' → Q .normal a' w') → wpAnyIn (RF rn) 0 P .any ops Q fuel listed a w
  | 0, listed, fr, σ, ρ, w, a, hI, hF, h, _, hQ => ⟨h.1, hQ fr σ ρ a w (Ext.refl _ _) hI hF h.2⟩
  | fuel + 1, listed, fr, σ, ρ, w, a, hI, hF, h, hP, hQ => by
    refine ⟨fun h0 => hQ fr σ ρ a w (Ext.refl _ _) hI hF (h.1 h0), fun i hi => ?_⟩
    obtain ⟨o, ho, hs⟩ := h.2 i hi
    refine stepA_sound ho (hd o (by rw [← Array.getElem?_toList] at ho; exact List.mem_of_getElem? ho)) hI hF hs (hP _ _ _ _ (Ext.refl _ _) hI hF.1) fun fr' σ' ρ' a' w' h1 h2 h3 h4 => ?_
    exact awAny_sound hd fuel _ h2 h3 h4 (fun ρ'' σ'' a'' w'' k1 k2 k3 => hP _ _ _ _ (h1.trans k1) k2 k3) fun fr'' σ'' ρ'' a'' w'' k1 k2 k3 k4 => hQ _ _ _ _ _ (h1.trans k1) k2 k3 k4

/-- All that may come up before i: L; nothing of it but what i has nothing to do with. -/
structure Cert (ops : Array Oper) (i : Nat) (oi : Oper) (listed : Array Bool) (L : Nat → Bool) : Prop where
  closed : ∀ j oj, ops[j]? = some oj → j ≠ i → (∀ e ∈ oj.after, Region.binds .any e = true → L e.on = true) → L j = true
  calm : ∀ j oj, ops[j]? = some oj → j ≠ i → L j = true → listed.getD j true = false → oi.apart ops oj = true ∧ (readsB oj.op = true ∨ lightB oi.op = true ∨ growB oj.op = true)
def Sub (l : Array Bool) (L : Nat → Bool) : Prop := ∀ j : Nat, l.getD j false = true → L j = true
theorem Cert.before {ops : Array Oper} {i j : Nat} {oi : Oper} {l0 l : Array Bool} {L : Nat → Bool} (c : Cert ops i oi l0 L) (hs : Sub l L) (hj : j ∈ Region.ready .any ops l) (hji : j ≠ i) : L j = true := by
  obtain ⟨-, o, ho, hall⟩ := mem_ready.1 hj
  exact c.closed j o ho hji fun e he hb => hs _ (hall e he hb)

theorem awAny_first {ops : Array Oper} {K : Fr → St → Prop} {i : Nat} {oi : Oper} {x : A} {l0 : Array Bool} {L : Nat → Bool} (hri : readsB oi.op = true) (hi : ops[i]? = some oi) (c : Cert ops i oi l0 L) :
    ∀ (fuel : Nat) (listed : Array Bool) {fr : Fr} {σ : St}, Sub listed L → (∀ j : Nat, listed.getD j true = false → l0.getD j true = false) → i ∈ Region.ready .any ops listed → YldA P G ops oi σ fr x →
      awAny P G ops K fuel (listed.setIfInBounds i true) (put fr oi.dst x) σ → awAny P G ops K (fuel + 1) listed fr σ := by
  intro fuel
  induction fuel with
  | zero =>
    intro listed fr σ hs hl hr hy H
    refine ⟨fun h => (by rw [h] at hr; cases hr), fun j hj => ?_⟩
    by_cases hji : j = i
    · subst hji; exact ⟨oi, hi, hy _ H⟩
    · have := ready_mono hj hji
      rw [H.1] at this
      cases this
  | succ fuel ih =>
    intro listed fr σ hs hl hr hy H
    refine ⟨fun h => (by rw [h] at hr; cases hr), fun j hj => ?_⟩
    by_cases hji : j = i
    · subst hji; exact ⟨oi, hi, hy _ H⟩
    · obtain ⟨oj, hoj, h1⟩ := H.2 j (ready_mono hj hji)
      have hLj := c.before hs hj hji
      obtain ⟨hun, -⟩ := mem_ready.1 hj
      obtain ⟨hap, hor⟩ := c.calm j oj hoj hji hLj (hl j hun)
      obtain ⟨a1, a2, a3⟩ := Oper.apart_spec hap
      have next : ∀ y σ', YldA P G ops oi σ' fr x → awAny P G ops K fuel ((listed.setIfInBounds i true).setIfInBounds j true) (put (put fr oi.dst x) oj.dst y) σ' → awAny P G ops K (fuel + 1) (listed.setIfInBounds j true) (put fr oj.dst y) σ' := fun y σ' hyi h2 => by
        refine ih (listed.setIfInBounds j true) ?_ (fun k hk => ?_) (ready_mono hr (Ne.symm hji)) (fun k hk => (stepV_put a3).2 (hyi k hk)) ?_
        · intro k hk
          by_cases hjk : j = k
          · subst hjk; exact hLj
          · rw [getD_set_ne false hjk] at hk; exact hs k hk
        · refine hl k ?_
          by_cases hjk : j = k
          · subst hjk; exact hun
          · rw [getD_set_ne true hjk] at hk; exact hk
        · rw [Array.setIfInBounds_comm _ _ hji, ← put_comm fr x y a2]
          exact h2
      refine ⟨oj, hoj, ?_⟩
      rcases hor with hrj | hli | hgj
      · obtain ⟨y, hyj, h2⟩ := step_reads hrj h1
        exact (stepV_put a1).1 (hyj _ (next y σ hy h2))
      · exact stepV_mono (fun y σ' h2 => next y σ' (hy.light σ' hli) h2) ((stepV_put a1).1 h1)
      · refine stepV_mono (fun y σ' h2 => ?_) (stepV_grow hgj ((stepV_put a1).1 h1))
        obtain ⟨⟨l, rfl⟩, h2⟩ := h2
        exact next y _ (hy.later (later_app _ l) hri) h2

/-- An operation that yields x whatever the store is. -/
structure CertP (ops : Array Oper) (i : Nat) (oi : Oper) (listed : Array Bool) (L : Nat → Bool) : Prop where
  closed : ∀ j oj, ops[j]? = some oj → j ≠ i → (∀ e ∈ oj.after, Region.binds .any e = true → L e.on = true) → L j = true
  calm : ∀ j oj, ops[j]? = some oj → j ≠ i → L j = true → listed.getD j true = false → oi.apart ops oj = true
theorem awAny_pure {ops : Array Oper} {K : Fr → St → Prop} {i : Nat} {oi : Oper} {x : A} {l0 : Array Bool} {L : Nat → Bool} (hi : ops[i]? = some oi) (c : CertP ops i oi l0 L) :
    ∀ (fuel : Nat) (listed : Array Bool) {fr : Fr} {σ : St}, Sub listed L → (∀ j : Nat, listed.getD j true = false → l0.getD j true = false) → i ∈ Region.ready .any ops listed → (∀ σ', YldA P G ops oi σ' fr x) →
      awAny P G ops K fuel (listed.setIfInBounds i true) (put fr oi.dst x) σ → awAny P G ops K (fuel + 1) listed fr σ := by
  intro fuel
  induction fuel with
  | zero =>
    intro listed fr σ hs hl hr hy H
    refine ⟨fun h => (by rw [h] at hr; cases hr), fun j hj => ?_⟩
    by_cases hji : j = i
    · subst hji; exact ⟨oi, hi, hy _ _ H⟩
    · have := ready_mono hj hji
      rw [H.1] at this
      cases this
  | succ fuel ih =>
    intro listed fr σ hs hl hr hy H
    refine ⟨fun h => (by rw [h] at hr; cases hr), fun j hj => ?_⟩
    by_cases hji : j = i
    · subst hji; exact ⟨oi, hi, hy _ _ H⟩
    · obtain ⟨oj, hoj, h1⟩ := H.2 j (ready_mono hj hji)
      obtain ⟨hun, o', ho', hall⟩ := mem_ready.1 hj
      have hLj : L j = true := c.closed j o' ho' hji fun e he hb => hs _ (hall e he hb)
      obtain ⟨a1, a2, a3⟩ := Oper.apart_spec (c.calm j oj hoj hji hLj (hl j hun))
      refine ⟨oj, hoj, stepV_mono (fun y σ' h2 => ?_) ((stepV_put a1).1 h1)⟩
      refine ih (listed.setIfInBounds j true) ?_ (fun k hk => ?_) (ready_mono hr (Ne.symm hji)) (fun σ'' k hk => (stepV_put a3).2 (hy σ'' k hk)) ?_
      · intro k hk
        by_cases hjk : j = k
        · subst hjk; exact hLj
        · rw [getD_set_ne false hjk] at hk; exact hs k hk
      · refine hl k ?_
        by_cases hjk : j = k
        · subst hjk; exact hun
        · rw [getD_set_ne true hjk] at hk; exact hk
      · rw [Array.setIfInBounds_comm _ _ hji, ← put_comm fr x y a2]
        exact h2
/-- A call that answers the same in whatever store, and leaves it as it was. -/
def stepP (P : Program) (G : Glob) (ops : Array Oper) (o : Oper) (K : A → Prop) (fr : Fr) : Prop := match o.op with
  | .call c => match c.callee with
    | .value f => match o.guard with
      | none => ∃ x, (∀ σ', callV P G σ' (ev G fr f) (c.args.toList.map (ev G fr)) fun r s => r = x ∧ s = σ') ∧ K x
      | some (j, b) => match guardB ops fr j b with
        | some g => ∃ d, (g = true → ((Op.call c).operands.toList.all fun x => (ev G fr x).cond) = true ∧ ∀ σ', callV P G σ' (ev G fr f).strip (c.args.toList.map fun x => (ev G fr x).strip) fun r s => r = .d d ∧ s = σ') ∧ K (.grd g (.d d))
        | none => False
    | _ => False
  | _ => False
theorem stepP_sound {ops : Array Oper} {o : Oper} {K : A → Prop} {fr : Fr} (h : stepP P G ops o K fr) : ∃ x, (∀ σ', YldA P G ops o σ' fr x) ∧ K x := by
  unfold stepP at h
  split at h
  · rename_i c ho
    split at h
    · rename_i f hf
      split at h
      · rename_i hg
        obtain ⟨x, h1, h2⟩ := h
        refine ⟨x, fun σ' k hk => ?_, h2⟩
        unfold stepV
        simp only [hg, ho, op1, hf]
        exact callV_mono (fun r s hrs => by rw [hrs.1, hrs.2]; exact hk) (h1 σ')
      · rename_i j b hg
        split at h
        · rename_i g hgb
          obtain ⟨d, h1, h2⟩ := h
          refine ⟨_, fun σ' k hk => ?_, h2⟩
          unfold stepV
          simp only [hg, hgb]
          unfold opG
          rw [ho]
          simp only [hf]
          exact .inl ⟨d, fun hc => ⟨(h1 hc).1, (h1 hc).2 σ'⟩, hk⟩
        · exact h.elim
    · exact h.elim
  · exact h.elim

/-- What of an operation the orders hang on, as bits. -/
structure Inf where
  edges : Nat
  looks : Nat
  dst : Nat
  reads : Bool
  light : Bool
  grow : Bool
def orBits : List Nat → Nat
  | [] => 0
  | t :: r => (1 <<< t) ||| orBits r
def infOf (ops : Array Oper) (o : Oper) : Inf := ⟨orBits ((o.after.toList.filter (Region.binds .any)).map (·.on)), orBits (o.looksAt ops), orBits o.dst.toList, readsB o.op, lightB o.op, growB o.op⟩
theorem orBits_test : ∀ (l : List Nat) (j : Nat), (orBits l).testBit j = decide (j ∈ l)
  | [], j => by simp [orBits]
  | t :: r, j => by
    rw [orBits, Nat.testBit_or, orBits_test r j, Nat.one_shiftLeft, Nat.testBit_two_pow]
    by_cases h : t = j
    · subst h; simp
    · simp [h, Ne.symm h]
def subM (a b : Nat) : Bool := a &&& b == a
theorem subM_spec {a b : Nat} (h : subM a b = true) (j : Nat) (hj : a.testBit j = true) : b.testBit j = true := by
  unfold subM at h
  have : (a &&& b).testBit j = a.testBit j := by rw [beq_iff_eq.1 h]
  rw [Nat.testBit_and, hj, Bool.true_and] at this
  exact this
theorem subM_of {a b : Nat} (h : ∀ j, a.testBit j = true → b.testBit j = true) : subM a b = true := by
  unfold subM
  rw [beq_iff_eq]
  apply Nat.eq_of_testBit_eq
  intro j
  rw [Nat.testBit_and]
  cases ha : a.testBit j with
  | false => rfl
  | true => rw [h j ha]; rfl
def apartM (x y : Inf) : Bool := (x.dst &&& y.looks == 0) && (x.dst &&& y.dst == 0) && (y.dst &&& x.looks == 0)
theorem and_zero {a b : Nat} (h : (a &&& b == 0) = true) (j : Nat) (hj : a.testBit j = true) : b.testBit j = false := by
  have : (a &&& b).testBit j = false := by rw [beq_iff_eq.1 h]; simp
  rw [Nat.testBit_and, hj, Bool.true_and] at this
  exact this
theorem apartM_spec {ops : Array Oper} {x y : Oper} (h : apartM (infOf ops x) (infOf ops y) = true) : x.apart ops y = true := by
  simp only [apartM, infOf, Bool.and_eq_true] at h
  obtain ⟨⟨h1, h2⟩, h3⟩ := h
  unfold Oper.apart
  rw [Bool.and_eq_true]
  constructor
  · cases hx : x.dst with
    | none => rfl
    | some d =>
      rw [hx] at h1 h2
      have hb : (orBits (some d).toList).testBit d = true := by rw [orBits_test]; simp
      have e1 := and_zero h1 d hb
      have e2 := and_zero h2 d hb
      rw [orBits_test, decide_eq_false_iff_not] at e1 e2
      simp only [Bool.and_eq_true, Bool.not_eq_true', bne_iff_ne, ne_eq]
      refine ⟨by simpa using e1, fun hy => e2 (by rw [hy]; simp)⟩
  · cases hy : y.dst with
    | none => rfl
    | some d =>
      rw [hy] at h3
      have hb : (orBits (some d).toList).testBit d = true := by rw [orBits_test]; simp
      have e1 := and_zero h3 d hb
      rw [orBits_test, decide_eq_false_iff_not] at e1
      simpa using e1
/-- Everything that can come up without i. -/
def pastM (i : Nat) : List Inf → Nat → Nat → Nat
  | [], _, L => L
  | x :: r, j, L => pastM i r (j + 1) (bif !(j == i) && subM x.edges L then L ||| (1 <<< j) else L)
theorem pastM_sub (i : Nat) : ∀ (l : List Inf) (j L k : Nat), L.testBit k = true → (pastM i l j L).testBit k = true
  | [], _, _, _, h => h
  | x :: r, j, L, k, h => by
    refine pastM_sub i r (j + 1) _ k ?_
    cases !(j == i) && subM x.edges L with
    | false => exact h
    | true => rw [cond_true, Nat.testBit_or, h, Bool.true_or]
/-- L is closed but for i, and what of it is not listed is calm. -/
def calmM (i : Nat) (xi : Inf) (listed L : Nat) : List Inf → Nat → Bool
  | [], _ => true
  | x :: r, j => (j == i || (bif L.testBit j then listed.testBit j || apartM xi x && (x.reads || (xi.light || x.grow)) else !subM x.edges L)) && calmM i xi listed L r (j + 1)
theorem calmM_spec {i : Nat} {xi : Inf} {listed L : Nat} : ∀ {l : List Inf} {j : Nat}, calmM i xi listed L l j = true → ∀ (k : Nat) (x : Inf), l[k]? = some x → j + k ≠ i →
    (L.testBit (j + k) = true → listed.testBit (j + k) = true ∨ apartM xi x = true ∧ (x.reads = true ∨ xi.light = true ∨ x.grow = true)) ∧ (L.testBit (j + k) = false → subM x.edges L = false)
  | [], _, _, k, x, hk, _ => by simp at hk
  | y :: r, j, h, k, x, hk, hne => by
    simp only [calmM, Bool.and_eq_true, Bool.or_eq_true, beq_iff_eq] at h
    match k with
    | 0 =>
      simp only [List.getElem?_cons_zero, Option.some.injEq] at hk
      subst hk
      rcases h.1 with h1 | h1
      · exact absurd h1 hne
      · refine ⟨fun hL => ?_, fun hL => ?_⟩
        · rw [Nat.add_zero] at hL ⊢
          rw [hL, cond_true] at h1
          simpa [Bool.or_eq_true, Bool.and_eq_true] using h1
        · rw [Nat.add_zero] at hL
          rw [hL, cond_false] at h1
          simpa using h1
    | k + 1 =>
      have := calmM_spec h.2 k x (by simpa using hk) (by omega)
      rwa [show j + 1 + k = j + (k + 1) by omega] at this
def calmP (i : Nat) (xi : Inf) (listed L : Nat) : List Inf → Nat → Bool
  | [], _ => true
  | x :: r, j => (j == i || (bif L.testBit j then listed.testBit j || apartM xi x else !subM x.edges L)) && calmP i xi listed L r (j + 1)
theorem calmP_spec {i : Nat} {xi : Inf} {listed L : Nat} : ∀ {l : List Inf} {j : Nat}, calmP i xi listed L l j = true → ∀ (k : Nat) (x : Inf), l[k]? = some x → j + k ≠ i →
    (L.testBit (j + k) = true → listed.testBit (j + k) = true ∨ apartM xi x = true) ∧ (L.testBit (j + k) = false → subM x.edges L = false)
  | [], _, _, k, x, hk, _ => by simp at hk
  | y :: r, j, h, k, x, hk, hne => by
    simp only [calmP, Bool.and_eq_true, Bool.or_eq_true, beq_iff_eq] at h
    match k with
    | 0 =>
      simp only [List.getElem?_cons_zero, Option.some.injEq] at hk
      subst hk
      rcases h.1 with h1 | h1
      · exact absurd h1 hne
      · refine ⟨fun hL => ?_, fun hL => ?_⟩
        · rw [Nat.add_zero] at hL ⊢
          rw [hL, cond_true] at h1
          simpa [Bool.or_eq_true] using h1
        · rw [Nat.add_zero] at hL
          rw [hL, cond_false] at h1
          simpa using h1
    | k + 1 =>
      have := calmP_spec h.2 k x (by simpa using hk) (by omega)
      rwa [show j + 1 + k = j + (k + 1) by omega] at this
/-- The bits tell what is listed. -/
def Told (ops : Array Oper) (listed : Array Bool) (m : Nat) : Prop := listed.size = ops.size ∧ ∀ j, listed.getD j false = m.testBit j
theorem Told.un {ops : Array Oper} {listed : Array Bool} {m j : Nat} {o : Oper} (h : Told ops listed m) (hj : ops[j]? = some o) : listed.getD j true = m.testBit j := by
  have hlt := (Array.getElem?_eq_some_iff.1 hj).1
  rw [← h.2 j]
  rw [← h.1] at hlt
  rw [Array.getD_eq_getD_getElem?, Array.getD_eq_getD_getElem?, Array.getElem?_eq_getElem hlt]
  rfl
theorem Told.next {ops : Array Oper} {listed : Array Bool} {m i : Nat} {o : Oper} (h : Told ops listed m) (hi : ops[i]? = some o) : Told ops (listed.setIfInBounds i true) (m ||| (1 <<< i)) := by
  refine ⟨by simp [h.1], fun j => ?_⟩
  have hlt := (Array.getElem?_eq_some_iff.1 hi).1
  rw [← h.1] at hlt
  rw [Nat.testBit_or, Nat.one_shiftLeft, Nat.testBit_two_pow, ← h.2 j]
  by_cases hij : i = j
  · subst hij; simp [hlt]
  · rw [getD_set_ne false hij]; simp [hij]
def infsOf (ops : Array Oper) : List Inf := ops.toList.map (infOf ops)
theorem infs_get {ops : Array Oper} {j : Nat} {o : Oper} (h : ops[j]? = some o) : (infsOf ops)[j]? = some (infOf ops o) := by
  simp only [infsOf, List.getElem?_map, Array.getElem?_toList, h, Option.map_some]
theorem edges_sub {ops : Array Oper} {o : Oper} {L : Nat} : subM (infOf ops o).edges L = true ↔ ∀ e ∈ o.after, Region.binds .any e = true → L.testBit e.on = true := by
  constructor
  · intro h e he hb
    refine subM_spec h e.on ?_
    simp only [infOf, orBits_test, decide_eq_true_eq, List.mem_map, List.mem_filter]
    exact ⟨e, ⟨by simpa using he, hb⟩, rfl⟩
  · intro h
    refine subM_of fun j hj => ?_
    simp only [infOf, orBits_test, decide_eq_true_eq, List.mem_map, List.mem_filter] at hj
    obtain ⟨e, ⟨he, hb⟩, rfl⟩ := hj
    exact h e (by simpa using he) hb
theorem Told.ready {ops : Array Oper} {listed : Array Bool} {m i : Nat} {o : Oper} (h : Told ops listed m) (hi : ops[i]? = some o) : i ∈ Region.ready .any ops listed ↔ (!m.testBit i && subM (infOf ops o).edges m) = true := by
  rw [mem_ready, Bool.and_eq_true, Bool.not_eq_true', edges_sub, h.un hi]
  constructor
  · rintro ⟨h1, o', ho, h2⟩
    rw [hi] at ho; injection ho with ho; subst ho
    exact ⟨h1, fun e he hb => by rw [← h.2]; exact h2 e he hb⟩
  · rintro ⟨h1, h2⟩
    exact ⟨h1, o, hi, fun e he hb => by rw [h.2]; exact h2 e he hb⟩
/-- None but these is ready. -/
def aloneM (is : List Nat) (m : Nat) : List Inf → Nat → Bool
  | [], _ => true
  | x :: r, j => (is.contains j || m.testBit j || !subM x.edges m) && aloneM is m r (j + 1)
theorem aloneM_spec {is : List Nat} {m : Nat} : ∀ {l : List Inf} {j : Nat}, aloneM is m l j = true → ∀ (k : Nat) (x : Inf), l[k]? = some x → (!m.testBit (j + k) && subM x.edges m) = true → j + k ∈ is
  | [], _, _, k, x, hk, _ => by simp at hk
  | y :: r, j, h, k, x, hk, hr => by
    simp only [aloneM, Bool.and_eq_true, Bool.or_eq_true, List.contains_iff_mem, Bool.not_eq_true'] at h
    match k with
    | 0 =>
      simp only [List.getElem?_cons_zero, Option.some.injEq] at hk
      subst hk
      rw [Nat.add_zero] at hr ⊢
      rw [Bool.and_eq_true, Bool.not_eq_true'] at hr
      rcases h.1 with (h1 | h1) | h1
      · exact h1
      · rw [hr.1] at h1; cases h1
      · rw [hr.2] at h1; cases h1
    | k + 1 =>
      have := aloneM_spec h.2 k x (by simpa using hk) (by rwa [show j + 1 + k = j + (k + 1) by omega])
      rwa [show j + 1 + k = j + (k + 1) by omega] at this
theorem Told.alone {ops : Array Oper} {listed : Array Bool} {m : Nat} {is : List Nat} (h : Told ops listed m) (ha : aloneM is m (infsOf ops) 0 = true) : ∀ j ∈ Region.ready .any ops listed, j ∈ is := fun j hj => by
  obtain ⟨-, o, ho, -⟩ := mem_ready.1 hj
  have := aloneM_spec ha j _ (infs_get ho) (by rw [Nat.zero_add]; exact (h.ready ho).1 hj)
  rwa [Nat.zero_add] at this

/-- Operations that make something new each, in whatever order: what each yields (x of the new object's number) and the object. -/
structure Sp where
  i : Nat
  dst : Tmp
  x : Nat → A
  ob : Ob
def Sp.ok (P : Program) (G : Glob) (ops : Array Oper) (fr : Fr) (q : Sp) : Prop := ∃ o, ops[q.i]? = some o ∧ o.dst = some q.dst ∧ ∀ (σ : St) (k : A → St → Prop), k (q.x σ.length) (σ ++ [some q.ob]) → stepV P G ops o k fr σ
def spPut (ids : Nat → Nat) (fr : Fr) (q : Sp) : Fr := put fr (some q.dst) (q.x (ids q.i))
/-- What has been made lies there, behind what was. -/
structure Made (ids : Nat → Nat) (sp : List Sp) (σ σ' : St) : Prop where
  len : σ'.length = σ.length + sp.length
  old : ∀ k, k < σ.length → σ'[k]? = σ[k]?
  new : ∀ q ∈ sp, σ.length ≤ ids q.i ∧ σ'[ids q.i]? = some (some q.ob)
  inj : ∀ q ∈ sp, ∀ r ∈ sp, ids q.i = ids r.i → q.i = r.i
def orAll (is : List Nat) (m : Nat) : Nat := is.foldl (fun m i => m ||| (1 <<< i)) m
theorem orAll_test : ∀ (is : List Nat) (m j : Nat), (orAll is m).testBit j = (m.testBit j || decide (j ∈ is))
  | [], m, j => by simp [orAll]
  | i :: is, m, j => by
    have := orAll_test is (m ||| (1 <<< i)) j
    simp only [orAll, List.foldl_cons] at this ⊢
    rw [this, Nat.testBit_or, Nat.one_shiftLeft, Nat.testBit_two_pow]
    by_cases h : i = j
    · subst h; simp
    · simp [h, Ne.symm h, Bool.or_assoc]
def getInf (is : List Inf) (i : Nat) : Inf := is.getD i ⟨0, 0, 0, false, false, false⟩
def aptAll (is : List Inf) : List Nat → Bool
  | [] => true
  | i :: r => (r.all fun j => !(i == j) && apartM (getInf is i) (getInf is j) && apartM (getInf is j) (getInf is i)) && aptAll is r
theorem aptAll_spec {is : List Inf} : ∀ {l : List Nat}, aptAll is l = true → l.Nodup ∧ ∀ i ∈ l, ∀ j ∈ l, i ≠ j → apartM (getInf is i) (getInf is j) = true
  | [], _ => ⟨List.nodup_nil, fun i hi => by cases hi⟩
  | a :: r, h => by
    simp only [aptAll, Bool.and_eq_true, List.all_eq_true, Bool.not_eq_true', beq_eq_false_iff_ne] at h
    obtain ⟨h1, h2⟩ := h
    obtain ⟨k1, k2⟩ := aptAll_spec h2
    refine ⟨List.nodup_cons.2 ⟨fun ha => (h1 a ha).1.1 rfl, k1⟩, fun i hi j hj hij => ?_⟩
    rcases List.mem_cons.1 hi with e | hi'
    · subst e
      rcases List.mem_cons.1 hj with e | hj'
      · exact absurd e.symm hij
      · exact (h1 j hj').1.2
    · rcases List.mem_cons.1 hj with e | hj'
      · subst e
        exact (h1 i hi').2
      · exact k2 i hi' j hj' hij
def allM (is : List Inf) (l : List Nat) (m : Nat) : Bool :=
  (l.all fun i => decide (i < is.length) && !m.testBit i && subM (getInf is i).edges m && aloneM [i] (orAll l m ^^^ (1 <<< i)) is 0) && aptAll is l

/-- How a region's orders are gone through. -/
inductive Plan where
  | done
  | all (is : List Nat) (p : Plan)
  | take (i : Nat) (p : Plan)
  | pure (i : Nat) (p : Plan)
  | alt (i : Nat) (p q : Plan)
  | stop
def Plan.heads : Plan → List Nat
  | .alt i _ q => i :: q.heads
  | _ => []
def Plan.depth : Plan → Nat
  | .all is p => is.length + p.depth
  | .take _ p => p.depth + 1
  | .pure _ p => p.depth + 1
  | .alt _ p q => max (p.depth + 1) q.depth
  | _ => 0
/-- May i be taken now? -/
def takeM (is : List Inf) (i m : Nat) : Bool := match is[i]? with
  | none => false
  | some x => !m.testBit i && subM x.edges m && (bif x.reads then calmM i x m (pastM i is 0 m) is 0 else aloneM [i] m is 0)
def pureM (is : List Inf) (i m : Nat) : Bool := match is[i]? with
  | none => false
  | some x => !m.testBit i && subM x.edges m && calmP i x m (pastM i is 0 m) is 0
def Plan.check (is : List Inf) : Plan → Bool → Nat → Bool
  | .done, b, m => !b && aloneM [] m is 0
  | .all l p, b, m => !b && allM is l m && p.check is false (orAll l m)
  | .take i p, b, m => !b && takeM is i m && p.check is false (m ||| (1 <<< i))
  | .pure i p, b, m => !b && pureM is i m && p.check is false (m ||| (1 <<< i))
  | .alt i p q, b, m => (b || (match is[i]? with | some x => !m.testBit i && subM x.edges m | none => false) && aloneM (i :: q.heads) m is 0) && p.check is false (m ||| (1 <<< i)) && q.check is true m
  | .stop, b, _ => b
def awPlan (P : Program) (G : Glob) (ops : Array Oper) (K : Fr → St → Prop) : Plan → Fr → St → Prop
  | .done, fr, σ => K fr σ
  | .all l p, fr, σ => ∃ sp : List Sp, sp.map Sp.i = l ∧ (∀ q ∈ sp, q.ok P G ops fr) ∧ ∀ (ids : Nat → Nat) (σ' : St), Made ids sp σ σ' → awPlan P G ops K p (sp.foldl (spPut ids) fr) σ'
  | .take i p, fr, σ => match ops[i]? with
    | some o => stepA P G ops o (awPlan P G ops K p) fr σ
    | none => False
  | .pure i p, fr, σ => match ops[i]? with
    | some o => stepP P G ops o (fun x => awPlan P G ops K p (put fr o.dst x) σ) fr
    | none => False
  | .alt i p q, fr, σ => (match ops[i]? with
    | some o => stepA P G ops o (awPlan P G ops K p) fr σ
    | none => False) ∧ awPlan P G ops K q fr σ
  | .stop, _, _ => True

theorem cert_of {ops : Array Oper} {i : Nat} {oi : Oper} {listed : Array Bool} {m : Nat} (ht : Told ops listed m) (h : calmM i (infOf ops oi) m (pastM i (infsOf ops) 0 m) (infsOf ops) 0 = true) :
    Cert ops i oi listed fun j => (pastM i (infsOf ops) 0 m).testBit j := by
  refine ⟨fun j oj hj hji hall => ?_, fun j oj hj hji hL hl => ?_⟩
  · have := calmM_spec h j _ (infs_get hj) (by omega)
    rw [Nat.zero_add] at this
    cases hb : (pastM i (infsOf ops) 0 m).testBit j with
    | true => rfl
    | false =>
      have h1 := this.2 hb
      rw [edges_sub.2 hall] at h1
      cases h1
  · have := calmM_spec h j _ (infs_get hj) (by omega)
    rw [Nat.zero_add] at this
    rcases this.1 hL with h1 | h1
    · rw [ht.un hj, h1] at hl; cases hl
    · exact ⟨apartM_spec h1.1, h1.2⟩
theorem certP_of {ops : Array Oper} {i : Nat} {oi : Oper} {listed : Array Bool} {m : Nat} (ht : Told ops listed m) (h : calmP i (infOf ops oi) m (pastM i (infsOf ops) 0 m) (infsOf ops) 0 = true) :
    CertP ops i oi listed fun j => (pastM i (infsOf ops) 0 m).testBit j := by
  refine ⟨fun j oj hj hji hall => ?_, fun j oj hj hji hL hl => ?_⟩
  · have := calmP_spec h j _ (infs_get hj) (by omega)
    rw [Nat.zero_add] at this
    cases hb : (pastM i (infsOf ops) 0 m).testBit j with
    | true => rfl
    | false =>
      have h1 := this.2 hb
      rw [edges_sub.2 hall] at h1
      cases h1
  · have := calmP_spec h j _ (infs_get hj) (by omega)
    rw [Nat.zero_add] at this
    rcases this.1 hL with h1 | h1
    · rw [ht.un hj, h1] at hl; cases hl
    · exact apartM_spec h1
theorem all_sound {ops : Array Oper} {K C : Fr → St → Prop} {Mf d : Nat} (is : List Nat) (hal : ∀ i ∈ is, aloneM [i] (Mf ^^^ (1 <<< i)) (infsOf ops) 0 = true) (hapt : ∀ i ∈ is, ∀ j ∈ is, i ≠ j → apartM (getInf (infsOf ops) i) (getInf (infsOf ops) j) = true)
    (hend : ∀ (fuel : Nat) (listed : Array Bool) (fr : Fr) (σ : St), d ≤ fuel → Told ops listed Mf → C fr σ → awAny P G ops K fuel listed fr σ) :
    ∀ (n : Nat) (sp : List Sp), sp.length = n → (sp.map Sp.i).Nodup → (∀ q ∈ sp, q.i ∈ is) → ∀ (fuel m : Nat) (listed : Array Bool) {fr : Fr} {σ : St}, n + d ≤ fuel → Told ops listed m → (∀ j, Mf.testBit j = (m.testBit j || decide (j ∈ sp.map Sp.i))) → (∀ q ∈ sp, m.testBit q.i = false ∧ subM (getInf (infsOf ops) q.i).edges m = true) →
      (∀ q ∈ sp, q.ok P G ops fr) → (∀ (ids : Nat → Nat) (σ' : St), Made ids sp σ σ' → C (sp.foldl (spPut ids) fr) σ') → awAny P G ops K fuel listed fr σ
  | 0, sp, hn, hnd, hsub, fuel, m, listed, fr, σ, hf, ht, hM, hr, hok, H => by
    obtain rfl := List.eq_nil_of_length_eq_zero hn
    have hm : Mf = m := Nat.eq_of_testBit_eq fun j => by rw [hM]; simp
    subst hm
    exact hend fuel listed fr σ (by omega) ht (H (fun _ => 0) σ ⟨rfl, fun _ _ => rfl, fun q hq => (by cases hq), fun q hq => (by cases hq)⟩)
  | n + 1, sp, hn, hnd, hsub, fuel, m, listed, fr, σ, hf, ht, hM, hr, hok, H => by
    obtain ⟨f, rfl⟩ : ∃ f, fuel = f + 1 := ⟨fuel - 1, by omega⟩
    have hinf : ∀ q ∈ sp, ∀ o, ops[q.i]? = some o → getInf (infsOf ops) q.i = infOf ops o := fun q hq o ho => by
      unfold getInf
      rw [List.getD_eq_getElem?_getD, infs_get ho]; rfl
    obtain ⟨q0, hq0⟩ : ∃ q0, q0 ∈ sp := by
      cases sp with
      | nil => simp at hn
      | cons q _ => exact ⟨q, List.mem_cons_self⟩
    have hrd : ∀ q ∈ sp, q.i ∈ Region.ready .any ops listed := fun q hq => by
      obtain ⟨o, ho, -⟩ := hok q hq
      rw [ht.ready ho, ← hinf q hq o ho, (hr q hq).1, (hr q hq).2]; rfl
    refine ⟨fun h0 => (by have := hrd q0 hq0; rw [h0] at this; cases this), fun j hj => ?_⟩
    obtain ⟨-, oj, hoj, -⟩ := mem_ready.1 hj
    have hrj := (ht.ready hoj).1 hj
    rw [Bool.and_eq_true, Bool.not_eq_true'] at hrj
    have hjs : j ∈ sp.map Sp.i := by
      by_cases hMj : Mf.testBit j = true
      · rw [hM, hrj.1, Bool.false_or, decide_eq_true_eq] at hMj; exact hMj
      · exfalso
        have hMj : Mf.testBit j = false := by simpa using hMj
        have hne : j ≠ q0.i := fun e => by
          rw [hM, e, decide_eq_true (List.mem_map.2 ⟨q0, hq0, rfl⟩)] at hMj; simp at hMj
        have hxb : ∀ b, (Mf ^^^ (1 <<< q0.i)).testBit b = (Mf.testBit b ^^ decide (q0.i = b)) := fun b => by rw [Nat.testBit_xor, Nat.one_shiftLeft, Nat.testBit_two_pow]
        have hb := aloneM_spec (hal q0.i (hsub q0 hq0)) j _ (infs_get hoj) (by
          rw [Nat.zero_add, Bool.and_eq_true, Bool.not_eq_true', hxb, hMj, decide_eq_false (Ne.symm hne)]
          refine ⟨rfl, subM_of fun b hb => ?_⟩
          have hmb := subM_spec hrj.2 b hb
          rw [hxb, hM, hmb, Bool.true_or]
          have : q0.i ≠ b := fun e => by rw [← e, (hr q0 hq0).1] at hmb; cases hmb
          rw [decide_eq_false this]; rfl)
        rw [Nat.zero_add] at hb
        exact hne (by simpa using hb)
    obtain ⟨q, hq, rfl⟩ := List.mem_map.1 hjs
    obtain ⟨o, ho, hdst, hst⟩ := hok q hq
    obtain ⟨s, t, rfl⟩ := List.append_of_mem hq
    have hnd' : ((s ++ t).map Sp.i).Nodup ∧ q.i ∉ (s ++ t).map Sp.i := by
      simp only [List.map_append, List.map_cons] at hnd ⊢
      have := (List.perm_middle (a := q.i) (l₁ := s.map Sp.i) (l₂ := t.map Sp.i)).nodup_iff.1 hnd
      rw [List.nodup_cons] at this
      exact ⟨this.2, this.1⟩
    have hmem : ∀ r ∈ s ++ t, r ∈ s ++ q :: t := fun r hr => by
      rcases List.mem_append.1 hr with h | h
      · exact List.mem_append_left _ h
      · exact List.mem_append_right _ (List.mem_cons_of_mem _ h)
    have hne : ∀ r ∈ s ++ t, r.i ≠ q.i := fun r hr e => hnd'.2 (by rw [← e]; exact List.mem_map.2 ⟨r, hr, rfl⟩)
    have hap : ∀ r ∈ s ++ q :: t, ∀ u ∈ s ++ q :: t, r.i ≠ u.i → ∀ o o', ops[r.i]? = some o → ops[u.i]? = some o' → o.apart ops o' = true := fun r hr u hu hru o o' h1 h2 => by
      have := hapt _ (hsub r hr) _ (hsub u hu) hru
      rw [hinf r hr o h1, hinf u hu o' h2] at this
      exact apartM_spec this
    refine ⟨o, ho, ?_⟩
    unfold stepA
    refine hst σ _ ?_
    rw [hdst]
    have ht' := ht.next ho
    have hb1 : ∀ j, (m ||| (1 <<< q.i)).testBit j = (m.testBit j || decide (q.i = j)) := fun j => by rw [Nat.testBit_or, Nat.one_shiftLeft, Nat.testBit_two_pow]
    refine all_sound is hal hapt hend n (s ++ t) (by simp at hn ⊢; omega) hnd'.1 (fun r hr => hsub r (hmem r hr)) f _ _ (by omega) ht' (fun j => ?_) (fun r hr' => ?_) (fun r hr' => ?_) fun ids σ' hm => ?_
    · rw [hM, hb1, Bool.or_assoc]
      congr 1
      rw [Bool.eq_iff_iff]
      simp only [decide_eq_true_eq, Bool.or_eq_true, List.map_append, List.map_cons, List.mem_append, List.mem_cons]
      constructor
      · rintro (h | h | h)
        · exact .inr (.inl h)
        · exact .inl h.symm
        · exact .inr (.inr h)
      · rintro (h | h | h)
        · exact .inr (.inl h.symm)
        · exact .inl h
        · exact .inr (.inr h)
    · have h1 := hr r (hmem r hr')
      refine ⟨by rw [hb1, h1.1, decide_eq_false (fun e => hne r hr' e.symm)]; rfl, subM_of fun b hb => ?_⟩
      rw [hb1, subM_spec h1.2 b hb]; rfl
    · obtain ⟨o', ho', hd', hst'⟩ := hok r (hmem r hr')
      refine ⟨o', ho', hd', fun σ k hk => ?_⟩
      obtain ⟨a1, -, -⟩ := Oper.apart_spec (hap q hq r (hmem r hr') (fun e => hne r hr' e.symm) o o' ho ho')
      exact (stepV_put (by rw [← hdst]; exact a1)).2 (hst' σ k hk)
    · let ids' : Nat → Nat := fun j => if j = q.i then σ.length else ids j
      have e1 : ∀ r ∈ s ++ t, ids' r.i = ids r.i := fun r hr => if_neg (hne r hr)
      have e2 : ids' q.i = σ.length := if_pos rfl
      have hlen := hm.len
      rw [List.length_append, List.length_singleton] at hlen
      have hcase : ∀ r ∈ s ++ q :: t, r = q ∨ r ∈ s ++ t := fun r hr => by
        rcases List.mem_append.1 hr with h | h
        · exact .inr (List.mem_append_left _ h)
        · rcases List.mem_cons.1 h with h | h
          · exact .inl h
          · exact .inr (List.mem_append_right _ h)
      have hmade : Made ids' (s ++ q :: t) σ σ' := by
        refine ⟨by rw [hlen]; simp; omega, fun k hk => ?_, fun r hr => ?_, fun r hr u hu hru => ?_⟩
        · rw [hm.old k (by simp; omega), List.getElem?_append_left hk]
        · rcases hcase r hr with rfl | h
          · refine ⟨by rw [e2]; exact Nat.le_refl _, ?_⟩
            rw [e2, hm.old _ (by simp), List.getElem?_append_right (Nat.le_refl _), Nat.sub_self]; rfl
          · have := hm.new r h
            rw [e1 r h]
            rw [List.length_append] at this
            exact ⟨by omega, this.2⟩
        · rcases hcase r hr with rfl | h <;> rcases hcase u hu with rfl | h'
          · rfl
          · have := (hm.new u h').1
            rw [e2, e1 u h'] at hru
            simp at this; omega
          · have := (hm.new r h).1
            rw [e2, e1 r h] at hru
            simp at this; omega
          · rw [e1 r h, e1 u h'] at hru
            exact hm.inj r h u h' hru
      have := H ids' σ' hmade
      have hperm : (s ++ q :: t).foldl (spPut ids') fr = (q :: (s ++ t)).foldl (spPut ids') fr := by
        refine List.Perm.foldl_eq' List.perm_middle (fun r hr u hu z => ?_) fr
        by_cases hru : r.i = u.i
        · have : r = u := by
            rcases hcase r hr with h | h <;> rcases hcase u hu with h' | h'
            · rw [h, h']
            · exact absurd (by rw [← hru, h]) (hne u h')
            · exact absurd (by rw [hru, h']) (hne r h)
            · have hp := List.pairwise_map.1 hnd'.1
              obtain ⟨i, hi, rfl⟩ := List.mem_iff_getElem.1 h
              obtain ⟨j, hj, rfl⟩ := List.mem_iff_getElem.1 h'
              rw [List.pairwise_iff_getElem] at hp
              rcases Nat.lt_trichotomy i j with hij | hij | hij
              · exact absurd hru (hp i j hi hj hij)
              · subst hij; rfl
              · exact absurd hru.symm (hp j i hj hi hij)
          rw [this]
        · unfold spPut
          refine put_comm _ _ _ fun t ht e => ?_
          obtain ⟨o1, ho1, hd1, -⟩ := hok r hr
          obtain ⟨o2, ho2, hd2, -⟩ := hok u hu
          obtain ⟨-, a2, -⟩ := Oper.apart_spec (hap r hr u hu hru o1 o2 ho1 ho2)
          rw [hd1, hd2] at a2
          exact a2 t ht e
      rw [hperm, List.foldl_cons] at this
      have e3 : (s ++ t).foldl (spPut ids') (spPut ids' fr q) = (s ++ t).foldl (spPut ids) (put fr (some q.dst) (q.x σ.length)) := by
        have h0 : spPut ids' fr q = put fr (some q.dst) (q.x σ.length) := by unfold spPut; rw [e2]
        rw [h0]
        have : ∀ (l : List Sp) (g : Fr), (∀ r ∈ l, ids' r.i = ids r.i) → l.foldl (spPut ids') g = l.foldl (spPut ids) g := by
          intro l
          induction l with
          | nil => intro g _; rfl
          | cons r l ih =>
            intro g h
            rw [List.foldl_cons, List.foldl_cons]
            have : spPut ids' g r = spPut ids g r := by unfold spPut; rw [h r List.mem_cons_self]
            rw [this]
            exact ih _ fun u hu => h u (List.mem_cons_of_mem _ hu)
        exact this _ _ e1
      rw [e3] at this
      exact this
theorem plan_sound {ops : Array Oper} {K : Fr → St → Prop} : ∀ (p : Plan) (fuel m : Nat) (listed : Array Bool) {fr : Fr} {σ : St}, p.depth ≤ fuel → Told ops listed m →
    (p.check (infsOf ops) false m = true → awPlan P G ops K p fr σ → awAny P G ops K fuel listed fr σ) ∧
    (p.check (infsOf ops) true m = true → awPlan P G ops K p fr σ → ∀ i ∈ p.heads, ∃ f, fuel = f + 1 ∧ ∃ o, ops[i]? = some o ∧ stepA P G ops o (awAny P G ops K f (listed.setIfInBounds i true)) fr σ)
  | .done, fuel, m, listed, fr, σ, _, ht => ⟨fun hc h => by
      simp only [Plan.check, Bool.not_false, Bool.true_and] at hc
      have hr : Region.ready .any ops listed = [] := List.eq_nil_iff_forall_not_mem.2 fun j hj => by simpa using ht.alone hc j hj
      cases fuel with
      | zero => exact ⟨hr, h⟩
      | succ f => exact ⟨fun _ => h, fun i hi => by rw [hr] at hi; cases hi⟩, fun hc => by simp [Plan.check] at hc⟩
  | .stop, fuel, m, listed, fr, σ, _, _ => ⟨fun hc => by simp [Plan.check] at hc, fun _ _ i hi => by simp [Plan.heads] at hi⟩
  | .all l p, fuel, m, listed, fr, σ, hd, ht => by
    simp only [Plan.depth] at hd
    refine ⟨fun hc h => ?_, fun hc => by simp [Plan.check] at hc⟩
    simp only [Plan.check, Bool.not_false, Bool.true_and, Bool.and_eq_true] at hc
    obtain ⟨hall, hc⟩ := hc
    simp only [allM, Bool.and_eq_true, List.all_eq_true, Bool.not_eq_true', decide_eq_true_eq] at hall
    obtain ⟨h1, h2⟩ := hall
    obtain ⟨hnd, hapt⟩ := aptAll_spec h2
    simp only [awPlan] at h
    obtain ⟨sp, rfl, hok, H⟩ := h
    exact all_sound (Mf := orAll (sp.map Sp.i) m) (d := p.depth) (sp.map Sp.i) (fun i hi => (h1 i hi).2) hapt (fun fuel listed fr σ hf ht' hC => (plan_sound p fuel _ listed hf ht').1 hc hC) sp.length sp rfl hnd (fun q hq => List.mem_map.2 ⟨q, hq, rfl⟩) fuel m listed (by simpa using hd) ht (fun j => orAll_test _ _ _) (fun q hq => by
      have := h1 q.i (List.mem_map.2 ⟨q, hq, rfl⟩)
      exact ⟨this.1.1.2, this.1.2⟩) hok H
  | .take i p, fuel, m, listed, fr, σ, hd, ht => by
    simp only [Plan.depth] at hd
    obtain ⟨f, rfl⟩ : ∃ f, fuel = f + 1 := ⟨fuel - 1, by omega⟩
    refine ⟨fun hc h => ?_, fun hc => by simp [Plan.check] at hc⟩
    simp only [Plan.check, Bool.not_false, Bool.true_and, Bool.and_eq_true] at hc
    obtain ⟨htk, hc⟩ := hc
    simp only [awPlan] at h
    split at h
    · rename_i o ho
      have next : ∀ {fr σ}, awPlan P G ops K p fr σ → awAny P G ops K f (listed.setIfInBounds i true) fr σ := fun h => (plan_sound p f _ _ (by omega) (ht.next ho)).1 hc h
      unfold takeM at htk
      rw [infs_get ho] at htk
      simp only at htk
      rw [Bool.and_eq_true, ← ht.ready ho] at htk
      obtain ⟨hr, htk⟩ := htk
      have hre : (infOf ops o).reads = readsB o.op := rfl
      rw [hre] at htk
      cases hrd : readsB o.op with
      | true =>
        rw [hrd, cond_true] at htk
        obtain ⟨x, h1, h2⟩ := step_reads hrd h
        exact awAny_first hrd ho (cert_of ht htk) f listed (fun j hj => pastM_sub i _ 0 m j (by rw [← ht.2]; exact hj)) (fun j h => h) hr h1 (next h2)
      | false =>
        rw [hrd, cond_false] at htk
        refine ⟨fun h0 => (by rw [h0] at hr; cases hr), fun j hj => ?_⟩
        have := ht.alone htk j hj
        obtain rfl : j = i := by simpa using this
        exact ⟨o, ho, stepA_mono (fun fr s h => next h) h⟩
    · exact h.elim
  | .pure i p, fuel, m, listed, fr, σ, hd, ht => by
    simp only [Plan.depth] at hd
    obtain ⟨f, rfl⟩ : ∃ f, fuel = f + 1 := ⟨fuel - 1, by omega⟩
    refine ⟨fun hc h => ?_, fun hc => by simp [Plan.check] at hc⟩
    simp only [Plan.check, Bool.not_false, Bool.true_and, Bool.and_eq_true] at hc
    obtain ⟨htk, hc⟩ := hc
    simp only [awPlan] at h
    split at h
    · rename_i o ho
      have next : ∀ {fr σ}, awPlan P G ops K p fr σ → awAny P G ops K f (listed.setIfInBounds i true) fr σ := fun h => (plan_sound p f _ _ (by omega) (ht.next ho)).1 hc h
      unfold pureM at htk
      rw [infs_get ho] at htk
      simp only at htk
      rw [Bool.and_eq_true, ← ht.ready ho] at htk
      obtain ⟨hr, htk⟩ := htk
      obtain ⟨x, h1, h2⟩ := stepP_sound h
      exact awAny_pure ho (certP_of ht htk) f listed (fun j hj => pastM_sub i _ 0 m j (by rw [← ht.2]; exact hj)) (fun j h => h) hr h1 (next h2)
    · exact h.elim
  | .alt i p q, fuel, m, listed, fr, σ, hd, ht => by
    simp only [Plan.depth] at hd
    have main : ∀ b, (Plan.alt i p q).check (infsOf ops) b m = true → awPlan P G ops K (.alt i p q) fr σ → ∀ j ∈ (Plan.alt i p q).heads, ∃ f, fuel = f + 1 ∧ ∃ o, ops[j]? = some o ∧ stepA P G ops o (awAny P G ops K f (listed.setIfInBounds j true)) fr σ := fun b hc h j hj => by
      obtain ⟨f, rfl⟩ : ∃ f, fuel = f + 1 := ⟨fuel - 1, by omega⟩
      simp only [Plan.check, Bool.and_eq_true] at hc
      simp only [awPlan] at h
      rcases List.mem_cons.1 hj with rfl | hj
      · refine ⟨f, rfl, ?_⟩
        have h1 := h.1
        split at h1
        · rename_i o ho
          exact ⟨o, ho, stepA_mono (fun fr s h => (plan_sound p f _ _ (by omega) (ht.next ho)).1 hc.1.2 h) h1⟩
        · exact h1.elim
      · exact (plan_sound q (f + 1) m listed (by omega) ht).2 hc.2 h.2 j hj
    refine ⟨fun hc h => ?_, main true⟩
    have hm := main false hc h
    obtain ⟨f, rfl, o, ho, -⟩ := hm i (by simp [Plan.heads])
    simp only [Plan.check, Bool.false_or, Bool.and_eq_true] at hc
    obtain ⟨⟨⟨hne, hall⟩, hc1⟩, -⟩ := hc
    rw [infs_get ho] at hne
    simp only at hne
    rw [← ht.ready ho] at hne
    refine ⟨fun h0 => (by rw [h0] at hne; cases hne), fun j hj => ?_⟩
    obtain ⟨f', e, h'⟩ := hm j (ht.alone hall j hj)
    obtain rfl : f' = f := by omega
    exact h'
theorem told_start (ops : Array Oper) : Told ops (Array.replicate ops.size false) 0 := by
  refine ⟨by simp, fun j => ?_⟩
  simp only [Nat.zero_testBit, Array.getD_eq_getD_getElem?, Array.getElem?_replicate]
  split <;> rfl

/-- The text's order. -/
def Plan.text : Nat → Nat → Plan
  | 0, _ => .done
  | n + 1, k => .take k (Plan.text n (k + 1))
theorem text_depth : ∀ n k, (Plan.text n k).depth = n
  | 0, _ => rfl
  | n + 1, k => by simp only [Plan.text, Plan.depth, text_depth n]
theorem text_plan {ops : Array Oper} {K : Fr → St → Prop} : ∀ (l : List Oper) (k : Nat) (_ : ∀ j : Nat, l[j]? = ops[k + j]?) {fr : Fr} {σ : St}, awOps P G ops l K fr σ → awPlan P G ops K (Plan.text l.length k) fr σ
  | [], _, _, _, _, h => h
  | o :: l, k, hl, fr, σ, h => by
    have h0 : ops[k]? = some o := by simpa using (hl 0).symm
    simp only [List.length_cons, Plan.text, awPlan, h0]
    rw [awOps_cons] at h
    exact stepA_mono (fun fr s h => text_plan l (k + 1) (fun j => by have := hl (j + 1); simpa [Nat.add_assoc, Nat.add_comm 1 j] using this) h) h
/-- May a region that draws its order be gone through in the text's order? -/
def textM (is : List Inf) : Bool := (Plan.text is.length 0).check is false 0
def textB (ops : Array Oper) : Bool := textM (infsOf ops)
def lexCode : Code → Bool
  | .region _ ops true => textB ops
  | .seq a b => lexCode a && lexCode b
  | .cond _ a b => lexCode a && lexCode b
  | .block _ c => lexCode c
  | .loop c => lexCode c
  | .scope c => lexCode c
  | .rangeFunc _ _ a b => lexCode a && lexCode b
  | _ => true
theorem draw_sound {b : Df} (hm : P.follows .mixedOrders = true) {id : Nat} {ops : Array Oper} (ho : ∀ o ∈ ops.toList, okDst b o.dst) (p : Plan) (hd : p.depth ≤ ops.size) (hc : p.check (infsOf ops) false 0 = true) {K : Fr → St → Prop} {Q : Exit → Act → World → Prop} {fr : Fr} {a : Act}
    (hI : Inv G ρ σ w) (hF : HoldsF b ρ w fr a) (h : awPlan P G ops K p fr σ) (hP : ∀ ρ' σ' a' w', Ext ρ w ρ' w' → Inv G ρ' σ' w' → Dfs b w' a' → PQ G ρ' w' a' Q) (hQ : ∀ fr' σ' ρ' a' w', Ext ρ w ρ' w' → Inv G ρ' σ' w' → HoldsF b ρ' w' fr' a' → K fr' σ' → Q .normal a' w') : (Code.region id ops true).wpIn (RF rn) 0 P Q a w := by
  have hd' := Ext.drew ρ w
  exact wpIn_region_any hm (awAny_sound ho (w := w.drew) ops.size _ (hI.ext_same hd' rfl) (hF.ext hI hd') ((plan_sound p ops.size 0 _ hd (told_start ops)).1 hc h) (fun ρ' σ' a' w' h1 h2 h3 => hP _ _ _ _ (hd'.trans h1) h2 h3) fun fr' σ' ρ' a' w' h1 h2 h3 h4 => hQ _ _ _ _ _ (hd'.trans h1) h2 h3 h4)
end
end Go.Ab
