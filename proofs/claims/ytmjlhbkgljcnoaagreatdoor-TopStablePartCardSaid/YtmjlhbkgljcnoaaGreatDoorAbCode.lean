/- Regions and code over abstract frames and stores. -/
import Derived.Test.YtmjlhbkgljcnoaaGreatDoorAbWp
namespace Go.Ab
open Go Go.RowKit

inductive Ex where
  | normal
  | exit (id : Nat)
  | ret
abbrev Pst := Ex → Fr → St → Prop

section
variable {P : Program} {ρ ρ' : Ren} {w w' : World} {σ : St} {G : Glob} {rn : Option Nat}

theorem rd_congr {e e' : Operand → A} {op : Op} {k : Prop → A → Prop} (h : ∀ x ∈ op.operands.toList, e x = e' x) (hr : rd P σ e op k) : rd P σ e' op k := by
  cases op with
  | move x => simp only [rd] at hr ⊢; rw [← h x (by simp [Op.operands])]; exact hr
  | assign x => simp only [rd] at hr ⊢; rw [← h x (by simp [Op.operands])]; exact hr
  | pick a b c => simp only [rd] at hr ⊢; rw [← h a (by simp [Op.operands]), ← h b (by simp [Op.operands]), ← h c (by simp [Op.operands])]; exact hr
  | load t a => simp only [rd] at hr ⊢; rw [← h a (by simp [Op.operands])]; exact hr
  | fieldAddr t a f => simp only [rd] at hr ⊢; rw [← h a (by simp [Op.operands])]; exact hr
  | field t a f => simp only [rd] at hr ⊢; rw [← h a (by simp [Op.operands])]; exact hr
  | indexAddr t a b => simp only [rd] at hr ⊢; rw [← h a (by simp [Op.operands]), ← h b (by simp [Op.operands])]; exact hr
  | index t a b => simp only [rd] at hr ⊢; rw [← h a (by simp [Op.operands]), ← h b (by simp [Op.operands])]; exact hr
  | binOp o t a b t' => simp only [rd] at hr ⊢; rw [← h a (by simp [Op.operands]), ← h b (by simp [Op.operands])]; exact hr
  | unOp o t a => simp only [rd] at hr ⊢; rw [← h a (by simp [Op.operands])]; exact hr
  | convert s t a => simp only [rd] at hr ⊢; rw [← h a (by simp [Op.operands])]; exact hr
  | slice t x lo hi mx =>
    cases mx with
    | some m => exact hr.elim
    | none =>
      simp only [rd] at hr ⊢
      have e1 : lo.map e = lo.map e' := by
        cases lo with
        | none => rfl
        | some o => simp only [Option.map_some]; rw [h o (by simp [Op.operands])]
      have e2 : hi.map e = hi.map e' := by
        cases hi with
        | none => rfl
        | some o => simp only [Option.map_some]; rw [h o (by simp [Op.operands])]
      rw [← h x (by simp [Op.operands]), ← e1, ← e2]; exact hr
  | extract a i => simp only [rd] at hr ⊢; rw [← h a (by simp [Op.operands])]; exact hr
  | makeInterface t a => simp only [rd] at hr ⊢; rw [← h a (by simp [Op.operands])]; exact hr
  | makeFunc f a b =>
    simp only [rd] at hr ⊢
    have e1 : a.toList.map e = a.toList.map e' := List.map_congr_left fun x hx => h x (by simp only [Op.operands, Array.toList_append, List.mem_append]; exact .inl hx)
    have e2 : b.toList.map e = b.toList.map e' := List.map_congr_left fun x hx => h x (by simp only [Op.operands, Array.toList_append, List.mem_append]; exact .inr hx)
    rw [← e1, ← e2]; exact hr
  | typeAssert a t u b => simp only [rd] at hr ⊢; rw [← h a (by simp [Op.operands])]; exact hr
  | lookup t a b ok => simp only [rd] at hr ⊢; rw [← h a (by simp [Op.operands]), ← h b (by simp [Op.operands])]; exact hr
  | nilCheck a => simp only [rd] at hr ⊢; rw [← h a (by simp [Op.operands])]; exact hr
  | build t ps =>
    simp only [rd] at hr ⊢
    have e1 : (ps.toList.map fun p => (p.1, e p.2)) = ps.toList.map fun p => (p.1, e' p.2) := List.map_congr_left fun p hp => by
      rw [h p.2 (by simp only [Op.operands]; exact List.mem_map.2 ⟨p, hp, rfl⟩)]
    rw [← e1]; exact hr
  | call c =>
    simp only [rd] at hr ⊢
    split at hr
    · have e1 : c.args.toList.map e = c.args.toList.map e' := List.map_congr_left fun x hx => h x (by simp only [Op.operands, Call.operands, Array.toList_append, List.mem_append]; exact .inr hx)
      rw [← e1]; exact hr
    · exact hr.elim
  | _ => exact hr.elim

theorem some_load {t : TypeId} {k : Prop → A → Prop} {a : A} (h : rdLoad P σ t k a) : ∃ p x, k p x := by
  unfold rdLoad at h; repeat' split at h
  all_goals first | exact h.elim | exact ⟨_, _, h⟩
theorem some_part {t o : Nat} {k : Prop → A → Prop} {a : A} (h : rdPart P t o k a) : ∃ p x, k p x := by
  unfold rdPart at h; repeat' split at h
  all_goals first | exact h.elim | exact ⟨_, _, h⟩
theorem some_fieldAddr {t f : Nat} {k : Prop → A → Prop} {a : A} (h : rdFieldAddr P σ t f k a) : ∃ p x, k p x := by
  unfold rdFieldAddr at h; repeat' split at h
  all_goals first | exact h.elim | exact ⟨_, _, h⟩
theorem some_field {t f : Nat} {k : Prop → A → Prop} {a : A} (h : rdField P t f k a) : ∃ p x, k p x := by
  unfold rdField at h; split at h
  · exact some_part h
  · exact h.elim
theorem some_indexAddr {t : TypeId} {k : Prop → A → Prop} {a b : A} (h : rdIndexAddr P σ t k a b) : ∃ p x, k p x := by
  unfold rdIndexAddr at h; repeat' split at h
  all_goals first | exact h.elim | exact ⟨_, _, h⟩
theorem some_index {t : TypeId} {k : Prop → A → Prop} {a b : A} (h : rdIndex P t k a b) : ∃ p x, k p x := by
  unfold rdIndex at h; split at h
  · exact ⟨_, _, h⟩
  · split at h
    · obtain ⟨p, x, h⟩ := some_part h; exact ⟨_, _, h⟩
    · exact h.elim
  · split at h
    · obtain ⟨p, x, h⟩ := some_part h; exact ⟨_, _, h⟩
    · exact h.elim
  · exact h.elim
theorem some_arith {op : BinOp} {k : Prop → A → Prop} {ik : IntKind} {a b : Int} (h : rdArith op k ik a b) : ∃ p x, k p x := by
  unfold rdArith at h; split at h
  all_goals first | exact h.elim | exact ⟨_, _, h⟩
theorem some_str {op : BinOp} {k : Prop → A → Prop} {a b : List UInt8} (h : rdStr op k a b) : ∃ p x, k p x := by
  unfold rdStr at h; split at h
  all_goals first | exact h.elim | exact ⟨_, _, h⟩
theorem some_bin {op : BinOp} {t : TypeId} {k : Prop → A → Prop} {a b : A} (h : rdBin P op t k a b) : ∃ p x, k p x := by
  unfold rdBin at h
  split at h
  · split at h
    · exact ⟨_, _, h⟩
    · exact ⟨_, _, h⟩
    · split at h
      · exact some_arith h
      · exact h.elim
  · exact some_str h
  all_goals
    repeat' split at h
    all_goals first | exact h.elim | exact ⟨_, _, h⟩
theorem some_un {op : UnOp} {k : Prop → A → Prop} {a : A} (h : rdUn op k a) : ∃ p x, k p x := by
  unfold rdUn at h; repeat' split at h
  all_goals first | exact h.elim | exact ⟨_, _, h⟩
theorem some_convert {s t : TypeId} {k : Prop → A → Prop} {a : A} (h : rdConvert P σ s t k a) : ∃ p x, k p x := by
  unfold rdConvert at h; repeat' split at h
  all_goals first | exact h.elim | exact ⟨_, _, h⟩
theorem some_len {t : TypeId} {k : Prop → A → Prop} {a : A} (h : rdLen P σ t k a) : ∃ p x, k p x := by
  unfold rdLen at h; split at h
  all_goals first | exact h.elim | exact ⟨_, _, h⟩
theorem some_pick {k : Prop → A → Prop} {a b c : A} (h : rdPick k a b c) : ∃ p x, k p x := by
  unfold rdPick at h; split at h
  all_goals first | exact h.elim | exact ⟨_, _, h⟩
theorem some_slice {t : TypeId} {k : Prop → A → Prop} {x : A} {lo hi : Option A} (h : rdSlice P σ t k x lo hi) : ∃ p x, k p x := by
  unfold rdSlice at h; repeat' split at h
  all_goals first | exact h.elim | exact ⟨_, _, h⟩
theorem some_extract {i : Nat} {k : Prop → A → Prop} {a : A} (h : rdExtract k i a) : ∃ p x, k p x := by
  unfold rdExtract at h; split at h
  all_goals first | exact h.elim | exact ⟨_, _, h⟩
theorem some_assert {t : TypeId} {ok : Bool} {k : Prop → A → Prop} {a : A} (h : rdAssert P t ok k a) : ∃ p x, k p x := by
  unfold rdAssert at h
  split at h
  · split at h
    · exact ⟨_, _, h⟩
    · split at h
      · exact ⟨_, _, h⟩
      · exact h.elim
  · split at h
    · exact ⟨_, _, h⟩
    · exact h.elim
  · exact h.elim
theorem some_lookup {t : TypeId} {ok : Bool} {k : Prop → A → Prop} {a b : A} (h : rdLookup P σ t ok k a b) : ∃ p x, k p x := by
  unfold rdLookup at h; repeat' split at h
  all_goals first | exact h.elim | exact ⟨_, _, h⟩
theorem some_nil {k : Prop → A → Prop} {a : A} (h : rdNil σ k a) : ∃ p x, k p x := by
  unfold rdNil at h; repeat' split at h
  all_goals first | exact h.elim | exact ⟨_, _, h⟩
theorem some_build {t : TypeId} {ps : List (Nat × A)} {k : Prop → A → Prop} (h : rdBuild P σ t ps k) : ∃ p x, k p x := by
  unfold rdBuild at h; repeat' split at h
  all_goals first | exact h.elim | exact ⟨_, _, h⟩
theorem some_builtin {b : Builtin} {as : List A} {ts : List TypeId} {k : Prop → A → Prop} (h : rdBuiltin P σ b k as ts) : ∃ p x, k p x := by
  unfold rdBuiltin at h
  split at h
  · split at h
    · exact some_len h
    · unfold rdCap at h
      split at h
      · exact ⟨_, _, h⟩
      · exact h.elim
    · exact h.elim
  · unfold rdMinMax at h
    repeat' split at h
    all_goals first | exact h.elim | exact ⟨_, _, h⟩
  · exact h.elim
theorem rd_some {e : Operand → A} {op : Op} {k : Prop → A → Prop} (h : rd P σ e op k) : ∃ p x, k p x := by
  cases op with
  | move x => exact ⟨_, _, h⟩
  | assign x => exact ⟨_, _, h⟩
  | pick a b c => exact some_pick h
  | load t a => exact some_load h
  | fieldAddr t a f => exact some_fieldAddr h
  | field t a f => exact some_field h
  | indexAddr t a b => exact some_indexAddr h
  | index t a b => exact some_index h
  | binOp o t a b t' => exact some_bin h
  | unOp o t a => exact some_un h
  | convert s t a => exact some_convert h
  | slice t x lo hi mx =>
    cases mx with
    | some m => exact h.elim
    | none => exact some_slice h
  | extract a i => exact some_extract h
  | makeInterface t a => exact ⟨_, _, h⟩
  | makeFunc f a b => exact ⟨_, _, h⟩
  | typeAssert a t u b => exact some_assert h
  | build t ps => exact some_build h
  | lookup t a b ok => exact some_lookup h
  | nilCheck a => exact some_nil h
  | call c =>
    simp only [rd] at h
    split at h
    · exact some_builtin h
    · exact h.elim
  | _ => exact h.elim

theorem some_cmp {o : BinOp} {t : TypeId} {k : Prop → A → Prop} {a b : A} (h : rdCmp P o t k a b) : ∃ p x, k p x := by
  unfold rdCmp at h
  split at h
  · exact ⟨_, _, h⟩
  · exact some_bin h
theorem rdC_some {e : Operand → A} {op : Op} {k : Prop → A → Prop} (h : rdC P σ e op k) : ∃ p x, k p x := by
  unfold rdC at h
  split at h
  · exact some_cmp h
  · exact rd_some h
theorem rdC_congr {e e' : Operand → A} {op : Op} {k : Prop → A → Prop} (h : ∀ x ∈ op.operands.toList, e x = e' x) (hr : rdC P σ e op k) : rdC P σ e' op k := by
  unfold rdC at hr ⊢
  split at hr
  · rename_i o t a b t'
    rw [← h a (by simp [Op.operands]), ← h b (by simp [Op.operands])]; exact hr
  · exact rd_congr h hr
theorem rdC_sound {o : Oper} {e : Operand → A} {ve : Operand → Value} {k : Prop → A → Prop} (hI : Inv G ρ σ w) (hev : ∀ x, RepA ρ w (e x) (ve x)) (h : rdC P σ e o.op k) : YldN P ρ w (execOp ve o) k := by
  unfold rdC at h
  split at h
  · rename_i b t x y t' ho
    have old : ∀ k : Prop → A → Prop, rdBin P b t k (e x) (e y) → YldN P ρ w (execOp ve o) k := fun k hk => rd_sound hI hev (by rw [ho]; exact hk)
    unfold rdCmp at h
    split at h
    · rename_i a c _ ha hb
      refine ⟨_, _, h, fun q => ?_⟩
      obtain ⟨r, hr⟩ := Option.isSome_iff_exists.1 q
      obtain ⟨p, z, ⟨hp, rfl⟩, hs⟩ := old _ (by rw [ha, hb]; exact cmpD_rd hr)
      rw [hr]
      exact hs hp
    · exact old _ h
  · exact rd_sound hI hev h

theorem strip_of_cond {a : A} {v : Value} (h : RepA ρ w a v) (x : A) (hx : x = if a.cond then a.strip else .any) : RepA ρ w x v := by
  subst hx
  split
  · rename_i hc; exact strip_rep h hc
  · exact .any _

theorem rdG_some {e : Operand → A} {op : Op} {k : Prop → A → Prop} (h : rdG P σ e op k) : ∃ p z, k p z := by
  unfold rdG at h
  split at h
  · obtain ⟨p, z, h⟩ := some_pick h; exact ⟨_, _, h⟩
  · obtain ⟨p, z, h⟩ := rdC_some h; exact ⟨_, _, h⟩
theorem rdG_sound {o : Oper} {e : Operand → A} {ve : Operand → Value} {k : Prop → A → Prop} (hI : Inv G ρ σ w) (hev : ∀ x, RepA ρ w (e x) (ve x)) (h : rdG P σ e o.op k) : YldN P ρ w (execOp ve o) k := by
  unfold rdG at h
  split at h
  · rename_i x a b ho
    obtain ⟨p, z, hk⟩ := some_pick h
    by_cases hc : (e x).cond = true
    · obtain ⟨p, z, hk, hs⟩ := rdPick_sound (P := P) (strip_rep (hev x) hc) (hev a) (hev b) h
      refine ⟨_, z, hk, fun q => let ⟨v, h1, h2⟩ := hs q.2; ⟨v, ?_, h2⟩⟩
      simp only [execOp, ho]
      simp only [Sem.run_bind] at h1 ⊢
      cases hr : (asBool (ve x)).run P w with
      | halt y w' => rw [hr] at h1; simp at h1
      | ok b w' =>
        rw [hr] at h1
        simp only [Result.andThen_ok, Sem.run_pure, Result.ok.injEq] at h1 ⊢
        exact ⟨by rw [h1.1], h1.2⟩
    · exact ⟨_, z, hk, fun q => absurd q.1 hc⟩
  · obtain ⟨p, z, hk⟩ := rdC_some h
    by_cases hall : (o.op.operands.toList.all fun x => (e x).cond) = true
    · have h' := rdC_congr (e' := fun x => if (e x).cond then (e x).strip else .any) (fun x hx => by
        have := List.all_eq_true.1 hall x hx
        simp only [this, if_true]) h
      obtain ⟨p, z, hk, hs⟩ := rdC_sound hI (fun x => strip_of_cond (hev x) _ rfl) h'
      exact ⟨_, z, hk, fun q => hs q.2⟩
    · exact ⟨_, z, hk, fun q => absurd q.1 hall⟩

/-- A guarded operation, its guard met or not. -/
theorem opG_sound {b : Df} {ops : Array Oper} {o : Oper} {fr : Fr} {a : Act} {c : Bool} {k : A → St → Prop} {K : Act → World → Prop} {Q : Exit → Act → World → Prop} (hI : Inv G ρ σ w) (hF : HoldsF b ρ w fr a)
    (hc : Region.wanted o (yielded ops a.tmps) = c) (h : opG P G σ (ev G fr) c o.op k) (hP : PQ G ρ w a Q) (hK : ∀ a' w', Step G ρ w a o.dst k a' w' → K a' w') :
    if Region.wanted o (yielded ops a.tmps) then o.wpIn (RF rn) 0 P a w K Q else (∀ f, o.about P w a.eval = some f → (RF rn).fn f) ∧ K (a.put o.dst undef) w := by
  have hev := ev_rep hI hF
  have no : ∀ x, k (.grd false x) σ → (∀ f, o.about P w a.eval = some f → (RF rn).fn f) ∧ K (a.put o.dst undef) w := fun x hk => ⟨fun _ _ => trivial, hK _ _ ⟨.grd false x, undef, ρ, σ, rfl, Ext.refl _ _, hI, .grd _ (fun h => by cases h) (fun _ => rfl), hk⟩⟩
  have reads : rdG P σ (ev G fr) o.op (fun p x => (c = true → p) ∧ k (.grd c x) σ) →
      if Region.wanted o (yielded ops a.tmps) then o.wpIn (RF rn) 0 P a w K Q else (∀ f, o.about P w a.eval = some f → (RF rn).fn f) ∧ K (a.put o.dst undef) w := fun h => by
    rw [hc]
    cases c with
    | true =>
      rw [if_pos rfl]
      obtain ⟨p, x, ⟨hp, hk⟩, hs⟩ := rdG_sound hI hev h
      obtain ⟨v, h1, h2⟩ := hs (hp rfl)
      exact wp_of_value h1 (hK _ _ ⟨.grd true x, v, ρ, σ, rfl, Ext.refl _ _, hI, .grd _ (fun _ => h2) (fun h => by cases h), hk⟩)
    | false =>
      rw [if_neg (by simp)]
      obtain ⟨p, x, _, hk⟩ := rdG_some h
      exact no x hk
  have writes : wrG P G σ (ev G fr) c o.op k → if Region.wanted o (yielded ops a.tmps) then o.wpIn (RF rn) 0 P a w K Q else (∀ f, o.about P w a.eval = some f → (RF rn).fn f) ∧ K (a.put o.dst undef) w := fun h => by
    rw [hc]
    cases c with
    | true => rw [if_pos rfl]; exact op1_sound' hI (fun x => ungrd_rep (hev x)) (h.1 rfl) hP hK
    | false => rw [if_neg (by simp)]; exact ⟨fun _ _ => trivial, hK _ _ ⟨.any, undef, ρ, σ, rfl, Ext.refl _ _, hI, .any _, h.2 rfl⟩⟩
  unfold opG at h
  split at h
  · rename_i cl ho
    split at h
    · rename_i f hcl
      rcases h with ⟨d, hp, hk⟩ | h
      · rw [hc]
        cases c with
        | true =>
          rw [if_pos rfl]
          obtain ⟨hall, hcall⟩ := hp rfl
          have hst : ∀ x ∈ o.op.operands.toList, RepA ρ w (ev G fr x).strip (a.eval x) := fun x hx => strip_rep (hev x) (List.all_eq_true.1 hall x hx)
          refine callV_wp hI ho hcl (hst f (by rw [ho]; simp [Op.operands, Call.operands, hcl])) (args := cl.args.toList.map fun x => (ev G fr x).strip) ⟨by simp, fun i x v hx hv => by
            simp only [List.getElem?_map, Option.map_eq_some_iff] at hx hv
            obtain ⟨y, e1, rfl⟩ := hx
            obtain ⟨z, e2, rfl⟩ := hv
            rw [e1] at e2; injection e2 with e2; subst e2
            exact hst y (by rw [ho]; simp only [Op.operands, Call.operands, Array.toList_append, List.mem_append]; exact .inr (List.mem_of_getElem? e1))⟩ hcall hP ?_
          rintro a' w' ⟨x, v, ρ', σ', rfl, a1, a2, a3, rfl, rfl⟩
          exact hK _ _ ⟨.grd true (.d d), v, ρ', _, rfl, a1, a2, .grd _ (fun _ => a3) (fun h => by cases h), hk⟩
        | false =>
          rw [if_neg (by simp)]
          exact no _ hk
      · exact writes h
    · exact writes h
    · exact writes h
    · exact writes h
    · exact writes h
    · rename_i r name hcl
      rcases h with ⟨d, hp, hk⟩ | h
      · rw [hc]
        cases c with
        | true =>
          rw [if_pos rfl]
          obtain ⟨hall, hcall⟩ := hp rfl
          have hst : ∀ x ∈ o.op.operands.toList, RepA ρ w (ev G fr x).strip (a.eval x) := fun x hx => strip_rep (hev x) (List.all_eq_true.1 hall x hx)
          refine callI_wp hI ho hcl (hst r (by rw [ho]; simp [Op.operands, Call.operands, hcl])) (args := cl.args.toList.map fun x => (ev G fr x).strip) ⟨by simp, fun i x v hx hv => by
            simp only [List.getElem?_map, Option.map_eq_some_iff] at hx hv
            obtain ⟨y, e1, rfl⟩ := hx
            obtain ⟨z, e2, rfl⟩ := hv
            rw [e1] at e2; injection e2 with e2; subst e2
            exact hst y (by rw [ho]; simp only [Op.operands, Call.operands, Array.toList_append, List.mem_append]; exact .inr (List.mem_of_getElem? e1))⟩ hcall hP ?_
          rintro a' w' ⟨x, v, ρ', σ', rfl, a1, a2, a3, rfl, rfl⟩
          exact hK _ _ ⟨.grd true (.d d), v, ρ', _, rfl, a1, a2, .grd _ (fun _ => a3) (fun h => by cases h), hk⟩
        | false =>
          rw [if_neg (by simp)]
          exact no _ hk
      · exact writes h
    · exact reads h
  · exact writes h
  · exact writes h
  · exact writes h
  · exact writes h
  · exact writes h
  · exact writes h
  · exact writes h
  · exact writes h
  · exact reads h

theorem guardB_sound {bf : Df} {ops : Array Oper} {o : Oper} {fr : Fr} {a : Act} {j : Nat} {b c : Bool} (hF : HoldsF bf ρ w fr a) (hg : o.guard = some (j, b)) (h : guardB ops fr j b = some c) :
    Region.wanted o (yielded ops a.tmps) = c := by
  unfold guardB at h
  split at h
  · rename_i d hd
    have hs := hF.slot d
    have hy : yielded ops a.tmps j = (match a.tmps.getD d undef with | .bool b => some b | _ => none) := by
      unfold yielded
      rw [hd]
      simp only [Option.bind_some, Array.getD_eq_getD_getElem?]
      cases a.tmps[d]? with
      | none => rfl
      | some v => cases v <;> rfl
    simp only [Region.wanted, hg, hy]
    split at h
    · rename_i x hx
      rw [hx] at hs
      injection h with h
      rw [bool_form hs, ← h]
      cases x <;> cases b <;> rfl
    · rename_i c' x hx
      rw [hx] at hs
      injection h with h; subst h
      cases hs with
      | grd _ h1 h2 =>
        cases c' with
        | true => rw [bool_form (h1 rfl)]; cases x <;> cases b <;> rfl
        | false => rw [h2 rfl]; cases b <;> rfl
    · rename_i x _ hx
      rw [hx] at hs
      injection h with h; subst h
      cases hs with
      | grd _ h1 h2 => rw [h2 rfl]; cases b <;> rfl
    · cases h
  · cases h

/-- A region in the text's order. -/
theorem awOps_sound {b : Df} {ops : Array Oper} {Q : Exit → Act → World → Prop} : ∀ (l : List Oper) {K : Fr → St → Prop} {fr : Fr} {σ : St} {ρ : Ren} {w : World} {a : Act}, (∀ o ∈ l, okDst b o.dst) → Inv G ρ σ w → HoldsF b ρ w fr a → awOps P G ops l K fr σ →
    (∀ ρ' σ' a' w', Ext ρ w ρ' w' → Inv G ρ' σ' w' → Dfs b w' a' → PQ G ρ' w' a' Q) →
    (∀ fr' σ' ρ' a' w', Ext ρ w ρ' w' → Inv G ρ' σ' w' → HoldsF b ρ' w' fr' a' → K fr' σ' → Q .normal a' w') → wpListIn (RF rn) 0 P ops Q l a w
  | [], K, fr, σ, ρ, w, a, _, hI, hF, h, _, hQ => hQ fr σ ρ a w (Ext.refl _ _) hI hF h
  | o :: rest, K, fr, σ, ρ, w, a, hd, hI, hF, h, hP, hQ => by
    simp only [awOps] at h
    split at h
    · rename_i hg
      refine wpListIn_plain hg fun K' hK' => ?_
      refine op1_sound hI hF h (hP _ _ _ _ (Ext.refl _ _) hI hF.1) fun a' w' ⟨x, v, ρ', σ', e, hx, hI', hr, hk⟩ => hK' _ _ ?_
      subst e
      exact awOps_sound rest (fun o ho => hd o (List.mem_cons_of_mem _ ho)) hI' ((hF.ext hI hx).put o.dst (hd o (List.mem_cons_self ..)) hr) hk (fun ρ'' σ'' a'' w'' h1 h2 h3 => hP _ _ _ _ (hx.trans h1) h2 h3) fun fr' σ'' ρ'' a'' w'' h1 h2 h3 h4 => hQ _ _ _ _ _ (hx.trans h1) h2 h3 h4
    · rename_i j b hg
      split at h
      · rename_i c hc
        refine wpListIn_step fun K' hK' => ?_
        refine opG_sound hI hF (guardB_sound hF hg hc) h (hP _ _ _ _ (Ext.refl _ _) hI hF.1) fun a' w' ⟨x, v, ρ', σ', e, hx, hI', hr, hk⟩ => hK' _ _ ?_
        subst e
        exact awOps_sound rest (fun o ho => hd o (List.mem_cons_of_mem _ ho)) hI' ((hF.ext hI hx).put o.dst (hd o (List.mem_cons_self ..)) hr) hk (fun ρ'' σ'' a'' w'' h1 h2 h3 => hP _ _ _ _ (hx.trans h1) h2 h3) fun fr' σ'' ρ'' a'' w'' h1 h2 h3 h4 => hQ _ _ _ _ _ (hx.trans h1) h2 h3 h4
      · exact h.elim
end
end Go.Ab
