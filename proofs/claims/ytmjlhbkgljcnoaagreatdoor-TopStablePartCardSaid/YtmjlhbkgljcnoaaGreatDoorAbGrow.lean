/- Readings stay what they are when the store grows. -/
import Derived.Test.YtmjlhbkgljcnoaaGreatDoorAbCode
set_option linter.unusedSimpArgs false
namespace Go.Ab
open Go Go.RowKit
section
variable {P : Program} {σ σ' : St} {G : Glob}
def MonoK (k : Prop → A → Prop) : Prop := ∀ (p p' : Prop) (a : A), (p → p') → k p a → k p' a
def Later (σ σ' : St) : Prop := σ.length ≤ σ'.length ∧ ∀ (id : Nat) (o : Ob), σ[id]? = some (some o) → σ'[id]? = some (some o)
theorem later_app (σ l : St) : Later σ (σ ++ l) := ⟨by simp, fun id o h => by rw [List.getElem?_append_left (List.getElem?_eq_some_iff.1 h).1]; exact h⟩
theorem live_later (hl : Later σ σ') {id : Nat} (h : liveId σ id = true) : liveId σ' id = true := by
  unfold liveId at h
  split at h
  · rename_i o ho; simp only [liveId, hl.2 _ _ ho]
  · cases h
theorem one_later (hl : Later σ σ') {a : A} (h : oneA σ a = true) : oneA σ' a = true := by
  cases a <;> simp only [oneA] at h ⊢ <;> first | exact h | exact live_later hl h | skip
  all_goals exact A.bd_mono hl.1 _ h
theorem ok_later (hl : Later σ σ') {a : A} (h : okA σ a = true) : okA σ' a = true := by
  cases a <;> simp only [okA] at h ⊢ <;> first | exact h | exact one_later hl h | exact bdL_mono hl.1 _ h
theorem load_later (hl : Later σ σ') {t : TypeId} {k : Prop → A → Prop} {a : A} (h : rdLoad P σ t k a) : rdLoad P σ' t k a := by
  unfold rdLoad at h ⊢
  split at h
  · exact h
  · split at h
    · rename_i hσ; simp only [hl.2 _ _ hσ]; exact h
    · exact h.elim
  · exact h.elim
theorem fieldAddr_later (hl : Later σ σ') {t f : Nat} {k : Prop → A → Prop} (hk : MonoK k) {a : A} (h : rdFieldAddr P σ t f k a) : rdFieldAddr P σ' t f k a := by
  unfold rdFieldAddr at h ⊢
  split at h
  · exact h
  · split at h
    · rename_i he; exact hk _ _ _ (live_later hl) h
    · exact h.elim
  · exact h.elim
theorem indexAddr_later (hl : Later σ σ') {t : TypeId} {k : Prop → A → Prop} (hk : MonoK k) {a b : A} (h : rdIndexAddr P σ t k a b) : rdIndexAddr P σ' t k a b := by
  unfold rdIndexAddr at h ⊢
  split at h
  · exact h
  · split at h
    · rename_i he; exact hk _ _ _ (fun q => ⟨live_later hl q.1, q.2⟩) h
    · exact h.elim
  · exact h
  · split at h
    · rename_i he; exact hk _ _ _ (fun q => ⟨live_later hl q.1, q.2⟩) h
    · exact h.elim
  · exact h.elim
theorem convert_later (hl : Later σ σ') {s t : TypeId} {k : Prop → A → Prop} {a : A} (h : rdConvert P σ s t k a) : rdConvert P σ' s t k a := by
  unfold rdConvert at h ⊢
  split at h
  · exact h
  · exact h
  · split at h
    · rename_i hσ; simp only [hl.2 _ _ hσ]; exact h
    · exact h.elim
  · exact h.elim
theorem len_later (hl : Later σ σ') {t : TypeId} {k : Prop → A → Prop} (hk : MonoK k) {a : A} (h : rdLen P σ t k a) : rdLen P σ' t k a := by
  unfold rdLen at h ⊢
  split at h
  · exact h
  · exact h
  · exact h
  · exact hk _ _ _ (fun q => ⟨live_later hl q.1, q.2⟩) h
  · exact h
theorem slice_later (hl : Later σ σ') {t : TypeId} {k : Prop → A → Prop} (hk : MonoK k) {x : A} {lo hi : Option A} (h : rdSlice P σ t k x lo hi) : rdSlice P σ' t k x lo hi := by
  unfold rdSlice at h ⊢
  split at h
  · exact h
  · exact h
  · exact h
  · split at h
    · split at h
      · rename_i e1
        split at h
        · rename_i e2; exact hk _ _ _ (fun q => ⟨live_later hl q.1, q.2⟩) h
        · exact h.elim
      · exact h.elim
    · split at h
      · rename_i e1
        split at h
        · rename_i e2; exact hk _ _ _ (fun q => ⟨live_later hl q.1, q.2⟩) h
        · exact h.elim
      · exact h.elim
    · exact h.elim
  · exact h.elim
theorem build_later (hl : Later σ σ') {t : TypeId} {ps : List (Nat × A)} {k : Prop → A → Prop} (hk : MonoK k) (h : rdBuild P σ t ps k) : rdBuild P σ' t ps k := by
  unfold rdBuild at h ⊢
  split at h
  · rename_i e1 e2
    split at h
    · rename_i e3
      refine hk _ _ _ (fun q => ⟨q.1, ?_⟩) h
      have := q.2
      rw [List.all_eq_true] at this ⊢
      exact fun x hx => ok_later hl (this x hx)
    · exact h.elim
  · exact h.elim
theorem lookup_later (hl : Later σ σ') {t : TypeId} {ok : Bool} {k : Prop → A → Prop} {a b : A} (h : rdLookup P σ t ok k a b) : rdLookup P σ' t ok k a b := by
  unfold rdLookup at h ⊢
  split at h
  · rename_i e1
    split at h
    · split at h
      · rename_i hσ; simp only [hl.2 _ _ hσ]; exact h
      · exact h.elim
    · exact h
    · exact h.elim
  · exact h.elim
theorem nil_later (hl : Later σ σ') {k : Prop → A → Prop} (hk : MonoK k) {a : A} (h : rdNil σ k a) : rdNil σ' k a := by
  unfold rdNil at h ⊢
  split at h
  · exact hk _ _ _ (live_later hl) h
  · exact h
  · exact h
  · exact h
  · exact h.elim
theorem builtin_later (hl : Later σ σ') {b : Builtin} {as : List A} {ts : List TypeId} {k : Prop → A → Prop} (hk : MonoK k) (h : rdBuiltin P σ b k as ts) : rdBuiltin P σ' b k as ts := by
  unfold rdBuiltin at h ⊢
  split at h
  · split at h
    · exact len_later hl hk h
    · exact h
    · exact h.elim
  · exact h
  · exact h.elim
theorem rd_later (hl : Later σ σ') {e : Operand → A} {op : Op} {k : Prop → A → Prop} (hk : MonoK k) (h : rd P σ e op k) : rd P σ' e op k := by
  cases op with
  | move x => exact h
  | assign x => exact h
  | pick a b c => exact h
  | load t a => exact load_later hl h
  | fieldAddr t a f => exact fieldAddr_later hl hk h
  | field t a f => exact h
  | indexAddr t a b => exact indexAddr_later hl hk h
  | index t a b => exact h
  | binOp o t a b t' => exact h
  | unOp o t a => exact h
  | convert s t a => exact convert_later hl h
  | slice t x lo hi mx =>
    cases mx with
    | some m => exact h.elim
    | none => exact slice_later hl hk h
  | extract a i => exact h
  | makeInterface t a => exact h
  | makeFunc f a b => exact h
  | typeAssert a t u b => exact h
  | build t ps => exact build_later hl hk h
  | lookup t a b ok => exact lookup_later hl h
  | nilCheck a => exact nil_later hl hk h
  | call c =>
    simp only [rd] at h ⊢
    split at h
    · exact builtin_later hl hk h
    · exact h.elim
  | _ => exact h.elim
theorem rdC_later (hl : Later σ σ') {e : Operand → A} {op : Op} {k : Prop → A → Prop} (hk : MonoK k) (h : rdC P σ e op k) : rdC P σ' e op k := by
  unfold rdC at h ⊢
  split at h
  · exact h
  · exact rd_later hl hk h
theorem rdG_later (hl : Later σ σ') {e : Operand → A} {op : Op} {k : Prop → A → Prop} (hk : MonoK k) (h : rdG P σ e op k) : rdG P σ' e op k := by
  unfold rdG at h ⊢
  split at h
  · exact h
  · exact rdC_later hl (fun p p' a hp => hk _ _ a fun q => ⟨q.1, hp q.2⟩) h
/-- Operations that only make something new. -/
def growB : Op → Bool
  | .alloc _ | .box _ _ | .buildSlice .. | .makeSlice .. | .makeMap _ none => true
  | _ => false
theorem op1_grow {e : Operand → A} {op : Op} {k : A → St → Prop} (hg : growB op = true) (h : op1 P G σ e op k) : op1 P G σ e op fun x s => (∃ l, s = σ ++ l) ∧ k x s := by
  cases op <;> first | cases hg | skip
  case alloc t =>
    simp only [op1, wrAlloc] at h ⊢
    split at h
    · rename_i e1; exact ⟨h.1, ⟨_, rfl⟩, h.2⟩
    · exact h.elim
  case box t x => exact ⟨h.1, ⟨_, rfl⟩, h.2⟩
  case buildSlice t n ps =>
    simp only [op1, wrBuildSlice] at h ⊢
    split at h
    · rename_i e1; exact ⟨h.1, ⟨_, rfl⟩, h.2⟩
    · exact h.elim
  case makeSlice t l c =>
    simp only [op1, wrMakeSlice] at h ⊢
    split at h
    · rename_i e1 e2
      split at h
      · exact ⟨h.1, ⟨_, rfl⟩, h.2⟩
      · exact h.elim
    · exact h.elim
  case makeMap t r =>
    cases r with
    | none => exact ⟨h.1, ⟨_, rfl⟩, h.2⟩
    | some r => cases hg
end
end Go.Ab
