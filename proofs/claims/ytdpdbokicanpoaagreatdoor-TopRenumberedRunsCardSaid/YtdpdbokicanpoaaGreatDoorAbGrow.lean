import Derived.Test.YtdpdbokicanpoaaGreatDoorAbK
import Derived.Test.YtdpdbokicanpoaaGreatDoorAbCode
set_option linter.unusedSimpArgs false
set_option linter.unusedVariables false
set_option maxHeartbeats 64000000
namespace Go.Ab
open Go Go.RowKit
section
variable {P:Program} {Z Z':St} {G:Glob}
def oV(k:Prop→A→Prop):Prop:=∀(p p':Prop) (a:A),(p→p')→k p a→k p' a
def jF(Z Z':St):Prop:=Z.length≤Z'.length∧∀(id:Nat) (o:Ob),Z[id]? =some (some o)→Z'[id]? =some (some o)
theorem vY(Z l:St):jF Z (Z++l):=⟨by simp,λ id o h=>by rw[aq (aA.1 h).1];exact h⟩
theorem iA(hl:jF Z Z'){id:Nat}(h:dr Z id=true):dr Z' id=true:=by
 unfold dr at h
 split at h
 ·rename_i o ho;simp only[dr,hl.2 _ _ ho]
 ·cases h
theorem C8(hl:jF Z Z'){a:A}(h:lk Z a=true):lk Z' a=true:=by
 cases a<;> simp only[lk]at h ⊢<;> first|exact h|exact iA hl h|skip
 all_goals exact A.bd_mono hl.1 _ h
theorem ok_later(hl:jF Z Z'){a:A}(h:zi Z a=true):zi Z' a=true:=by
 cases a<;> simp only[zi]at h ⊢<;> first|exact h|exact C8 hl h|exact gW hl.1 _ h
theorem A7(hl:jF Z Z'){t:TypeId}{k:Prop→A→Prop}{a:A}(h:fa P Z t k a):fa P Z' t k a:=by
 unfold fa at h ⊢
 split at h
 ·exact h
 ·split at h
  ·rename_i hσ;simp only[hl.2 _ _ hσ];exact h
  ·exact h.elim
 ·rename_i n1 n2
  cases a<;> first|exact h|exact absurd rfl (n1 _ _)|exact absurd rfl (n2 _ _)
theorem sB(hl:jF Z Z'){t f:Nat}{k:Prop→A→Prop}(hk:oV k){a:A}(h:cK P Z t f k a):cK P Z' t f k a:=by
 unfold cK at h ⊢
 split at h
 ·exact h
 ·split at h
  ·rename_i he;exact hk _ _ _ (iA hl) h
  ·exact h.elim
 ·rename_i n1 n2
  cases a<;> first|exact h|exact absurd rfl (n1 _ _)|exact absurd rfl (n2 _ _)
theorem sy(hl:jF Z Z'){t:TypeId}{k:Prop→A→Prop}(hk:oV k){a b:A}(h:cH P Z t k a b):cH P Z' t k a b:=by
 unfold cH at h ⊢
 split at h
 ·exact h
 ·split at h
  ·rename_i he;exact hk _ _ _ (λ q=>⟨iA hl q.1,q.2⟩) h
  ·exact h.elim
 ·exact h
 ·split at h
  ·rename_i he;exact hk _ _ _ (λ q=>⟨iA hl q.1,q.2⟩) h
  ·exact h.elim
 ·exact h
theorem vm(hl:jF Z Z'){s t:TypeId}{k:Prop→A→Prop}{a:A}(h:ew P Z s t k a):ew P Z' s t k a:=by
 unfold ew at h ⊢
 split at h
 ·exact h
 ·exact h
 ·split at h
  ·rename_i hσ;simp only[hl.2 _ _ hσ];exact h
  ·exact h.elim
 ·exact h.elim
theorem Dl(hl:jF Z Z'){t:TypeId}{k:Prop→A→Prop}(hk:oV k){a:A}(h:jH P Z t k a):jH P Z' t k a:=by
 unfold jH at h ⊢
 split at h
 ·exact h
 ·exact h
 ·exact h
 ·exact hk _ _ _ (λ q=>⟨iA hl q.1,q.2⟩) h
 ·exact h
theorem yz(hl:jF Z Z'){t:TypeId}{k:Prop→A→Prop}(hk:oV k){x:A}{lo hi:Option A}(h:gd P Z t k x lo hi):gd P Z' t k x lo hi:=by
 unfold gd at h ⊢
 split at h
 ·exact h
 ·exact h
 ·exact h
 ·split at h
  ·split at h
   ·rename_i e1
    split at h
    ·rename_i e2;exact hk _ _ _ (λ q=>⟨iA hl q.1,q.2⟩) h
    ·exact h.elim
   ·exact h.elim
  ·split at h
   ·rename_i e1
    split at h
    ·rename_i e2;exact hk _ _ _ (λ q=>⟨iA hl q.1,q.2⟩) h
    ·exact h.elim
   ·exact h.elim
  ·exact h.elim
 ·exact h.elim
theorem Aj(hl:jF Z Z'){t:TypeId}{ps:List (Nat×A)}{k:Prop→A→Prop}(hk:oV k)(h:gh P Z t ps k):gh P Z' t ps k:=by
 unfold gh at h ⊢
 split at h
 ·rename_i e1 e2
  split at h
  ·rename_i e3
   refine hk _ _ _ (λ q=>⟨q.1,?_⟩) h
   have:=q.2
   rw[aZ]at this ⊢
   exactλ x hx=>ok_later hl (this x hx)
  ·exact h.elim
 ·exact h.elim
theorem xq(hl:jF Z Z'){t:TypeId}{ok:Bool}{k:Prop→A→Prop}{a b:A}(h:fz P Z t ok k a b):fz P Z' t ok k a b:=by
 unfold fz at h ⊢
 split at h
 ·rename_i e1
  split at h
  ·split at h
   ·rename_i hσ;simp only[hl.2 _ _ hσ];exact h
   ·exact h.elim
  ·exact h
  ·exact h.elim
 ·exact h.elim
theorem Db(hl:jF Z Z'){k:Prop→A→Prop}(hk:oV k){a:A}(h:kf Z k a):kf Z' k a:=by
 unfold kf at h ⊢
 split at h
 ·exact hk _ _ _ (iA hl) h
 ·exact h
 ·exact h
 ·exact h
 ·exact h.elim
theorem vo(hl:jF Z Z'){b:Builtin}{as:List A}{ts:List TypeId}{k:Prop→A→Prop}(hk:oV k)(h:f8 P Z b k as ts):f8 P Z' b k as ts:=by
 unfold f8 at h ⊢
 split at h
 ·split at h
  ·exact Dl hl hk h
  ·exact h
  ·exact h.elim
 ·exact h
 ·exact h.elim
theorem yN(hl:jF Z Z'){e:Operand→A}{op:Op}{k:Prop→A→Prop}(hk:oV k)(h:rd P Z e op k):rd P Z' e op k:=by
 cases op with
 |move x=>exact h
 |assign x=>exact h
 |pick a b c=>exact h
 |load t a=>exact A7 hl h
 |fieldAddr t a f=>exact sB hl hk h
 |field t a f=>exact h
 |indexAddr t a b=>exact sy hl hk h
 |index t a b=>exact h
 |binOp o t a b t'=>exact h
 |unOp o t a=>exact h
 |convert s t a=>exact vm hl h
 |slice t x lo hi mx=>
  cases mx with
  |some m=>exact h.elim
  |none=>exact yz hl hk h
 |extract a i=>exact h
 |makeInterface t a=>exact h
 |makeFunc f a b=>exact h
 |typeAssert a t u b=>exact h
 |build t ps=>exact Aj hl hk h
 |lookup t a b ok=>exact xq hl h
 |nilCheck a=>exact Db hl hk h
 |call c=>
  simp only[rd]at h ⊢
  split at h
  ·exact vo hl hk h
  ·exact h.elim
 |_=>exact h.elim
theorem CW(hl:jF Z Z'){e:Operand→A}{op:Op}{k:Prop→A→Prop}(hk:oV k)(h:At P Z e op k):At P Z' e op k:=by
 unfold At at h ⊢
 split at h
 ·exact h
 ·exact yN hl hk h
theorem CU(hl:jF Z Z'){e:Operand→A}{op:Op}{k:Prop→A→Prop}(hk:oV k)(h:kI P Z e op k):kI P Z' e op k:=by
 unfold kI at h ⊢
 split at h
 ·exact h
 ·exact CW hl (λ p p' a hp=>hk _ _ a λ q=>⟨q.1,hp q.2⟩) h
def zF:Op→Bool
 | .alloc _| .box _ _| .buildSlice .. | .makeSlice .. | .makeMap _ none=>true
 |_=>false
theorem zg{e:Operand→A}{op:Op}{k:A→St→Prop}(hg:zF op=true)(h:iq P G Z e op k):iq P G Z e op λ x s=>(∃l,s=Z++l)∧k x s:=by
 cases op<;> first|cases hg|skip
 case alloc t=>
  simp only[iq,jS]at h ⊢
  split at h
  ·rename_i e1;exact⟨h.1,⟨_,rfl⟩,h.2⟩
  ·exact h.elim
 case box t x=>exact⟨h.1,⟨_,rfl⟩,h.2⟩
 case buildSlice t n ps=>
  simp only[iq,eE]at h ⊢
  split at h
  ·rename_i e1;exact⟨h.1,⟨_,rfl⟩,h.2⟩
  ·exact h.elim
 case makeSlice t l c=>
  simp only[iq,eW]at h ⊢
  split at h
  ·rename_i e1 e2
   split at h
   ·exact⟨h.1,⟨_,rfl⟩,h.2⟩
   ·exact h.elim
  ·exact h.elim
 case makeMap t r=>
  cases r with
  |none=>exact⟨h.1,⟨_,rfl⟩,h.2⟩
  |some r=>cases hg
end
end Go.Ab
