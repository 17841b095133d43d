import Derived.Test.YtdpdbokicanpoaaGreatDoorAbK
import Derived.Test.YtdpdbokicanpoaaGreatDoorAbMove
set_option linter.unusedSimpArgs false
set_option linter.unusedVariables false
set_option maxHeartbeats 64000000
namespace Go.Ab
open Go Go.RowKit
section
variable {P:Program} {Z:St} {G:Glob} {n0:Nat} {e:Operand→A}
@[go_sem,go_sem ↓] theorem op1_lookup (t:TypeId) (a i:Operand) (ok:Bool) (k:A→St→Prop):iq P G Z e (.lookup t a i ok) k=fz P Z t ok (λ p a=>p∧k a Z) (e a) (e i):=(rfl)
@[go_sem,go_sem ↓] theorem op1_nilCheck (a:Operand) (k:A→St→Prop):iq P G Z e (.nilCheck a) k=kf Z (λ p a=>p∧k a Z) (e a):=(rfl)
@[go_sem,go_sem ↓] theorem op1_makeMap (t:TypeId) (k:A→St→Prop):iq P G Z e (.makeMap t none) k=nT Z λ p a Z'=>p∧k a Z':=(rfl)
@[go_sem,go_sem ↓] theorem op1_mapUpdate (t:TypeId) (m x v:Operand) (k:A→St→Prop):iq P G Z e (.mapUpdate t m x v) k=eV P Z t (e m) (e x) (e v) λ p a Z'=>p∧k a Z':=(rfl)
@[go_sem,go_sem ↓] theorem rd_nilCheck (a:Operand) (k:Prop→A→Prop):rd P Z e (.nilCheck a) k=kf Z k (e a):=(rfl)
@[go_sem,go_sem ↓] theorem opG_nilCheck (c:Bool) (a:Operand) (k:A→St→Prop):qG P G Z e c (.nilCheck a) k=kI P Z e (.nilCheck a) λ p z=>(c=true→p)∧k (.grd c z) Z:=(rfl)
@[go_sem,go_sem ↓] theorem rdG_nilCheck (a:Operand) (k:Prop→A→Prop):kI P Z e (.nilCheck a) k=rd P Z (λ x=>(e x).strip) (.nilCheck a) λ p z=>k (([a].all λ x=>(e x).cond)=true∧p) z:=(rfl)

@[go_sem,go_sem ↓] theorem opG_build (c:Bool) (t:TypeId) (ps:Array (Nat×Operand)) (k:A→St→Prop):qG P G Z e c (.build t ps) k=kI P Z e (.build t ps) λ p z=>(c=true→p)∧k (.grd c z) Z:=(rfl)
@[go_sem,go_sem ↓] theorem rdG_build (t:TypeId) (ps:Array (Nat×Operand)) (k:Prop→A→Prop):kI P Z e (.build t ps) k=rd P Z (λ x=>(e x).strip) (.build t ps) λ p z=>k (((Op.build t ps).operands.toList.all λ x=>(e x).cond)=true∧p) z:=(rfl)
section
variable {k:Prop→A→Prop}
@[go_sem,go_sem ↓] theorem rdNil_ref (id off:Nat):kf Z k (.ref id off)=k (dr Z id=true) (.ref id off):=(rfl)
@[go_sem,go_sem ↓] theorem rdNil_ea (x:D) (off:Nat):kf Z k (.ea x off)=k True (.ea x off):=(rfl)
@[congr] theorem rdNil_congr {a a':A} (h:a=a'):kf Z k a=kf Z k a':=by rw[h]
@[congr] theorem rdLookup_congr {t:TypeId} {ok:Bool} {a a' b b':A} (h:a=a') (h':b=b'):fz P Z t ok k a b=fz P Z t ok k a' b':=by rw[h,h']
end
@[congr] theorem BN {t:TypeId} {a a' b b' c c':A} {k:Prop→A→St→Prop} (h:a=a') (h':b=b') (h'':c=c'):eV P Z t a b c k=eV P Z t a' b' c' k:=by rw[h,h',h'']
@[congr] theorem wrDelete_congr {t:TypeId} {a a' b b':A} {k:Prop→A→St→Prop} (h:a=a') (h':b=b'):jy P Z t a b k=jy P Z t a' b' k:=by rw[h,h']

@[congr] theorem wrClear_congr {t:TypeId} {a a':A} {k:Prop→A→St→Prop} (h:a=a'):kG P Z t a k=kG P Z t a' k:=by rw[h]
def qf(Z:St)(id:Nat)(k:List (D×A)→Prop):Prop:=match Z[id]? with
 |some (some (.map es))=>k es
 |_=>False
@[congr] theorem mapK_congr {id id':Nat} {Z':St} {k:List (D×A)→Prop} (h:Z=Z') (h':id=id'):qf Z id k=qf Z' id' k:=by rw[h,h']
theorem sJ{id:Nat}{es:List (D×A)}{k:List (D×A)→Prop}(h:Z[id]? =some (some (.map es))):qf Z id k=k es:=by simp only[qf,h]
def rZ(ok:Bool)(kd:D)(z:Option A)(es:List (D×A)):Option A:=match ja kd es,z with
 |some (some v),_=>some (ua ok v true)
 |some none,some z=>some (ua ok z false)
 |_,_=>none
@[go_sem,go_sem ↓] theorem rdLookup_mapr (t:TypeId) (ok:Bool) (id:Nat) (kd:D) (k:Prop→A→Prop):fz P Z t ok k (.mapr id) (.d kd)=iy (sv P t) λ q=>qf Z id λ es=>iy (rZ ok kd (pO P q.2) es) λ v=>k (gP P q.1 kd=true) v:=by
 simp only[fz,iy,qf,rZ]
 rcases sv P t with _|⟨kt,e⟩
 ·rfl
 ·simp only
  rcases Z[id]? with _|_|(_|es|_)
  ·rfl
  ·rfl
  ·rfl
  ·simp only
   rcases ja kd es with _|_|v
   ·rcases pO P e with _|_<;> rfl
   ·simp only
    rcases pO P e with _|z<;> rfl
   ·rfl
  ·rfl
@[go_sem,go_sem ↓] theorem wrMakeMap_eq (k:Prop→A→St→Prop):nT Z k=k True (.mapr Z.length) (Z++[some (.map [])]):=(rfl)
@[go_sem,go_sem ↓] theorem Cx (t:TypeId) (id:Nat) (kd:D) (v:A) (k:Prop→A→St→Prop):eV P Z t (.mapr id) (.d kd) v k=iy (sv P t) λ q=>qf Z id λ es=>
  k (gP P q.1 kd=true∧(ja kd es).isSome=true∧v.bd Z.length=true) .o (Z.set id (some (.map (nk kd v es)))):=by
 simp only[eV,iy,qf]
 rcases sv P t with _|⟨kt,e⟩
 ·rfl
 ·simp only
  rcases Z[id]? with _|_|(_|es|_)<;> rfl
@[go_sem,go_sem ↓] theorem mapK_app {l:St} (j:Nat) (k:List (D×A)→Prop):qf (Z++l) (Z.length+j) k=qf l j k:=by
 simp only[qf]
 rw[az (by omega),bk]
@[go_sem,go_sem ↓] theorem mapK_zero (es:List (D×A)) (l:St) (k:List (D×A)→Prop):qf (some (.map es)::l) 0 k=k es:=(rfl)
@[go_sem,go_sem ↓] theorem mapK_succ (o:Option Ob) (l:St) (n:Nat) (k:List (D×A)→Prop):qf (o::l) (n+1) k=qf l n k:=(rfl)
def AW(P:Program)(t:TypeId):Bool:=match P.underlying t with
 |some (.int _)=>true
 |_=>false
@[go_sem] theorem plainK_int (t:TypeId) (ik:IntKind) (n:Int):gP P t (.int ik n)=AW P t:=by
 unfold gP AW
 cases P.underlying t with
 |none=>rfl
 |some u=>cases u<;> rfl
attribute [go_sem] ja nk vl ll eF ua
def gT(l:List Int):List (D×A):=l.map λ n=>(.int .i64 n,.d (.bool true))
section
variable {id sz off:Nat} {xs:List D}
@[go_sem] theorem frz_d (x:D):A.frz id sz off xs (.d x)= .d x:=rfl
@[go_sem] theorem frz_ea (x:D) (o:Nat):A.frz id sz off xs (.ea x o)= .ea x o:=rfl
@[go_sem] theorem frz_ref (i o:Nat):A.frz id sz off xs (.ref i o)= .ref i o:=rfl
@[go_sem] theorem frz_fn (f:Fn) (a b:List A):A.frz id sz off xs (.fn f a b)= .fn f a b:=rfl
@[go_sem] theorem frz_mapr (i:Nat):A.frz id sz off xs (.mapr i)= .mapr i:=rfl
@[go_sem] theorem frz_grd (c:Bool) (a:A):A.frz id sz off xs (.grd c a)= .grd c a:=rfl
@[go_sem] theorem frz_any:A.frz id sz off xs .o= .o:=rfl
@[go_sem] theorem frzL_nil:jP id sz off xs []=[]:=rfl
@[go_sem] theorem frzL_cons (a:A) (r:List A):jP id sz off xs (a::r)=a.frz id sz off xs::jP id sz off xs r:=rfl
end
attribute [go_sem] Nat.add_left_cancel_iff Nat.left_eq_add Nat.add_eq_left Nat.add_lt_add_iff_left Nat.lt_add_right_iff_pos decide_true decide_false Nat.reduceMul
theorem Wk.pre{G:Glob}{n0:Nat}{fr:Fr}{Z:St}{I:Fr→St→Prop}(live:List Nat)(h:Wk G n0 I (iX live 0 fr) Z):Wk G n0 I fr Z:=by
 obtain⟨a,b,h1,h2⟩:=h
 exact⟨a,b,(bw.mask live).trans h1,h2⟩
@[go_sem] theorem obren_map0 (n0:Nat) (p:List Nat):Ob.ren n0 p (.map [])= .map []:=rfl
end
end Go.Ab
