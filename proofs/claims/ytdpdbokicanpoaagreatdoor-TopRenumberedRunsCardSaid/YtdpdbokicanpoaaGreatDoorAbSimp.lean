import Derived.Test.YtdpdbokicanpoaaGreatDoorAbK
import Derived.Test.YtdpdbokicanpoaaGreatDoorAbAw
set_option linter.unusedSimpArgs false
set_option linter.unusedVariables false
set_option maxHeartbeats 64000000
namespace Go.Ab
open Go

def rk(o:Option Bool)(k:Bool→Prop):Prop:=match o with
 |some c=>k c
 |none=>False
@[go_sem,go_sem ↓] theorem guardK_some (c:Bool) (k:Bool→Prop):rk (some c) k=k c:=(rfl)
def iy{α:Type}(o:Option α)(k:α→Prop):Prop:=match o with
 |some x=>k x
 |none=>False
@[go_sem,go_sem ↓] theorem optK_some {α:Type} (x:α) (k:α→Prop):iy (some x) k=k x:=(rfl)
@[congr] theorem optK_congr {α:Type} {o o':Option α} {k:α→Prop} (h:o=o'):iy o k=iy o' k:=by rw[h]

section
variable {P:Program} {Z:St} {G:Glob} {fr:Fr} {e:Operand→A} {n0:Nat} {tx:Md}

-- frames
@[go_sem,go_sem ↓] theorem getD_zero (x:A) (l:Fr):List.getD (x::l) 0 .o=x:=(rfl)
@[go_sem,go_sem ↓] theorem getD_succ (x:A) (l:Fr) (n:Nat):List.getD (x::l) (n+1) .o=List.getD l n .o:=(rfl)
@[go_sem,go_sem ↓] theorem set_zero (x y:A) (l:Fr):List.set (x::l) 0 y=y::l:=(rfl)
@[go_sem,go_sem ↓] theorem set_succ (x y:A) (l:Fr) (n:Nat):List.set (x::l) (n+1) y=x::List.set l n y:=(rfl)
@[go_sem,go_sem ↓] theorem put_some (d:Tmp) (x:A):kE fr (some d) x=fr.set d x:=(rfl)
@[go_sem,go_sem ↓] theorem put_none (x:A):kE fr none x=fr:=(rfl)
-- operands
@[go_sem,go_sem ↓] theorem ev_tmp (t:Tmp):ev G fr (.tmp t)=fr.getD t .o:=(rfl)
@[go_sem,go_sem ↓] theorem ev_int (k:IntKind) (n:Int):ev G fr (.const (.int k n))= .d (.int k n):=(rfl)
@[go_sem,go_sem ↓] theorem ev_bool (b:Bool):ev G fr (.const (.bool b))= .d (.bool b):=(rfl)
@[go_sem,go_sem ↓] theorem ev_str (l:List UInt8):ev G fr (.const (.string ⟨l.toArray⟩))= .d (.str l):=(rfl)
@[go_sem,go_sem ↓] theorem ev_nils:ev G fr (.const (.slice none 0 0))= .d .nils:=(rfl)
@[go_sem,go_sem ↓] theorem ev_nilf:ev G fr (.const .nilFunc)= .d .nilf:=(rfl)
@[go_sem,go_sem ↓] theorem ev_func (f:FuncId):ev G fr (.func f)= .fn (.func f) [] []:=(rfl)
-- regions
@[go_sem] theorem awOps_nil (ops:Array Oper) (K:Fr→St→Prop):gX P G ops [] K fr Z=K fr Z:=(rfl)
@[go_sem] theorem awOps_plain (ops:Array Oper) (K:Fr→St→Prop) (dst:Option Tmp) (op:Op) (ty:TypeId) (pos:String) (after:Array Edge) (rest:List Oper):
  gX P G ops (⟨dst,op,ty,pos,after,none⟩::rest) K fr Z=iq P G Z (ev G fr) op λ x Z'=>gX P G ops rest K (kE fr dst x) Z':=(rfl)
@[go_sem] theorem awOps_guard (ops:Array Oper) (K:Fr→St→Prop) (dst:Option Tmp) (op:Op) (ty:TypeId) (pos:String) (after:Array Edge) (j:Nat) (b:Bool) (rest:List Oper):
  gX P G ops (⟨dst,op,ty,pos,after,some (j,b)⟩::rest) K fr Z=rk (fW ops fr j b) λ c=>qG P G Z (ev G fr) c op λ x Z'=>gX P G ops rest K (kE fr dst x) Z':=by
 simp only[gX]
 cases fW ops fr j b<;> rfl
@[congr] theorem awOps_congr {ops:Array Oper} {l:List Oper} {K:Fr→St→Prop} {fr fr':Fr} {Z Z':St} (h:fr=fr') (h':Z=Z'):gX P G ops l K fr Z=gX P G ops l K fr' Z':=by rw[h,h']
@[congr] theorem guardK_congr {o o':Option Bool} {k:Bool→Prop} (h:o=o'):rk o k=rk o' k:=by rw[h]
attribute [go_sem] A.strip A.cond
def oT:List Oper→Nat→Option Tmp
 |[],_=>none
 |o::_,0=>o.dst
 |_::l,n+1=>oT l n
def xA(a:A)(b:Bool):Option Bool:=match a with
 | .d (.bool x)=>some (x==b)
 | .grd c (.d (.bool x))=>some (c&&(x==b))
 | .grd false _=>some false
 |_=>none
def Bc(d:Option Tmp)(fr:Fr)(b:Bool):Option Bool:=match d with
 |some d=>xA (fr.getD d .o) b
 |none=>none
theorem zY:∀(l:List Oper) (j:Nat),(l[j]?).bind (·.dst)=oT l j
 |[],j=>by simp [oT]
 |o::l,0=>by simp [oT]
 |o::l,j+1=>by simp [oT,zY l j]
@[go_sem,go_sem ↓] theorem guardB_eq (l:List Oper) (j:Nat) (b:Bool):fW l.toArray fr j b=Bc (oT l j) fr b:=by
 unfold fW Bc
 rw[cY,zY]
 cases oT l j<;> rfl
@[go_sem,go_sem ↓] theorem dstAt_zero (dst:Option Tmp) (op:Op) (ty:TypeId) (pos:String) (after:Array Edge) (g:Option (Nat×Bool)) (l:List Oper):oT (⟨dst,op,ty,pos,after,g⟩::l) 0=dst:=(rfl)
@[go_sem,go_sem ↓] theorem dstAt_succ (o:Oper) (l:List Oper) (n:Nat):oT (o::l) (n+1)=oT l n:=(rfl)
@[go_sem,go_sem ↓] theorem guardD_some (d:Tmp) (b:Bool):Bc (some d) fr b=xA (fr.getD d .o) b:=(rfl)
@[go_sem,go_sem ↓] theorem guardV_bool (x b:Bool):xA (.d (.bool x)) b=some (x==b):=(rfl)
@[go_sem,go_sem ↓] theorem guardV_grd (c x b:Bool):xA (.grd c (.d (.bool x))) b=some (c&&(x==b)):=(rfl)
class KS where
 k:A→St→Prop
def AC'(P:Program)(G:Glob)(f:FuncId)(args:List A)(Z:St) [K:KS]:Prop:=AC P G f args Z K.k
theorem bH{P:Program}{G:Glob}{f:FuncId}{args:List A}{Z:St}{k:A→St→Prop}(h:AC P G f args Z k): @AC' P G f args Z ⟨k⟩:=h
def YC'(P:Program)(G:Glob)(l:Nat)(args:List A)(Z:St) [K:KS]:Prop:=YC P G l args Z K.k
theorem yc'{P:Program}{G:Glob}{l:Nat}{args:List A}{Z:St}{k:A→St→Prop}(h:YC P G l args Z k): @YC' P G l args Z ⟨k⟩:=h
def enterM(P:Program)(G:Glob)(Z:St)(q:FuncId×Rc)(a:A)(args:List A)(k:A→St→Prop):Prop:=match q with
 |(f,.self)=> @AC' P G f (a::args) Z ⟨k⟩
 |(f,.load e)=>fa P Z e (λ p x=>p∧@AC' P G f (x::args) Z ⟨k⟩) a
 |(f,.fld s i)=>cK P Z s i (λ p x=>p∧@AC' P G f (x::args) Z ⟨k⟩) a
class KD where
 k:D→Prop
 s:Prop
def Ex' [K:KD]:Prop:=(∃d,K.k d)∨K.s
theorem gO{k:D→Prop}{s:Prop}(d:D)(h:k d): @Ex' ⟨k,s⟩:= .inl ⟨d,h⟩
theorem exs{k:D→Prop}{s:Prop}(h:s): @Ex' ⟨k,s⟩:= .inr h
-- the operations
@[go_sem,go_sem ↓] theorem op1_move (x:Operand) (k:A→St→Prop):iq P G Z e (.move x) k=k (e x) Z:=by simp [iq,rd]
@[go_sem,go_sem ↓] theorem op1_assign (x:Operand) (k:A→St→Prop):iq P G Z e (.assign x) k=k (e x) Z:=by simp [iq,rd]
@[go_sem,go_sem ↓] theorem op1_pick (c a b:Operand) (k:A→St→Prop):iq P G Z e (.pick c a b) k=gu (λ p a=>p∧k a Z) (e c) (e a) (e b):=(rfl)
@[go_sem,go_sem ↓] theorem op1_load (t:TypeId) (a:Operand) (k:A→St→Prop):iq P G Z e (.load t a) k=fa P Z t (λ p a=>p∧k a Z) (e a):=(rfl)
@[go_sem,go_sem ↓] theorem op1_fieldAddr (t:TypeId) (a:Operand) (f:Nat) (k:A→St→Prop):iq P G Z e (.fieldAddr t a f) k=cK P Z t f (λ p a=>p∧k a Z) (e a):=(rfl)
@[go_sem,go_sem ↓] theorem op1_field (t:TypeId) (a:Operand) (f:Nat) (k:A→St→Prop):iq P G Z e (.field t a f) k=iK P t f (λ p a=>p∧k a Z) (e a):=(rfl)
@[go_sem,go_sem ↓] theorem op1_indexAddr (t:TypeId) (a i:Operand) (k:A→St→Prop):iq P G Z e (.indexAddr t a i) k=cH P Z t (λ p a=>p∧k a Z) (e a) (e i):=(rfl)
@[go_sem,go_sem ↓] theorem op1_index (t:TypeId) (a i:Operand) (k:A→St→Prop):iq P G Z e (.index t a i) k=gf P t (λ p a=>p∧k a Z) (e a) (e i):=(rfl)
theorem qe(o:BinOp)(t t':TypeId)(a i:Operand)(k:A→St→Prop)(h:vf o i=none):iq P G Z e (.binOp o t a i t') k=dE P o t (λ p a=>p∧k a Z) (e a) (e i):=by simp only[iq,h];rfl
@[go_sem,go_sem ↓] theorem op1_binOp_tmp (o:BinOp) (t t':TypeId) (a:Operand) (x:Tmp) (k:A→St→Prop):iq P G Z e (.binOp o t a (.tmp x) t') k=dE P o t (λ p a=>p∧k a Z) (e a) (e (.tmp x)):=qe _ _ _ _ _ _ (by cases o<;> rfl)
@[go_sem,go_sem ↓] theorem op1_binOp_int (o:BinOp) (t t':TypeId) (a:Operand) (ik:IntKind) (n:Int) (k:A→St→Prop):iq P G Z e (.binOp o t a (.const (.int ik n)) t') k=dE P o t (λ p a=>p∧k a Z) (e a) (e (.const (.int ik n))):=qe _ _ _ _ _ _ (by cases o<;> rfl)
@[go_sem,go_sem ↓] theorem op1_eql_nils (t t':TypeId) (a:Operand) (k:A→St→Prop):iq P G Z e (.binOp .eql t a (.const (.slice none 0 0)) t') k=mR P Z (false,true) t k (e a):=(rfl)
@[congr] theorem wrNil_congr {q:Bool×Bool} {t:TypeId} {a a':A} {k:A→St→Prop} (h:a=a'):mR P Z q t k a=mR P Z q t k a':=by rw[h]
def sO(p:Prop)(b:Bool)(k:A→St→Prop)(Z:St):Prop:=∀r:Bool,(r=true→p)→k (.d (.bool (r==b))) Z
@[congr] theorem eitherK_congr {p:Prop} {b:Bool} {k:A→St→Prop} {Z:St}:sO p b k Z=sO p b k Z:=rfl
theorem wrNil_sl(b:Bool)(t sz:Nat)(xs:List D)(k:A→St→Prop):mR P Z (false,b) t k (.d (.sl sz xs))=(lB P t=true∧sO (xs=[]) b k Z):=(rfl)
attribute [go_sem,go_sem ↓] wrNil_sl
@[go_sem,go_sem ↓] theorem op1_unOp (o:UnOp) (t:TypeId) (a:Operand) (k:A→St→Prop):iq P G Z e (.unOp o t a) k=pi o (λ p a=>p∧k a Z) (e a):=(rfl)
@[go_sem,go_sem ↓] theorem op1_convert (s t:TypeId) (a:Operand) (k:A→St→Prop):iq P G Z e (.convert s t a) k=ew P Z s t (λ p a=>p∧k a Z) (e a):=(rfl)
@[go_sem,go_sem ↓] theorem op1_slice (t:TypeId) (a:Operand) (lo hi:Option Operand) (k:A→St→Prop):iq P G Z e (.slice t a lo hi none) k=gd P Z t (λ p a=>p∧k a Z) (e a) (lo.map e) (hi.map e):=(rfl)
@[go_sem,go_sem ↓] theorem op1_extract (a:Operand) (i:Nat) (k:A→St→Prop):iq P G Z e (.extract a i) k=f7 (λ p a=>p∧k a Z) i (e a):=(rfl)
@[go_sem,go_sem ↓] theorem op1_makeFunc (f:Fn) (a b:Array Operand) (k:A→St→Prop):iq P G Z e (.makeFunc f a b) k=k (.fn f (a.toList.map e) (b.toList.map e)) Z:=by simp [iq,rd]
@[go_sem,go_sem ↓] theorem op1_build (t:TypeId) (ps:Array (Nat×Operand)) (k:A→St→Prop):iq P G Z e (.build t ps) k=gh P Z t (ps.toList.map λ p=>(p.1,e p.2)) (λ p a=>p∧k a Z):=(rfl)
@[go_sem,go_sem ↓] theorem op1_alloc (t:TypeId) (k:A→St→Prop):iq P G Z e (.alloc t) k=jS P Z t (λ p a Z'=>p∧k a Z'):=(rfl)
@[go_sem,go_sem ↓] theorem op1_box (t:TypeId) (a:Operand) (k:A→St→Prop):iq P G Z e (.box t a) k=rP Z (e a) (λ p a Z'=>p∧k a Z'):=(rfl)
@[go_sem,go_sem ↓] theorem op1_buildSlice (t:TypeId) (n:Nat) (ps:Array (Nat×Operand)) (k:A→St→Prop):iq P G Z e (.buildSlice t n ps) k=eE P Z t n (ps.toList.map λ p=>(p.1,e p.2)) (λ p a Z'=>p∧k a Z'):=(rfl)
@[go_sem,go_sem ↓] theorem op1_makeSlice (t:TypeId) (a b:Operand) (k:A→St→Prop):iq P G Z e (.makeSlice t a b) k=eW P Z t (e a) (e b) (λ p a Z'=>p∧k a Z'):=(rfl)
@[go_sem,go_sem ↓] theorem op1_store (t:TypeId) (a b:Operand) (k:A→St→Prop):iq P G Z e (.store t a b) k=je P Z t (e a) (e b) (λ p a Z'=>p∧k a Z'):=(rfl)
@[go_sem,go_sem ↓] theorem op1_call (f:Operand) (as:Array Operand) (ts:Array TypeId) (k:A→St→Prop):iq P G Z e (.call ⟨.value f,as,ts⟩) k=jI P G Z (e f) (as.toList.map e) k:=(rfl)
@[go_sem,go_sem ↓] theorem op1_len (a:Operand) (t:TypeId) (k:A→St→Prop):iq P G Z e (.call ⟨.builtin .len,#[a],#[t]⟩) k=jH P Z t (λ p a=>p∧k a Z) (e a):=(rfl)
@[go_sem,go_sem ↓] theorem op1_copy (a b:Operand) (t u:TypeId) (k:A→St→Prop):iq P G Z e (.call ⟨.builtin .copy,#[a,b],#[t,u]⟩) k=ko P Z t u (e a) (e b) (λ p a Z'=>p∧k a Z'):=(rfl)
@[congr] theorem wrCopy_congr {t u:TypeId} {a a' b b':A} {k:Prop→A→St→Prop} (h:a=a') (h':b=b'):ko P Z t u a b k=ko P Z t u a' b' k:=by rw[h,h']
@[go_sem,go_sem ↓] theorem op1_append (a b:Operand) (t u:TypeId) (k:A→St→Prop):iq P G Z e (.call ⟨.builtin .append,#[a,b],#[t,u]⟩) k=pT P Z t u (e a) (e b) (λ p a Z'=>p∧k a Z'):=(rfl)
@[go_sem,go_sem ↓] theorem opG_call (c:Bool) (f:Operand) (as:Array Operand) (ts:Array TypeId) (k:A→St→Prop):qG P G Z e c (.call ⟨.value f,as,ts⟩) k=
  @Ex' ⟨λ d=>(c=true→((Op.call ⟨.value f,as,ts⟩).operands.toList.all λ x=>(e x).cond)=true∧jI P G Z (e f).strip (as.toList.map λ x=>(e x).strip) λ r Z'=>r= .d d∧Z'=Z)∧k (.grd c (.d d)) Z,uU P G Z e c (.call ⟨.value f,as,ts⟩) k⟩:=(rfl)
attribute [go_sem] A.ungrd -- readings, under whatever continuation
@[go_sem,go_sem ↓] theorem rd_move (x:Operand) (k:Prop→A→Prop):rd P Z e (.move x) k=k True (e x):=(rfl)
@[go_sem,go_sem ↓] theorem rd_load (t:TypeId) (a:Operand) (k:Prop→A→Prop):rd P Z e (.load t a) k=fa P Z t k (e a):=(rfl)
@[go_sem,go_sem ↓] theorem rd_fieldAddr (t:TypeId) (a:Operand) (f:Nat) (k:Prop→A→Prop):rd P Z e (.fieldAddr t a f) k=cK P Z t f k (e a):=(rfl)
@[go_sem,go_sem ↓] theorem rd_indexAddr (t:TypeId) (a i:Operand) (k:Prop→A→Prop):rd P Z e (.indexAddr t a i) k=cH P Z t k (e a) (e i):=(rfl)
@[go_sem,go_sem ↓] theorem rd_index (t:TypeId) (a i:Operand) (k:Prop→A→Prop):rd P Z e (.index t a i) k=gf P t k (e a) (e i):=(rfl)
@[go_sem,go_sem ↓] theorem rd_unOp (o:UnOp) (t:TypeId) (a:Operand) (k:Prop→A→Prop):rd P Z e (.unOp o t a) k=pi o k (e a):=(rfl)
@[go_sem,go_sem ↓] theorem rd_slice (t:TypeId) (a:Operand) (lo hi:Option Operand) (k:Prop→A→Prop):rd P Z e (.slice t a lo hi none) k=gd P Z t k (e a) (lo.map e) (hi.map e):=(rfl)
@[go_sem,go_sem ↓] theorem rd_build (t:TypeId) (ps:Array (Nat×Operand)) (k:Prop→A→Prop):rd P Z e (.build t ps) k=gh P Z t (ps.toList.map λ p=>(p.1,e p.2)) k:=(rfl)
@[go_sem,go_sem ↓] theorem rd_len (a:Operand) (t:TypeId) (k:Prop→A→Prop):rd P Z e (.call ⟨.builtin .len,#[a],#[t]⟩) k=jH P Z t k (e a):=(rfl)
@[congr] theorem rdMinMax_congr {g:Bool} {k:Prop→A→Prop} {a a' b b':A} (h:a=a') (h':b=b'):kg g k a b=kg g k a' b':=by rw[h,h']
@[go_sem,go_sem ↓] theorem opG_move (c:Bool) (x:Operand) (k:A→St→Prop):qG P G Z e c (.move x) k=kI P Z e (.move x) λ p z=>(c=true→p)∧k (.grd c z) Z:=(rfl)
@[go_sem,go_sem ↓] theorem rdG_move (x:Operand) (k:Prop→A→Prop):kI P Z e (.move x) k=rd P Z (λ x=>(e x).strip) (.move x) λ p z=>k (([x].all λ x=>(e x).cond)=true∧p) z:=(rfl)
@[go_sem,go_sem ↓] theorem opG_pick (c:Bool) (a b d:Operand) (k:A→St→Prop):qG P G Z e c (.pick a b d) k=kI P Z e (.pick a b d) λ p z=>(c=true→p)∧k (.grd c z) Z:=(rfl)
@[go_sem,go_sem ↓] theorem rdG_pick (a b d:Operand) (k:Prop→A→Prop):kI P Z e (.pick a b d) k=gu (λ p z=>k ((e a).cond=true∧p) z) (e a).strip (e b) (e d):=(rfl)
@[go_sem,go_sem ↓] theorem opG_load (c:Bool) (t:TypeId) (a:Operand) (k:A→St→Prop):qG P G Z e c (.load t a) k=kI P Z e (.load t a) λ p z=>(c=true→p)∧k (.grd c z) Z:=(rfl)
@[go_sem,go_sem ↓] theorem rdG_load (t:TypeId) (a:Operand) (k:Prop→A→Prop):kI P Z e (.load t a) k=rd P Z (λ x=>(e x).strip) (.load t a) λ p z=>k (([a].all λ x=>(e x).cond)=true∧p) z:=(rfl)
@[go_sem,go_sem ↓] theorem opG_fieldAddr (c:Bool) (t:TypeId) (a:Operand) (f:Nat) (k:A→St→Prop):qG P G Z e c (.fieldAddr t a f) k=kI P Z e (.fieldAddr t a f) λ p z=>(c=true→p)∧k (.grd c z) Z:=(rfl)
@[go_sem,go_sem ↓] theorem rdG_fieldAddr (t:TypeId) (a:Operand) (f:Nat) (k:Prop→A→Prop):kI P Z e (.fieldAddr t a f) k=rd P Z (λ x=>(e x).strip) (.fieldAddr t a f) λ p z=>k (([a].all λ x=>(e x).cond)=true∧p) z:=(rfl)
@[go_sem,go_sem ↓] theorem opG_indexAddr (c:Bool) (t:TypeId) (a b:Operand) (k:A→St→Prop):qG P G Z e c (.indexAddr t a b) k=kI P Z e (.indexAddr t a b) λ p z=>(c=true→p)∧k (.grd c z) Z:=(rfl)
@[go_sem,go_sem ↓] theorem rdG_indexAddr (t:TypeId) (a b:Operand) (k:Prop→A→Prop):kI P Z e (.indexAddr t a b) k=rd P Z (λ x=>(e x).strip) (.indexAddr t a b) λ p z=>k (([a,b].all λ x=>(e x).cond)=true∧p) z:=(rfl)
@[go_sem,go_sem ↓] theorem opG_index (c:Bool) (t:TypeId) (a b:Operand) (k:A→St→Prop):qG P G Z e c (.index t a b) k=kI P Z e (.index t a b) λ p z=>(c=true→p)∧k (.grd c z) Z:=(rfl)
@[go_sem,go_sem ↓] theorem rdG_index (t:TypeId) (a b:Operand) (k:Prop→A→Prop):kI P Z e (.index t a b) k=rd P Z (λ x=>(e x).strip) (.index t a b) λ p z=>k (([a,b].all λ x=>(e x).cond)=true∧p) z:=(rfl)
@[go_sem,go_sem ↓] theorem opG_binOp (c:Bool) (o:BinOp) (t t':TypeId) (a b:Operand) (k:A→St→Prop):qG P G Z e c (.binOp o t a b t') k=kI P Z e (.binOp o t a b t') λ p z=>(c=true→p)∧k (.grd c z) Z:=(rfl)
theorem p9(o:BinOp)(t t':TypeId)(a b:Operand)(k:Prop→A→Prop)(h:Dc b=false):kI P Z e (.binOp o t a b t') k=iT P o t (λ p z=>k (([a,b].all λ x=>(e x).cond)=true∧p) z) (e a).strip (e b).strip:=by simp only[kI,At,h];rfl
@[go_sem,go_sem ↓] theorem rdG_binOp_tmp (o:BinOp) (t t':TypeId) (a:Operand) (x:Tmp) (k:Prop→A→Prop):kI P Z e (.binOp o t a (.tmp x) t') k=iT P o t (λ p z=>k (([a,(.tmp x)].all λ x=>(e x).cond)=true∧p) z) (e a).strip (e (.tmp x)).strip:=p9 _ _ _ _ _ _ rfl
@[go_sem,go_sem ↓] theorem rdG_binOp_int (o:BinOp) (t t':TypeId) (a:Operand) (ik:IntKind) (n:Int) (k:Prop→A→Prop):kI P Z e (.binOp o t a (.const (.int ik n)) t') k=iT P o t (λ p z=>k (([a,(.const (.int ik n))].all λ x=>(e x).cond)=true∧p) z) (e a).strip (e (.const (.int ik n))).strip:=p9 _ _ _ _ _ _ rfl
@[congr] theorem rdNilS_congr {o:BinOp} {t:TypeId} {k:Prop→A→Prop} {a a' b b':A} (h:a=a') (h':b=b'):nt P o t k a b=nt P o t k a' b':=by rw[h,h']
@[go_sem,go_sem ↓] theorem rdCmp_add (t:TypeId) (k:Prop→A→Prop) (a b:A):iT P .add t k a b=dE P .add t k a b:=(rfl)
@[go_sem,go_sem ↓] theorem rdCmp_sub (t:TypeId) (k:Prop→A→Prop) (a b:A):iT P .sub t k a b=dE P .sub t k a b:=(rfl)
@[go_sem,go_sem ↓] theorem rdCmp_shl (t:TypeId) (k:Prop→A→Prop) (a b:A):iT P .shl t k a b=dE P .shl t k a b:=(rfl)
@[go_sem,go_sem ↓] theorem rdCmp_eql (t:TypeId) (k:Prop→A→Prop) (a b:D):iT P .eql t k (.d a) (.d b)=k ((jw P .eql t a b).isSome=true) (.d (.bool ((jw P .eql t a b).getD false))):=(rfl)
@[go_sem,go_sem ↓] theorem rdCmp_neq (t:TypeId) (k:Prop→A→Prop) (a b:D):iT P .neq t k (.d a) (.d b)=k ((jw P .neq t a b).isSome=true) (.d (.bool ((jw P .neq t a b).getD false))):=(rfl)
@[go_sem,go_sem ↓] theorem rdCmp_lss (t:TypeId) (k:Prop→A→Prop) (a b:D):iT P .lss t k (.d a) (.d b)=k ((jw P .lss t a b).isSome=true) (.d (.bool ((jw P .lss t a b).getD false))):=(rfl)
@[go_sem,go_sem ↓] theorem rdCmp_leq (t:TypeId) (k:Prop→A→Prop) (a b:D):iT P .leq t k (.d a) (.d b)=k ((jw P .leq t a b).isSome=true) (.d (.bool ((jw P .leq t a b).getD false))):=(rfl)
@[go_sem,go_sem ↓] theorem rdCmp_gtr (t:TypeId) (k:Prop→A→Prop) (a b:D):iT P .gtr t k (.d a) (.d b)=k ((jw P .gtr t a b).isSome=true) (.d (.bool ((jw P .gtr t a b).getD false))):=(rfl)
@[go_sem,go_sem ↓] theorem rdCmp_geq (t:TypeId) (k:Prop→A→Prop) (a b:D):iT P .geq t k (.d a) (.d b)=k ((jw P .geq t a b).isSome=true) (.d (.bool ((jw P .geq t a b).getD false))):=(rfl)
@[go_sem] theorem cmpD_eql (t:TypeId) (ik:IntKind) (a b:Int):jw P .eql t (.int ik a) (.int ik b)=some (a==b):=by simp [jw]
@[go_sem] theorem cmpD_neq (t:TypeId) (ik:IntKind) (a b:Int):jw P .neq t (.int ik a) (.int ik b)=some (a !=b):=by simp [jw]
@[go_sem] theorem cmpD_lss (t:TypeId) (ik:IntKind) (a b:Int):jw P .lss t (.int ik a) (.int ik b)=some (decide (a<b)):=by simp [jw]
@[go_sem] theorem cmpD_leq (t:TypeId) (ik:IntKind) (a b:Int):jw P .leq t (.int ik a) (.int ik b)=some (decide (a≤b)):=by simp [jw]
@[go_sem] theorem cmpD_gtr (t:TypeId) (ik:IntKind) (a b:Int):jw P .gtr t (.int ik a) (.int ik b)=some (decide (b<a)):=by simp [jw]
@[go_sem] theorem cmpD_geq (t:TypeId) (ik:IntKind) (a b:Int):jw P .geq t (.int ik a) (.int ik b)=some (decide (b≤a)):=by simp [jw]
@[go_sem] theorem cmpD_bneq (t:TypeId) (a b:Bool) (h:mL P t=true):jw P .neq t (.bool a) (.bool b)=some (!(a==b)):=by simp [jw,h]
attribute [go_sem] eF b9 bJ
@[congr] theorem rdCmp_congr {o:BinOp} {t:TypeId} {k:Prop→A→Prop} {a a' b b':A} (h:a=a') (h':b=b'):iT P o t k a b=iT P o t k a' b':=by rw[h,h']
@[go_sem,go_sem ↓] theorem opG_unOp (c:Bool) (o:UnOp) (t:TypeId) (a:Operand) (k:A→St→Prop):qG P G Z e c (.unOp o t a) k=kI P Z e (.unOp o t a) λ p z=>(c=true→p)∧k (.grd c z) Z:=(rfl)
@[go_sem,go_sem ↓] theorem rdG_unOp (o:UnOp) (t:TypeId) (a:Operand) (k:Prop→A→Prop):kI P Z e (.unOp o t a) k=rd P Z (λ x=>(e x).strip) (.unOp o t a) λ p z=>k (([a].all λ x=>(e x).cond)=true∧p) z:=(rfl)
@[go_sem,go_sem ↓] theorem opG_slice (c:Bool) (t:TypeId) (a:Operand) (lo hi:Option Operand) (k:A→St→Prop):qG P G Z e c (.slice t a lo hi none) k=kI P Z e (.slice t a lo hi none) λ p z=>(c=true→p)∧k (.grd c z) Z:=(rfl)
@[go_sem,go_sem ↓] theorem rdG_slice (t:TypeId) (a:Operand) (lo hi:Option Operand) (k:Prop→A→Prop):kI P Z e (.slice t a lo hi none) k=rd P Z (λ x=>(e x).strip) (.slice t a lo hi none) λ p z=>k (((Op.slice t a lo hi none).operands.toList.all λ x=>(e x).cond)=true∧p) z:=(rfl)
@[go_sem,go_sem ↓] theorem opG_len (c:Bool) (a:Operand) (t:TypeId) (k:A→St→Prop):qG P G Z e c (.call ⟨.builtin .len,#[a],#[t]⟩) k=kI P Z e (.call ⟨.builtin .len,#[a],#[t]⟩) λ p z=>(c=true→p)∧k (.grd c z) Z:=(rfl)
@[go_sem,go_sem ↓] theorem rdG_len (a:Operand) (t:TypeId) (k:Prop→A→Prop):kI P Z e (.call ⟨.builtin .len,#[a],#[t]⟩) k=rd P Z (λ x=>(e x).strip) (.call ⟨.builtin .len,#[a],#[t]⟩) λ p z=>k (([a].all λ x=>(e x).cond)=true∧p) z:=(rfl)

-- each reading at its values
variable {k:Prop→A→Prop}
@[go_sem,go_sem ↓] theorem rdLoad_ea_cell {t:TypeId} (x:D) (off:Nat) (h:ef P t=some false):fa P Z t k (.ea x off)=k (off<x.cells.length) (.d (x.cells.getD off default)):=by simp only[fa,h]
@[go_sem,go_sem ↓] theorem rdLoad_ea_agg {t:TypeId} (x:D) (off:Nat) (h:ef P t=some true):fa P Z t k (.ea x off)=k (off+P.cellsOf t≤x.cells.length) (.d (.agg ((x.cells.drop off).take (P.cellsOf t)))):=by simp only[fa,h]
def jz(Z:St)(id:Nat)(k:List A→Prop):Prop:=match Z[id]? with
 |some (some (.cells cs))=>k cs
 |_=>False
theorem aX{id:Nat}{cs:List A}{k:List A→Prop}(h:Z[id]? =some (some (.cells cs))):jz Z id k=k cs:=by simp only[jz,h]
@[go_sem,go_sem ↓] theorem DV {t:TypeId} (id off:Nat) (h:ef P t=some false):fa P Z t k (.ref id off)=jz Z id λ cs=>k (off<cs.length) (cs.getD off .o):=by
 simp only[fa,jz,h]
 rcases Z[id]? with _|_|(_|_|_)<;> rfl
@[go_sem,go_sem ↓] theorem rdLoad_ref_agg {t:TypeId} (id off:Nat) (h:ef P t=some true):fa P Z t k (.ref id off)=jz Z id λ cs=>k (off+P.cellsOf t≤cs.length) (mU ((cs.drop off).take (P.cellsOf t))):=by
 simp only[fa,jz,h]
 rcases Z[id]? with _|_|(_|_|_)<;> rfl
@[go_sem,go_sem ↓] theorem rdFieldAddr_ea (t f:Nat) (x:D) (off:Nat):cK P Z t f k (.ea x off)=iy (fld P t f) λ q=>k True (.ea x (off+q.1)):=by simp only[cK];rcases fld P t f with _|⟨_,_⟩<;> rfl
@[go_sem,go_sem ↓] theorem DX (t f id off:Nat):cK P Z t f k (.ref id off)=iy (fld P t f) λ q=>k (dr Z id=true) (.ref id (off+q.1)):=by simp only[cK];rcases fld P t f with _|⟨_,_⟩<;> rfl
@[go_sem,go_sem ↓] theorem rdIndexAddr_sl (t sz:Nat) (xs:List D) (ik:IntKind) (n:Int):cH P Z t k (.d (.sl sz xs)) (.d (.int ik n))=iy (eA P t) λ q=>k (q.2=sz∧0≤n∧n<xs.length) (.ea (xs.getD n.toNat default) 0):=by simp only[cH];rcases eA P t with _|⟨_,_⟩<;> rfl
@[go_sem,go_sem ↓] theorem rdIndexAddr_rs (t id sz off len:Nat) (o:Option TypeId) (ik:IntKind) (n:Int):cH P Z t k (.rs id sz off len o) (.d (.int ik n))=iy (eA P t) λ q=>k (dr Z id=true∧q.2=sz∧0≤n∧n<len) (.ref id (off+n.toNat*sz)):=by simp only[cH];rcases eA P t with _|⟨_,_⟩<;> rfl
@[go_sem,go_sem ↓] theorem rdIndexAddr_ea (t:TypeId) (x:D) (off:Nat) (ik:IntKind) (n:Int):cH P Z t k (.ea x off) (.d (.int ik n))=iy (mO P t) λ q=>k (0≤n∧n<q.1) (.ea x (off+n.toNat*q.2.2)):=by simp only[cH];rcases mO P t with _|⟨_,_,_⟩<;> rfl
@[go_sem,go_sem ↓] theorem DW (t id off:Nat) (ik:IntKind) (n:Int):cH P Z t k (.ref id off) (.d (.int ik n))=iy (mO P t) λ q=>k (dr Z id=true∧0≤n∧n<q.1) (.ref id (off+n.toNat*q.2.2)):=by simp only[cH];rcases mO P t with _|⟨_,_,_⟩<;> rfl
@[go_sem,go_sem ↓] theorem rdIndex_str {t:TypeId} (s:List UInt8) (ik:IntKind) (n:Int):gf P t k (.d (.str s)) (.d (.int ik n))=k (kp P t=true∧0≤n∧n<s.length) (.d (.int .u8 (s.getD n.toNat 0).toNat)):=(rfl)
@[go_sem,go_sem ↓] theorem rdIndex_agg (t:TypeId) (cs:List D) (ik:IntKind) (n:Int):gf P t k (.d (.agg cs)) (.d (.int ik n))=iy (mO P t) λ q=>gy P q.2.1 (n.toNat*q.2.2) (λ p a=>k (0≤n∧n<q.1∧p) a) (.d (.agg cs)):=by simp only[gf];rcases mO P t with _|⟨_,_,_⟩<;> rfl
@[go_sem,go_sem ↓] theorem rdField_eq (t f:Nat) (a:A):iK P t f k a=iy (fld P t f) λ q=>gy P q.2 q.1 k a:=by simp only[iK];rcases fld P t f with _|⟨_,_⟩<;> rfl
@[go_sem,go_sem ↓] theorem rdPart_d_cell {t:TypeId} (o:Nat) (cs:List D) (h:ef P t=some false):gy P t o k (.d (.agg cs))=k (o<cs.length) (.d (cs.getD o default)):=by simp only[gy,h]
@[go_sem,go_sem ↓] theorem rdPart_a_cell {t:TypeId} (o:Nat) (cs:List A) (h:ef P t=some false):gy P t o k (.agg cs)=k (o<cs.length) (cs.getD o .o):=by simp only[gy,h]
@[go_sem,go_sem ↓] theorem rdPart_a_agg {t:TypeId} (o:Nat) (cs:List A) (h:ef P t=some true):gy P t o k (.agg cs)=k (o+P.cellsOf t≤cs.length) (mU ((cs.drop o).take (P.cellsOf t))):=by simp only[gy,h]
section
variable (ik:IntKind) (a b:Int) (t:TypeId)
@[go_sem,go_sem ↓] theorem rdBin_add:dE P .add t k (.d (.int ik a)) (.d (.int ik b))=k True (.d (.int ik (ik.wrap (a+b)))):=by simp [dE,fc]
@[go_sem,go_sem ↓] theorem rdBin_sub:dE P .sub t k (.d (.int ik a)) (.d (.int ik b))=k True (.d (.int ik (ik.wrap (a - b)))):=by simp [dE,fc]
@[go_sem,go_sem ↓] theorem rdBin_mul:dE P .mul t k (.d (.int ik a)) (.d (.int ik b))=k True (.d (.int ik (ik.wrap (a*b)))):=by simp [dE,fc]
@[go_sem,go_sem ↓] theorem rdBin_rem:dE P .rem t k (.d (.int ik a)) (.d (.int ik b))=k (b≠0) (.d (.int ik (a.tmod b))):=by simp [dE,fc]
@[go_sem,go_sem ↓] theorem rdBin_eql:dE P .eql t k (.d (.int ik a)) (.d (.int ik b))=k True (.d (.bool (a==b))):=by simp [dE,fc]
@[go_sem,go_sem ↓] theorem rdBin_neq:dE P .neq t k (.d (.int ik a)) (.d (.int ik b))=k True (.d (.bool (a !=b))):=by simp [dE,fc]
@[go_sem,go_sem ↓] theorem rdBin_lss:dE P .lss t k (.d (.int ik a)) (.d (.int ik b))=k True (.d (.bool (decide (a<b)))):=by simp [dE,fc]
@[go_sem,go_sem ↓] theorem rdBin_leq:dE P .leq t k (.d (.int ik a)) (.d (.int ik b))=k True (.d (.bool (decide (a≤b)))):=by simp [dE,fc]
@[go_sem,go_sem ↓] theorem rdBin_gtr:dE P .gtr t k (.d (.int ik a)) (.d (.int ik b))=k True (.d (.bool (decide (b<a)))):=by simp [dE,fc]
@[go_sem,go_sem ↓] theorem rdBin_geq:dE P .geq t k (.d (.int ik a)) (.d (.int ik b))=k True (.d (.bool (decide (b≤a)))):=by simp [dE,fc]
@[go_sem,go_sem ↓] theorem rdBin_shl (jk:IntKind):dE P .shl t k (.d (.int ik a)) (.d (.int jk b))=k (0≤b) (.d (.int ik (ik.wrap (a*2^(min b.toNat ik.bits))))):=(rfl)
@[go_sem,go_sem ↓] theorem rdBin_str (op:BinOp) (x y:List UInt8):dE P op t k (.d (.str x)) (.d (.str y))=lT op k x y:=(rfl)
@[go_sem,go_sem ↓] theorem rdBin_seq (xs ys:List D):dE P .eql t k (.d (.agg xs)) (.d (.agg ys))=iy (kL P t) λ ks=>iy (jg ks xs ys) λ r=>k True (.d (.bool r)):=by
 simp only[dE]
 rcases kL P t with _|ks
 ·rfl
 ·simp only[iy];rcases jg ks xs ys with _|_<;> rfl
end
@[go_sem,go_sem ↓] theorem rdStr_eql (x y:List UInt8):lT .eql k x y=k True (.d (.bool (x==y))):=(rfl)
@[go_sem,go_sem ↓] theorem rdUn_not (b:Bool):pi .not k (.d (.bool b))=k True (.d (.bool (!b))):=(rfl)
@[go_sem,go_sem ↓] theorem rdUn_neg (ik:IntKind) (a:Int):pi .neg k (.d (.int ik a))=k True (.d (.int ik (ik.wrap (0 - a)))):=(rfl)
@[go_sem,go_sem ↓] theorem rdConvert_rs (s t id sz off len:Nat) (o:Option TypeId):ew P Z s t k (.rs id sz off len o)=jz Z id λ cs=>iy (kz ((cs.drop off).take len)) λ bs=>k (sz=1∧uJ P s=true∧kp P t=true∧off+len≤cs.length) (.d (.str bs)):=by
 simp only[ew,jz,iy]
 rcases Z[id]? with _|_|(_|_|_)
 ·rfl
 ·rfl
 ·simp only
  cases kz _<;> rfl
 ·rfl
 ·rfl
attribute [go_sem] pH
@[go_sem,go_sem ↓] theorem rdConvert_int {s:TypeId} (t:TypeId) (ik:IntKind) (a:Int) (h:ef P s=some false):ew P Z s t k (.d (.int ik a))=iy (zD P t) λ jk=>k True (.d (.int jk (jk.wrap a))):=by
 unfold ef at h
 unfold ew
 cases hu:P.underlying s with
 |none=>rw[hu]at h;cases h
 |some u=>simp only[];rcases zD P t with _|_<;> rfl
@[go_sem,go_sem ↓] theorem rdLen_str (t:TypeId) (s:List UInt8):jH P Z t k (.d (.str s))=k (kp P t=true) (.d (.int .i64 s.length)):=(rfl)
@[go_sem,go_sem ↓] theorem rdLen_sl (t sz:Nat) (xs:List D):jH P Z t k (.d (.sl sz xs))=k ((eA P t).isSome=true) (.d (.int .i64 xs.length)):=(rfl)
@[go_sem,go_sem ↓] theorem rdLen_nils (t:TypeId):jH P Z t k (.d .nils)=k ((eA P t).isSome=true) (.d (.int .i64 0)):=(rfl)
@[go_sem,go_sem ↓] theorem rdLen_rs (t id sz off n:Nat) (o:Option TypeId):jH P Z t k (.rs id sz off n o)=k (dr Z id=true∧(eA P t).isSome=true) (.d (.int .i64 n)):=(rfl)
theorem rdPick_t(k:Prop→A→Prop)(a b:A):gu k (.d (.bool true)) a b=k (a.cond=true) a.strip:=by
 unfold gu
 split
 ·rename_i x p q h0 h1 h2
  injection h0 with h0;injection h0 with h0;subst h0
  simp [h1]
 ·rfl
 ·rename_i _ _ heq _;cases heq
 ·simp_all
theorem rdPick_f(k:Prop→A→Prop)(a b:A):gu k (.d (.bool false)) a b=k (b.cond=true) b.strip:=by
 unfold gu
 split
 ·rename_i x p q h0 h1 h2
  injection h0 with h0;injection h0 with h0;subst h0
  simp [h2]
 ·rename_i _ _ heq _;cases heq
 ·rfl
 ·simp_all
attribute [go_sem high,go_sem ↓ high] rdPick_t rdPick_f
@[go_sem,go_sem ↓] theorem rdPick_grd1 (x p q c:Bool):gu k (.d (.bool x)) (.grd c (.d (.bool p))) (.d (.bool q))=k (x=true→c=true) (.d (.bool (bif x then p else q))):=by
 simp only[gu,A.strip,A.cond,implies_true,and_true,dJ]
@[go_sem,go_sem ↓] theorem rdPick_grd2 (x p q c:Bool):gu k (.d (.bool x)) (.d (.bool p)) (.grd c (.d (.bool q)))=k (x=false→c=true) (.d (.bool (bif x then p else q))):=by
 simp only[gu,A.strip,A.cond,implies_true,true_and,dJ]
attribute [go_sem] iI bJ Option.map_none
def b2K(a b:Option Int)(k:Int→Int→Prop):Prop:=match a,b with
 |some x,some y=>k x y
 |_,_=>False
@[go_sem,go_sem ↓] theorem b2K_some (x y:Int) (k:Int→Int→Prop):b2K (some x) (some y) k=k x y:=(rfl)
@[congr] theorem b2K_congr {a a' b b':Option Int} {k:Int→Int→Prop} (h:a=a') (h':b=b'):b2K a b k=b2K a' b' k:=by rw[h,h']
@[go_sem,go_sem ↓] theorem rdSlice_sl (t sz:Nat) (xs:List D) (lo hi:Option A):gd P Z t k (.d (.sl sz xs)) lo hi=b2K (iI lo 0) (iI hi xs.length) λ l h=>iy (eA P t) λ q=>k (q.2=sz∧0≤l∧l≤h∧h≤xs.length) (.d (.sl sz ((xs.take h.toNat).drop l.toNat))):=by
 simp only[gd,b2K]
 rcases iI lo 0 with _|_<;> rcases iI hi xs.length with _|_<;> rcases eA P t with _|⟨_,_⟩<;> rfl
@[go_sem,go_sem ↓] theorem rdExtract_tup (i:Nat) (as:List A):f7 k i (.tup as)=k (i<as.length) (as.getD i .o):=(rfl)
@[go_sem high,go_sem ↓ high] theorem condA_true (t e:Prop):oU (.d (.bool true)) t e=t:=by simp [oU]
@[go_sem high,go_sem ↓ high] theorem condA_false (t e:Prop):oU (.d (.bool false)) t e=e:=by simp [oU]
@[go_sem,go_sem ↓] theorem condA_bool (x:Bool) (t e:Prop):oU (.d (.bool x)) t e=((x=true→t)∧(x=false→e)):=(rfl)
@[congr] theorem condA_congr {a a':A} {t e:Prop} (h:a=a'):oU a t e=oU a' t e:=by rw[h]
-- the continuations are left alone
@[congr] theorem rdLoad_congr {t:TypeId} {k:Prop→A→Prop} {a a':A} (h:a=a'):fa P Z t k a=fa P Z t k a':=by rw[h]
@[congr] theorem B3 {t f:Nat} {k:Prop→A→Prop} {a a':A} (h:a=a'):cK P Z t f k a=cK P Z t f k a':=by rw[h]
@[congr] theorem rdField_congr {t f:Nat} {k:Prop→A→Prop} {a a':A} (h:a=a'):iK P t f k a=iK P t f k a':=by rw[h]
@[go_sem,go_sem ↓] theorem CS (t:TypeId) (x:A):cH P Z t k .o x=k False .o:=by unfold cH;rfl
@[go_sem,go_sem ↓] theorem DY (t f:Nat):cK P Z t f k .o=k False .o:=by unfold cK;rfl
@[go_sem,go_sem ↓] theorem rdLoad_any (t:TypeId):fa P Z t k .o=k False .o:=by unfold fa;rfl
@[congr] theorem B0 {t:TypeId} {k:Prop→A→Prop} {a a' b b':A} (h:a=a') (h':b=b'):cH P Z t k a b=cH P Z t k a' b':=by rw[h,h']
@[congr] theorem rdIndex_congr {t:TypeId} {k:Prop→A→Prop} {a a' b b':A} (h:a=a') (h':b=b'):gf P t k a b=gf P t k a' b':=by rw[h,h']
@[congr] theorem rdBin_congr {o:BinOp} {t:TypeId} {k:Prop→A→Prop} {a a' b b':A} (h:a=a') (h':b=b'):dE P o t k a b=dE P o t k a' b':=by rw[h,h']
@[congr] theorem rdStr_congr {o:BinOp} {k:Prop→A→Prop} {a a' b b':List UInt8} (h:a=a') (h':b=b'):lT o k a b=lT o k a' b':=by rw[h,h']
@[congr] theorem rdUn_congr {o:UnOp} {k:Prop→A→Prop} {a a':A} (h:a=a'):pi o k a=pi o k a':=by rw[h]
@[congr] theorem D1 {s t:TypeId} {k:Prop→A→Prop} {a a':A} (h:a=a'):ew P Z s t k a=ew P Z s t k a':=by rw[h]
@[congr] theorem rdLen_congr {t:TypeId} {k:Prop→A→Prop} {a a':A} (h:a=a'):jH P Z t k a=jH P Z t k a':=by rw[h]
@[congr] theorem rdPick_congr {k:Prop→A→Prop} {a a' b b' c c':A} (h:a=a') (h':b=b') (h'':c=c'):gu k a b c=gu k a' b' c':=by rw[h,h',h'']
@[congr] theorem rdSlice_congr {t:TypeId} {k:Prop→A→Prop} {a a':A} {b b' c c':Option A} (h:a=a') (h':b=b') (h'':c=c'):gd P Z t k a b c=gd P Z t k a' b' c':=by rw[h,h',h'']
@[congr] theorem DZ {i:Nat} {k:Prop→A→Prop} {a a':A} (h:a=a'):f7 k i a=f7 k i a':=by rw[h]
@[congr] theorem rdAssert_congr {t:TypeId} {ok:Bool} {k:Prop→A→Prop} {a a':A} (h:a=a'):iU P t ok k a=iU P t ok k a':=by rw[h]
@[congr] theorem rdBuild_congr {t:TypeId} {k:Prop→A→Prop} {a a':List (Nat×A)} (h:a=a'):gh P Z t a k=gh P Z t a' k:=by rw[h]
@[congr] theorem objK_congr {id id':Nat} {Z':St} {k:List A→Prop} (h:Z=Z') (h':id=id'):jz Z id k=jz Z' id' k:=by rw[h,h']
@[congr] theorem callV_congr {a a':A} {l l':List A} {k:A→St→Prop} (h:a=a') (h':l=l'):jI P G Z a l k=jI P G Z a' l' k:=by rw[h,h']
@[go_sem,go_sem ↓] theorem callV_fn (g:FuncId) (first cap args:List A) (k:A→St→Prop):jI P G Z (.fn (.func g) first cap) args k= @AC' P G g (first++args++cap) Z ⟨k⟩:=(rfl)
@[go_sem,go_sem ↓] theorem callV_yield (l:Nat) (cap args:List A) (k:A→St→Prop):jI P G Z (.fn (.yield l) [] cap) args k= @YC' P G l args Z ⟨k⟩:=(rfl)
@[congr] theorem callI_congr {a a':A} {name:String} {l l':List A} {k:A→St→Prop} (h:a=a') (h':l=l'):qz P G Z a name l k=qz P G Z a' name l' k:=by rw[h,h']
@[congr] theorem enterM_congr {q:FuncId×Rc} {a a':A} {l l':List A} {k:A→St→Prop} (h:a=a') (h':l=l'):enterM P G Z q a l k=enterM P G Z q a' l' k:=by rw[h,h']
@[congr] theorem wrApp_congr {t u:TypeId} {a a' b b':A} {k:Prop→A→St→Prop} (h:a=a') (h':b=b'):pT P Z t u a b k=pT P Z t u a' b' k:=by rw[h,h']
@[congr] theorem wrGrow_congr {t u:TypeId} {a a':A} {n n':Int} {k:Prop→A→St→Prop} (h:a=a') (h':n=n'):qI P Z t u a n k=qI P Z t u a' n' k:=by rw[h,h']
@[congr] theorem wrAppend_congr {t u:TypeId} {a a' b b':A} {k:Prop→A→St→Prop} (h:a=a') (h':b=b'):gR P Z t u a b k=gR P Z t u a' b' k:=by rw[h,h']
@[congr] theorem wrBox_congr {a a':A} {k:Prop→A→St→Prop} (h:a=a'):rP Z a k=rP Z a' k:=by rw[h]
@[congr] theorem wrStore_congr {t:TypeId} {a a' b b':A} {k:Prop→A→St→Prop} (h:a=a') (h':b=b'):je P Z t a b k=je P Z t a' b' k:=by rw[h,h']
@[congr] theorem Ax {t n:Nat} {a a':List (Nat×A)} {k:Prop→A→St→Prop} (h:a=a'):eE P Z t n a k=eE P Z t n a' k:=by rw[h]
@[congr] theorem BO {t:TypeId} {a a' b b':A} {k:Prop→A→St→Prop} (h:a=a') (h':b=b'):eW P Z t a b k=eW P Z t a' b' k:=by rw[h,h']
@[go_sem,go_sem ↓] theorem wrBox_eq (a:A) (k:Prop→A→St→Prop):rP Z a k=k (zi Z a=true) (.ref Z.length 0) (Z++[some (.cells a.cells)]):=(rfl)
@[go_sem,go_sem ↓] theorem wrAlloc_eq (t:TypeId) (k:Prop→A→St→Prop):jS P Z t k=iy (eO P t) λ zs=>k (zs.all (lk [])=true) (.ref Z.length 0) (Z++[some (.cells zs)]):=by simp only[jS];rcases eO P t with _|_<;> rfl
@[go_sem,go_sem ↓] theorem wrStore_ref (t id off:Nat) (x:A) (k:Prop→A→St→Prop):je P Z t (.ref id off) x k=jz Z id λ cs=>k (zi Z x=true∧x.cells.length=P.cellsOf t∧(P.info? t).isSome=true∧off+x.cells.length≤cs.length) .o
    (Z.set id (some (.cells (cs.take off++x.cells++cs.drop (off+x.cells.length))))):=by
 simp only[je,jz]
 rcases Z[id]? with _|_|(_|_|_)<;> rfl
@[go_sem,go_sem ↓] theorem DU (t n:Nat) (ps:List (Nat×A)) (k:Prop→A→St→Prop):eE P Z t n ps k=iy (pp P t) λ q=>
  k (jV Z q.2.1 0 ps=true∧ps.length=n∧n*q.2.1≤16777216∧n≤16777216) (.rs Z.length q.2.1 0 n (some q.1)) (Z++[some (.cells (ps.flatMap λ p=>p.2.cells))]):=by simp only[eE];rcases pp P t with _|⟨_,_,_,_⟩<;> rfl
@[go_sem,go_sem ↓] theorem wrMakeSlice_eq (t:TypeId) (ik jk:IntKind) (n m:Int) (k:Prop→A→St→Prop):eW P Z t (.d (.int ik n)) (.d (.int jk m)) k=iy (pp P t) λ q=>
  k (0≤n∧n≤m∧(q.2.2.1:Int)*m≤281474976710656∧m≤9223372036854775807) (.rs Z.length q.2.1 0 n.toNat (some q.1)) (Z++[some (.cells (List.replicate n.toNat q.2.2.2).flatten)]):=by simp only[eW];rcases pp P t with _|⟨_,_,_,_⟩<;> rfl
-- code
variable {Q:wJ}
@[congr] theorem aw_congr {c:Code} {Q:wJ} {fr fr':Fr} {Z Z':St} (h:fr=fr') (h':Z=Z'):aw P G n0 tx c Q fr Z=aw P G n0 tx c Q fr' Z':=by rw[h,h']
def CG(P:Program)(G:Glob)(n0:Nat)(tx:Md)(b:Code)(Q:wJ):wJ
 | .normal,fr,Z=>aw P G n0 tx b Q fr Z
 | .exit i,fr,Z=>Q (.exit i) fr Z
 | .ret,fr,Z=>Q .ret fr Z
def rH(id:Nat)(Q:wJ):wJ
 | .normal,fr,Z=>Q .normal fr Z
 | .exit i,fr,Z=>if i=id then Q .normal fr Z else Q (.exit i) fr Z
 | .ret,fr,Z=>Q .ret fr Z
def ub(G:Glob)(n0:Nat)(I:Nat→Fr→St→Prop)(m:Nat)(Q:wJ):wJ
 | .normal,fr,Z=>Wk G n0 (λ f s=>∃m',m'<m∧I m' f s) fr Z
 | .exit i,fr,Z=>Q (.exit i) fr Z
 | .ret,fr,Z=>Q .ret fr Z
@[go_sem] theorem aw_skip:aw P G n0 tx .skip Q fr Z=Q .normal fr Z:=(rfl)
@[go_sem ↓] theorem headId_seq (a b:Code):il (.seq a b)=il a:=(rfl)
@[go_sem ↓] theorem headId_block (i:Nat) (a:Code):il (.block i a)=il a:=(rfl)
@[go_sem ↓] theorem headId_loop (a:Code):il (.loop a)=il a:=(rfl)
@[go_sem ↓] theorem headId_region (i:Nat) (l:Array Oper) (b:Bool):il (.region i l b)=some i:=(rfl)
@[go_sem ↓] theorem headId_cond (c:Operand) (a b:Code):il (.cond c a b)=none:=(rfl)
@[go_sem ↓] theorem headId_ret:il .ret=none:=(rfl)
@[go_sem ↓] theorem headId_exit (i:Nat):il (.exit i)=none:=(rfl)
def cutL(l:List Nat):Option Nat→Bool
 |some id=>l.contains id
 |none=>false
@[go_sem ↓] theorem cutB_nil (c:Code):Br [] c=false:=(rfl)
@[go_sem ↓] theorem cutB_cons (x:Nat) (r:List Nat) (c:Code):Br (x::r) c=cutL (x::r) (il c):=by
 unfold Br cutL
 cases il c with
 |none=>rfl
 |some id=>simp only[List.contains_cons]
@[go_sem] theorem cutL_some (l:List Nat) (id:Nat):cutL l (some id)=l.contains id:=(rfl)
@[go_sem] theorem cutL_none (l:List Nat):cutL l none=false:=(rfl)
@[go_sem] theorem aw_seq (a b:Code) (h:Br tx.cuts b=false):aw P G n0 tx (.seq a b) Q fr Z=aw P G n0 tx a (CG P G n0 tx b Q) fr Z:=by
 simp only[aw,h,cond_false]
 congr 1
 funext e f s
 cases e<;> rfl
def DD(G:Glob)(n0:Nat)(I:Fr→St→Prop)(Q:wJ):wJ
 | .normal,fr,Z=>Wk G n0 I fr Z
 | .exit i,fr,Z=>Q (.exit i) fr Z
 | .ret,fr,Z=>Q .ret fr Z
@[go_sem,go_sem ↓] theorem cutQ_normal (I:Fr→St→Prop):DD G n0 I Q .normal fr Z=Wk G n0 I fr Z:=(rfl)
@[go_sem,go_sem ↓] theorem cutQ_exit (I:Fr→St→Prop) (i:Nat):DD G n0 I Q (.exit i) fr Z=Q (.exit i) fr Z:=(rfl)
@[go_sem,go_sem ↓] theorem cutQ_ret (I:Fr→St→Prop):DD G n0 I Q .ret fr Z=Q .ret fr Z:=(rfl)
@[congr] theorem cutQ_congr {I:Fr→St→Prop} {x:Ex} {fr fr':Fr} {Z Z':St} (h:fr=fr') (h':Z=Z'):DD G n0 I Q x fr Z=DD G n0 I Q x fr' Z':=by rw[h,h']
theorem bc{a b:Code}(I:Fr→St→Prop)(ha:aw P G n0 tx a (DD G n0 I Q) fr Z)(hb:∀fr Z,I fr Z→aw P G n0 tx b Q fr Z)(h:Br tx.cuts b=true:=by kernel_rfl):aw P G n0 tx (.seq a b) Q fr Z:=by
 simp only[aw,h,cond_true]
 refine⟨I,Eq.mp ?_ ha,hb⟩
 congr 1
 funext e f s
 cases e<;> rfl
@[go_sem] theorem aw_block (id:Nat) (c:Code):aw P G n0 tx (.block id c) Q fr Z=aw P G n0 tx c (rH id Q) fr Z:=by
 simp only[aw]
 congr 1
 funext e f s
 cases e<;> rfl
@[go_sem] theorem aw_region (id:Nat) (l:List Oper):aw P G n0 tx (.region id l.toArray false) Q fr Z=gX P G l.toArray l (Q .normal) fr Z:=by simp only[aw]
@[go_sem] theorem aw_draw (id:Nat) (l:List Oper) (cs:List Nat) (b:Bool):aw P G n0 ⟨true,cs,b⟩ (.region id l.toArray true) Q fr Z=gX P G l.toArray l (Q .normal) fr Z:=by simp only[aw,cond_true]
theorem bb{id:Nat}{l:List Oper}(p:Plan)(h:(decide (p.depth≤l.length)&&p.check (eg l.toArray) false 0)=true)(hp:dP P G l.toArray (Q .normal) p fr Z){cs:List Nat}{b:Bool}:aw P G n0 ⟨false,cs,b⟩ (.region id l.toArray true) Q fr Z:=by
 simp only[aB,av]at h
 simp only[aw,cond_false]
 exact .inl ⟨p,by simpa using h.1,by simpa using h.2,hp⟩
theorem nJ{id:Nat}{l:List Oper}(g:GPlan)(h:(decide (g.depth≤l.length)&&g.check (eg l.toArray) 0)=true)(hp:sS P G l.toArray (Q .normal) g fr Z){cs:List Nat}{b:Bool}:aw P G n0 ⟨false,cs,b⟩ (.region id l.toArray true) Q fr Z:=by
 simp only[aB,av]at h
 simp only[aw,cond_false]
 exact .inr ⟨g,by simpa using h.1,by simpa using h.2,hp⟩
@[go_sem] theorem awPlan_done (ops:Array Oper) (K:Fr→St→Prop):dP P G ops K .done fr Z=K fr Z:=(rfl)
@[go_sem] theorem awPlan_stop (ops:Array Oper) (K:Fr→St→Prop):dP P G ops K .stop fr Z=True:=(rfl)
def stepK(P:Program)(G:Glob)(ops:Array Oper)(o:Oper)(p:Plan)(K:Fr→St→Prop)(fr:Fr)(Z:St):Prop:=gX P G ops [o] (dP P G ops K p) fr Z
theorem yr(ops:Array Oper)(o:Oper)(p:Plan)(K:Fr→St→Prop):stepK P G ops o p K fr Z=jZ P G ops o (dP P G ops K p) fr Z:=by
 unfold stepK;rw[pL];rfl
def xl(P:Program)(G:Glob)(ops:Array Oper)(l:List Oper)(i:Nat)(p:Plan)(K:Fr→St→Prop)(fr:Fr)(Z:St):Prop:=match l[i]? with
 |some o=>stepK P G ops o p K fr Z
 |none=>False
@[go_sem] theorem nthK_zero (ops:Array Oper) (o:Oper) (l:List Oper) (p:Plan) (K:Fr→St→Prop):xl P G ops (o::l) 0 p K fr Z=gX P G ops [o] (dP P G ops K p) fr Z:=(rfl)
@[go_sem] theorem nthK_succ (ops:Array Oper) (o:Oper) (l:List Oper) (i:Nat) (p:Plan) (K:Fr→St→Prop):xl P G ops (o::l) (i+1) p K fr Z=xl P G ops l i p K fr Z:=(rfl)
@[go_sem] theorem awPlan_take (l:List Oper) (K:Fr→St→Prop) (i:Nat) (p:Plan):dP P G l.toArray K (.take i p) fr Z=xl P G l.toArray l i p K fr Z:=by
 simp only[dP,xl,cY]
 cases l[i]? with
 |none=>rfl
 |some o=>exact(yr _ _ _ _).symm
class KP where
 k:A→Prop
def ExP [K:KP]:Prop:=∃x,K.k x
theorem mN{k:A→Prop}(x:A)(h:k x): @ExP ⟨k⟩:=⟨x,h⟩
class KQ where
 k:D→Prop
def ExQ [K:KQ]:Prop:=∃x,K.k x
theorem exQ{k:D→Prop}(x:D)(h:k x): @ExQ ⟨k⟩:=⟨x,h⟩
def tK(P:Program)(G:Glob)(ops:Array Oper)(o:Oper)(p:Plan)(K:Fr→St→Prop)(fr:Fr)(Z:St):Prop:=yq P G ops o (λ x=>dP P G ops K p (kE fr o.dst x) Z) fr
def A3(P:Program)(G:Glob)(ops:Array Oper)(l:List Oper)(i:Nat)(p:Plan)(K:Fr→St→Prop)(fr:Fr)(Z:St):Prop:=match l[i]? with
 |some o=>tK P G ops o p K fr Z
 |none=>False
@[go_sem] theorem nthP_zero (ops:Array Oper) (o:Oper) (l:List Oper) (p:Plan) (K:Fr→St→Prop):A3 P G ops (o::l) 0 p K fr Z=tK P G ops o p K fr Z:=(rfl)
@[go_sem] theorem nthP_succ (ops:Array Oper) (o:Oper) (l:List Oper) (i:Nat) (p:Plan) (K:Fr→St→Prop):A3 P G ops (o::l) (i+1) p K fr Z=A3 P G ops l i p K fr Z:=(rfl)
@[go_sem] theorem awPlan_pure (l:List Oper) (K:Fr→St→Prop) (i:Nat) (p:Plan):dP P G l.toArray K (.pure i p) fr Z=A3 P G l.toArray l i p K fr Z:=by
 simp only[dP,A3,cY]
 cases l[i]? with
 |none=>rfl
 |some o=>rfl
@[go_sem] theorem pureK_plain (ops:Array Oper) (p:Plan) (K:Fr→St→Prop) (dst:Option Tmp) (f:Operand) (as:Array Operand) (ts:Array TypeId) (ty:TypeId) (pos:String) (after:Array Edge):
  tK P G ops ⟨dst,.call ⟨.value f,as,ts⟩,ty,pos,after,none⟩ p K fr Z= @ExP ⟨λ x=>(∀Z',jI P G Z' (ev G fr f) (as.toList.map (ev G fr)) λ r s=>r=x∧s=Z')∧dP P G ops K p (kE fr dst x) Z⟩:=(rfl)
@[go_sem] theorem pureK_guard (ops:Array Oper) (p:Plan) (K:Fr→St→Prop) (dst:Option Tmp) (f:Operand) (as:Array Operand) (ts:Array TypeId) (ty:TypeId) (pos:String) (after:Array Edge) (j:Nat) (b:Bool):
  tK P G ops ⟨dst,.call ⟨.value f,as,ts⟩,ty,pos,after,some (j,b)⟩ p K fr Z=rk (fW ops fr j b) λ c=> @ExQ ⟨λ d=>(c=true→((Op.call ⟨.value f,as,ts⟩).operands.toList.all λ x=>(ev G fr x).cond)=true∧∀Z',jI P G Z' (ev G fr f).strip (as.toList.map λ x=>(ev G fr x).strip) λ r s=>r= .d d∧s=Z')∧dP P G ops K p (kE fr dst (.grd c (.d d))) Z⟩:=by
 simp only[tK,yq,rk]
 cases fW ops fr j b<;> rfl
@[congr] theorem nthP_congr {ops:Array Oper} {l:List Oper} {i:Nat} {p:Plan} {K:Fr→St→Prop} {fr fr':Fr} {Z Z':St} (h:fr=fr') (h':Z=Z'):A3 P G ops l i p K fr Z=A3 P G ops l i p K fr' Z':=by rw[h,h']
@[congr] theorem pureK_congr {ops:Array Oper} {o:Oper} {p:Plan} {K:Fr→St→Prop} {fr fr':Fr} {Z Z':St} (h:fr=fr') (h':Z=Z'):tK P G ops o p K fr Z=tK P G ops o p K fr' Z':=by rw[h,h']
@[go_sem] theorem awPlan_alt (l:List Oper) (K:Fr→St→Prop) (i:Nat) (p q:Plan):dP P G l.toArray K (.alt i p q) fr Z=(xl P G l.toArray l i p K fr Z∧dP P G l.toArray K q fr Z):=by
 simp only[dP,xl,cY]
 cases l[i]? with
 |none=>rfl
 |some o=>simp only[yr]
@[congr] theorem nthK_congr {ops:Array Oper} {l:List Oper} {i:Nat} {p:Plan} {K:Fr→St→Prop} {fr fr':Fr} {Z Z':St} (h:fr=fr') (h':Z=Z'):xl P G ops l i p K fr Z=xl P G ops l i p K fr' Z':=by rw[h,h']
@[congr] theorem awPlan_congr {ops:Array Oper} {p:Plan} {K:Fr→St→Prop} {fr fr':Fr} {Z Z':St} (h:fr=fr') (h':Z=Z'):dP P G ops K p fr Z=dP P G ops K p fr' Z':=by rw[h,h']
@[go_sem] theorem bdg_d (n:Nat) (x:D):(A.d x).bdg n=true:=(rfl)
@[go_sem] theorem bdg_ref (n id o:Nat):(A.ref id o).bdg n=decide (id<n):=(rfl)
@[go_sem] theorem bdAt_some (n:Nat) (fr:Fr) (d:Tmp):bdAt n fr (some d)=((List.getD fr d .o).bdg n=true):=(rfl)
def mkK(P:Program)(G:Glob)(ops:Array Oper)(K:Fr→St→Prop)(ms:List Nat)(q:GPlan)(Z:St)(fr':Fr):Prop:=∃sp:List Mk,sp.map Mk.i=ms∧(∀q∈sp,q.ok P G ops fr'∧q.ob.bd Z.length=true)∧sS P G ops K q (iV sp Z.length fr') (Z++sp.map λ q=>some q.ob)
def mkO(P:Program)(G:Glob)(ops:Array Oper)(K:Fr→St→Prop)(ms:List Nat)(o:Nat)(q1 q2:GPlan)(fr:Fr)(Z:St)(fr':Fr):Prop:=∃(sp:List Mk) (po:Mk),sp.map Mk.i=ms∧po.i=o∧(∀q∈sp++[po],q.ok P G ops fr'∧q.ob.bd Z.length=true)∧List.getD fr po.dst .o= .o∧
   sS P G ops K q1 (iV (sp++[po]) Z.length fr') (Z++(sp++[po]).map λ q=>some q.ob)∧sS P G ops K q2 (iV sp Z.length fr') (Z++sp.map λ q=>some q.ob)
theorem lZ {ops:Array Oper} {K:Fr→St→Prop} {q1 q2:GPlan} {fr fr':Fr} (sp:List Mk) (po:Mk) (h1:∀q∈sp++[po],q.ok P G ops fr') (h2:∀q∈sp++[po],q.ob.bd Z.length=true) (h3:List.getD fr po.dst .o= .o)
  (h:sS P G ops K q1 (iV (sp++[po]) Z.length fr') (Z++(sp++[po]).map λ q=>some q.ob)) (h':sS P G ops K q2 (iV sp Z.length fr') (Z++sp.map λ q=>some q.ob)):mkO P G ops K (sp.map Mk.i) po.i q1 q2 fr Z fr':=
 ⟨sp,po,rfl,rfl,λ q hq=>⟨h1 q hq,h2 q hq⟩,h3,h,h'⟩
@[congr] theorem mkO_congr {ops:Array Oper} {K:Fr→St→Prop} {ms:List Nat} {o:Nat} {q1 q2:GPlan} {g:Fr} {fr fr':Fr} {Z Z':St} (h:fr=fr') (h':Z=Z'):mkO P G ops K ms o q1 q2 g Z fr=mkO P G ops K ms o q1 q2 g Z' fr':=by rw[h,h']
theorem zm{l:List Oper}{q:Mk}{op:Op}{ty:TypeId}{pos:String}{after:Array Edge}(h:l[q.i]? =some ⟨some q.dst,op,ty,pos,after,none⟩)(h2:∀(Z:St) (k:A→St→Prop),k (q.s.at Z.length) (Z++[some q.ob])→iq P G Z (ev G fr) op k):q.ok P G l.toArray fr:=
 ⟨_,by rw[cY];exact h,rfl,λ Z k hk=>by simp only[fN];exact h2 Z k hk⟩
def rdK(P:Program)(G:Glob)(ops:Array Oper)(n:Nat)(K:Fr→Prop)(r:List Nat)(d:Option Tmp)(fr:Fr)(Z:St):Prop:=bdAt n fr d∧qC P G ops n K r fr Z
@[go_sem] theorem rdK_eq (ops:Array Oper) (n:Nat) (K:Fr→Prop) (r:List Nat) (d:Option Tmp):rdK P G ops n K r d fr Z=(bdAt n fr d∧qC P G ops n K r fr Z):=(rfl)
@[congr] theorem rdK_congr {ops:Array Oper} {n:Nat} {K:Fr→Prop} {r:List Nat} {d:Option Tmp} {fr fr':Fr} {Z Z':St} (h:fr=fr') (h':Z=Z'):rdK P G ops n K r d fr Z=rdK P G ops n K r d fr' Z':=by rw[h,h']
@[congr] theorem awRs_congr {ops:Array Oper} {n:Nat} {K:Fr→Prop} {r:List Nat} {fr fr':Fr} {Z Z':St} (h:fr=fr') (h':Z=Z'):qC P G ops n K r fr Z=qC P G ops n K r fr' Z':=by rw[h,h']
@[congr] theorem mkK_congr {ops:Array Oper} {K:Fr→St→Prop} {ms:List Nat} {q:GPlan} {fr fr':Fr} {Z Z':St} (h:fr=fr') (h':Z=Z'):mkK P G ops K ms q Z fr=mkK P G ops K ms q Z' fr':=by rw[h,h']
@[congr] theorem awG_congr {ops:Array Oper} {g:GPlan} {K:Fr→St→Prop} {fr fr':Fr} {Z Z':St} (h:fr=fr') (h':Z=Z'):sS P G ops K g fr Z=sS P G ops K g fr' Z':=by rw[h,h']
def A2(P:Program)(G:Glob)(ops:Array Oper)(l:List Oper)(i n:Nat)(K:Fr→Prop)(r:List Nat)(fr:Fr)(Z:St):Prop:=match l[i]? with
 |some o=>gX P G ops [o] (rdK P G ops n K r o.dst) fr Z
 |none=>False
@[go_sem] theorem nthR_zero (ops:Array Oper) (o:Oper) (l:List Oper) (n:Nat) (K:Fr→Prop) (r:List Nat):A2 P G ops (o::l) 0 n K r fr Z=gX P G ops [o] (rdK P G ops n K r o.dst) fr Z:=(rfl)
@[go_sem] theorem nthR_succ (ops:Array Oper) (o:Oper) (l:List Oper) (i n:Nat) (K:Fr→Prop) (r:List Nat):A2 P G ops (o::l) (i+1) n K r fr Z=A2 P G ops l i n K r fr Z:=(rfl)
@[congr] theorem nthR_congr {ops:Array Oper} {l:List Oper} {i n:Nat} {K:Fr→Prop} {r:List Nat} {fr fr':Fr} {Z Z':St} (h:fr=fr') (h':Z=Z'):A2 P G ops l i n K r fr Z=A2 P G ops l i n K r fr' Z':=by rw[h,h']
@[go_sem] theorem awRs_nil (ops:Array Oper) (n:Nat) (K:Fr→Prop):qC P G ops n K [] fr Z=K fr:=(rfl)
@[go_sem] theorem awRs_cons (l:List Oper) (n:Nat) (K:Fr→Prop) (i:Nat) (r:List Nat):qC P G l.toArray n K (i::r) fr Z=A2 P G l.toArray l i n K r fr Z:=by
 simp only[qC,A2,cY]
 cases l[i]? with
 |none=>rfl
 |some o=>simp only;rw[pL];rfl
def nthG(P:Program)(G:Glob)(ops:Array Oper)(l:List Oper)(i:Nat)(q:GPlan)(K:Fr→St→Prop)(fr:Fr)(Z:St):Prop:=match l[i]? with
 |some o=>gX P G ops [o] (sS P G ops K q) fr Z
 |none=>False
@[congr] theorem nthG_congr {ops:Array Oper} {l:List Oper} {i:Nat} {q:GPlan} {K:Fr→St→Prop} {fr fr':Fr} {Z Z':St} (h:fr=fr') (h':Z=Z'):nthG P G ops l i q K fr Z=nthG P G ops l i q K fr' Z':=by rw[h,h']
@[go_sem] theorem awG_plain (ops:Array Oper) (K:Fr→St→Prop) (p:Plan):sS P G ops K (.plain p) fr Z=dP P G ops K p fr Z:=(rfl)
@[go_sem] theorem awG_gro (ops:Array Oper) (K:Fr→St→Prop) (rs ms:List Nat) (o:Nat) (q1 q2:GPlan):sS P G ops K (.gro rs ms o q1 q2) fr Z=qC P G ops Z.length (mkO P G ops K ms o q1 q2 fr Z) rs fr Z:=(rfl)
@[go_sem] theorem putsM_nil (n:Nat):iV [] n fr=fr:=(rfl)
@[go_sem] theorem putsM_cons (q:Mk) (r:List Mk) (n:Nat):iV (q::r) n fr=iV r (n+1) (kE fr (some q.dst) (q.s.at n)):=(rfl)
@[go_sem] theorem sh_ref (o n:Nat):(Sh.ref o).at n= .ref n o:=(rfl)
@[go_sem] theorem sh_rs (a b c:Nat) (o:Option TypeId) (n:Nat):(Sh.rs a b c o).at n= .rs n a b c o:=(rfl)
@[go_sem] theorem aw_cond (c:Operand) (a b:Code):aw P G n0 tx (.cond c a b) Q fr Z=oU (ev G fr c) (aw P G n0 tx a Q fr Z) (aw P G n0 tx b Q fr Z):=by simp only[aw]
@[go_sem] theorem aw_exit (id:Nat):aw P G n0 tx (.exit id) Q fr Z=Q (.exit id) fr Z:=(rfl)
@[go_sem] theorem aw_ret:aw P G n0 tx .ret Q fr Z=Q .ret fr Z:=(rfl)
def xc(P:Program)(G:Glob)(n:Nat)(tx:Md)(body:Code)(id l:Nat)(r:Loop)(fr0:List A)(k:A→St→Prop):wJ
 | .normal,fr2,st2=>st2[id]? =some (some (.lp l r fr0))∧aw P G n tx body (DA G n id l r fr0 k) fr2 (st2.set id (some (.lp l { r with state:= .busy} fr0)))
 |_,_,_=>False
@[go_sem] theorem roundK_normal (n:Nat) (body:Code) (id l:Nat) (r:Loop) (fr0:List A) (k:A→St→Prop):xc P G n tx body id l r fr0 k .normal fr Z=
 (Z[id]? =some (some (.lp l r fr0))∧aw P G n tx body (DA G n id l r fr0 k) fr (Z.set id (some (.lp l { r with state:= .busy} fr0)))):=(rfl)
@[congr] theorem roundK_congr {n:Nat} {body:Code} {id l:Nat} {r:Loop} {fr0:List A} {k:A→St→Prop} {x:Ex} {fr fr':Fr} {Z Z':St} (h:fr=fr') (h':Z=Z'):xc P G n tx body id l r fr0 k x fr Z=xc P G n tx body id l r fr0 k x fr' Z':=by rw[h,h']
@[congr] theorem endR_congr {n id l:Nat} {r:Loop} {fr0:List A} {k:A→St→Prop} {x:Ex} {fr fr':Fr} {Z Z':St} (h:fr=fr') (h':Z=Z'):DA G n id l r fr0 k x fr Z=DA G n id l r fr0 k x fr' Z':=by rw[h,h']
theorem qB {g:Operand} {ps:Array Tmp} {assign body:Code} {t:Bool} {cs:List Nat} (hp:∀a s,¬G.pan a s) (hw:Wk G n0 (λ fr Z=>jo Z.length fr=true∧∃f first cap,ev G fr g= .fn (.func f) first cap∧
   ∀(l:Nat) (r:Loop),(∀args st k,st[Z.length]? =some (some (.lp l r fr))∧args.length=ps.size∧aw P G st.length ⟨t,cs,true⟩ assign (xc P G st.length ⟨t,cs,true⟩ body Z.length l r fr k) (oK fr ps.toList args) st→YC P G l args st k)→
    AC P G f (first++ .fn (.yield l) [] []::cap) (Z++[some (.lp l r fr)]) λ _ st=>endF G n0 Z.length l r fr Q st) fr Z):aw P G n0 ⟨t,cs,false⟩ (.rangeFunc g ps assign body) Q fr Z:=by
 simp only[aw,cond_false]
 obtain⟨fr',Z',h1,h2,f,first,cap,h3,h4⟩:=hw
 refine⟨hp,fr',Z',h1,h2,f,first,cap,h3,λ l r hY=>h4 l r λ args st k ⟨a1,a2,a3⟩=>hY args st k ⟨a1,a2,?_⟩⟩
 refine Eq.mp ?_ a3
 congr 1
 funext e f s
 cases e<;> rfl
theorem aS(I:Nat→Fr→St→Prop)(m0:Nat)(c:Code)(h0:Wk G n0 (I m0) fr Z)(h:∀m fr Z,I m fr Z→aw P G n0 tx c (ub G n0 I m Q) fr Z):aw P G n0 tx (.loop c) Q fr Z:=by
 simp only[aw]
 refine⟨I,m0,h0,λ m fr Z hI=> ?_⟩
 have:=h m fr Z hI
 revert this
 have e:ub G n0 I m Q=(λ e fr' Z'=>match e with| .normal=>Wk G n0 (λ f s=>∃m',m'<m∧I m' f s) fr' Z'| .exit i=>Q (.exit i) fr' Z'| .ret=>Q .ret fr' Z'):=by
  funext e f s
  cases e<;> rfl
 rw[e]
 exact id
@[go_sem,go_sem ↓] theorem seqK_normal (b:Code):CG P G n0 tx b Q .normal fr Z=aw P G n0 tx b Q fr Z:=(rfl)
@[go_sem,go_sem ↓] theorem seqK_exit (b:Code) (i:Nat):CG P G n0 tx b Q (.exit i) fr Z=Q (.exit i) fr Z:=(rfl)
@[go_sem,go_sem ↓] theorem seqK_ret (b:Code):CG P G n0 tx b Q .ret fr Z=Q .ret fr Z:=(rfl)
@[go_sem,go_sem ↓] theorem blockK_normal (id:Nat):rH id Q .normal fr Z=Q .normal fr Z:=(rfl)
@[go_sem,go_sem ↓] theorem blockK_exit (id i:Nat):rH id Q (.exit i) fr Z=if i=id then Q .normal fr Z else Q (.exit i) fr Z:=(rfl)
@[go_sem,go_sem ↓] theorem blockK_ret (id:Nat):rH id Q .ret fr Z=Q .ret fr Z:=(rfl)
@[go_sem,go_sem ↓] theorem loopK_normal (I:Nat→Fr→St→Prop) (m:Nat):ub G n0 I m Q .normal fr Z=Wk G n0 (λ f s=>∃m',m'<m∧I m' f s) fr Z:=(rfl)
@[go_sem,go_sem ↓] theorem loopK_exit (I:Nat→Fr→St→Prop) (m i:Nat):ub G n0 I m Q (.exit i) fr Z=Q (.exit i) fr Z:=(rfl)
@[go_sem,go_sem ↓] theorem loopK_ret (I:Nat→Fr→St→Prop) (m:Nat):ub G n0 I m Q .ret fr Z=Q .ret fr Z:=(rfl)
@[congr] theorem seqK_congr {b:Code} {Q:wJ} {x:Ex} {fr fr':Fr} {Z Z':St} (h:fr=fr') (h':Z=Z'):CG P G n0 tx b Q x fr Z=CG P G n0 tx b Q x fr' Z':=by rw[h,h']
@[congr] theorem blockK_congr {b:Nat} {Q:wJ} {x:Ex} {fr fr':Fr} {Z Z':St} (h:fr=fr') (h':Z=Z'):rH b Q x fr Z=rH b Q x fr' Z':=by rw[h,h']
@[congr] theorem loopK_congr {I:Nat→Fr→St→Prop} {m:Nat} {Q:wJ} {x:Ex} {fr fr':Fr} {Z Z':St} (h:fr=fr') (h':Z=Z'):ub G n0 I m Q x fr Z=ub G n0 I m Q x fr' Z':=by rw[h,h']

attribute [go_sem] true_and and_true implies_true imp_self and_self beq_true beq_false dJ ca dH List.all_nil cond_true cond_false reduceIte Nat.reduceEqDiff Nat.reduceAdd ci dY aM bq ak ah bt ae aj D.cells eu eB dR dV ad ne_eq reduceCtorEq not_false_eq_true CQ packA DT Ar Bool.not_not g9 eC Bool.or_true gQ Bool.or_false fj gL Ew Nat.reduceSub Nat.reduceLT Nat.reduceLeDiff Nat.lt_add_one aE lk zi A.cells D.one fC mU Op.operands Call.operands
@[go_sem] theorem getD_d_zero (x:D) (l:List D):List.getD (x::l) 0 default=x:=(rfl)
@[go_sem] theorem getD_d_succ (x:D) (l:List D) (n:Nat):List.getD (x::l) (n+1) default=List.getD l n default:=(rfl)
@[go_sem] theorem cond_and (x y:Bool):(bif x then y else false)=(x&&y):=by cases x<;> rfl
@[go_sem] theorem cond_or (x y:Bool):(bif x then true else y)=(x||y):=by cases x<;> rfl
@[go_sem] theorem not_of_false (x:Bool):(x=false→(!x)=true)=True:=by cases x<;> simp

attribute [go_sem] iX List.contains_cons List.contains_nil Nat.reduceBEq jo A.bd Nat.reduceAdd
@[congr] theorem rdPart_congr {t o o':Nat} {k:Prop→A→Prop} {a a':A} (h:o=o') (h':a=a'):gy P t o k a=gy P t o' k a':=by rw[h,h']
def bU(xs:List D):List A:=xs.flatMap λ x=>x.cells.map .d
@[go_sem] theorem flat_nil:bU []=[]:=rfl
@[go_sem] theorem wd (x:D) (xs:List D):bU (x::xs)=x.cells.map .d++bU xs:=rfl
def wY(P:Program)(Z:St)(s:Nat)(t:TypeId)(x:A)(k:Prop→Nat→List A→Prop):Prop:=match u1 P Z s t x with
 |some (p,m,news)=>k p m news
 |none=>False
@[congr] theorem srcK_congr {s t:Nat} {x x':A} {k:Prop→Nat→List A→Prop} (h:x=x'):wY P Z s t x k=wY P Z s t x' k:=by rw[h]
@[go_sem,go_sem ↓] theorem srcK_sl (s t sz:Nat) (xs:List D) (k:Prop→Nat→List A→Prop):wY P Z s t (.d (.sl sz xs)) k=k (sz=s∧(eA P t).isSome=true) xs.length (bU xs):=(rfl)
@[go_sem,go_sem ↓] theorem srcK_rs (s t id sz off len:Nat) (o:Option TypeId) (k:Prop→Nat→List A→Prop):wY P Z s t (.rs id sz off len o) k=jz Z id λ cs=>k (sz=s∧(eA P t).isSome=true∧off+len*s≤cs.length) len ((cs.drop off).take (len*s)):=by
 simp only[wY,u1,jz]
 rcases Z[id]? with _|_|(_|_|_)<;> rfl
@[go_sem,go_sem ↓] theorem wrCopy_rs (t u id sz off len:Nat) (ow:Option TypeId) (x:A) (k:Prop→A→St→Prop):ko P Z t u (.rs id sz off len ow) x k=iy (pp P t) λ q=>wY P Z q.2.1 u x λ p m news=>jz Z id λ cs=>
  k (p∧sz=q.2.1∧len=m∧off+len*q.2.1≤cs.length) (.d (.int .i64 len)) (Z.set id (some (.cells (cs.take off++news++cs.drop (off+len*q.2.1))))):=by
 simp only[ko,wY,iy,jz]
 rcases pp P t with _|⟨e,s,y,z⟩
 ·rfl
 ·simp only
  rcases u1 P Z s u x with _|⟨_,_,_⟩
  ·rfl
  ·simp only
   rcases Z[id]? with _|_|(_|_|_)<;> rfl
@[go_sem,go_sem ↓] theorem wrApp_sl (t u sz:Nat) (xs:List D) (a:A) (k:Prop→A→St→Prop):pT P Z t u a (.d (.sl sz xs)) k=gR P Z t u a (.d (.sl sz xs)) k:=(rfl)
@[go_sem,go_sem ↓] theorem wrApp_rs (t u id sz off len:Nat) (ow:Option TypeId) (a:A) (k:Prop→A→St→Prop):pT P Z t u a (.rs id sz off len ow) k=gR P Z t u a (.rs id sz off len ow) k:=(rfl)
@[go_sem,go_sem ↓] theorem wrAppend_rs (t u id sz off len:Nat) (ow:Option TypeId) (x:A) (k:Prop→A→St→Prop):gR P Z t u (.rs id sz off len ow) x k=iy (pp P t) λ q=>wY P Z q.2.1 u x λ p m news=>jz Z id λ cs=>
  k (p∧sz=q.2.1∧off=0∧ow=some q.1∧cs.length=len*q.2.1∧len+m≤maxLen∧(len+m)*q.2.2.1≤140737488355328) (.rs Z.length q.2.1 0 (len+m) (some q.1)) (Z.set id none++[some (.cells (cs++news))]):=by
 simp only[gR,wY,iy,jz]
 rcases pp P t with _|⟨e,s,y,z⟩
 ·rfl
 ·simp only
  rcases u1 P Z s u x with _|⟨_,_,_⟩
  ·rfl
  ·simp only
   rcases Z[id]? with _|_|(_|_|_)<;> rfl

-- stores: the objects of the call's own stand behind those that were there
@[go_sem,go_sem ↓] theorem zj {Z l:St} (j:Nat) (k:List A→Prop):jz (Z++l) (Z.length+j) k=jz l j k:=by
 simp only[jz]
 rw[az (by omega),bk]
@[go_sem,go_sem ↓] theorem objK_app0 {Z l:St} (k:List A→Prop):jz (Z++l) Z.length k=jz l 0 k:=by
 exact zj (Z:=Z) (l:=l) 0 k
@[go_sem,go_sem ↓] theorem objK_zero (cs:List A) (l:St) (k:List A→Prop):jz (some (.cells cs)::l) 0 k=k cs:=(rfl)
@[go_sem,go_sem ↓] theorem objK_succ (o:Option Ob) (l:St) (n:Nat) (k:List A→Prop):jz (o::l) (n+1) k=jz l n k:=(rfl)
@[go_sem] theorem zt {Z l:St} (j:Nat):dr (Z++l) (Z.length+j)=dr l j:=by
 simp only[dr]
 rw[az (by omega),bk]
@[go_sem] theorem live_app0 {Z l:St}:dr (Z++l) Z.length=dr l 0:=by
 exact zt (Z:=Z) (l:=l) 0
@[go_sem] theorem live_zero (o:Ob) (l:St):dr (some o::l) 0=true:=(rfl)
@[go_sem] theorem live_succ (o:Option Ob) (l:St) (n:Nat):dr (o::l) (n+1)=dr l n:=(rfl)
@[go_sem] theorem jU {Z l:St} (j:Nat) (x:Option Ob):List.set (Z++l) (Z.length+j) x=Z++List.set l j x:=by
 rw[Er _ _ (by omega),bk]
@[go_sem] theorem set_app0 {Z l:St} (x:Option Ob):List.set (Z++l) Z.length x=Z++List.set l 0 x:=by
 exact jU (Z:=Z) (l:=l) 0 x
@[go_sem] theorem sset_zero (x y:Option Ob) (l:St):List.set (x::l) 0 y=y::l:=(rfl)
@[go_sem] theorem sset_succ (x y:Option Ob) (l:St) (n:Nat):List.set (x::l) (n+1) y=x::List.set l n y:=(rfl)
attribute [go_sem] aU aF
end
end Go.Ab
