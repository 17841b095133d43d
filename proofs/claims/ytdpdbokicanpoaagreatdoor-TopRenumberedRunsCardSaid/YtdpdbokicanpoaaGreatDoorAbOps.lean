import Derived.Test.YtdpdbokicanpoaaGreatDoorAbK
import Derived.Test.YtdpdbokicanpoaaGreatDoorAbCmp
import Derived.CallsIn
import Derived.TacticsIn
import Derived.OrdersIn
import Derived.RangeFuncIn
import Derived.RangeFuncRecord
import Derived.RangeFuncLeaves
import Derived.Sort.LoopGhostIn
set_option linter.unusedSimpArgs false
set_option linter.unusedVariables false
set_option maxHeartbeats 64000000
namespace Go.Ab
open Go Go.RowKit

def aG(P:Program)(f:FuncId):Bool:=match P.funcs[f]? with
 | some fn => (fn.name != "runtime.NumGoroutine") && fn.body.isSome
 |none=>false
def Pan(G:Glob)(U:gM)(w:World)(chain:List PanicEntry)(w':World):Prop:=
 ∃v U' Z' r,chain=[{ v,recovered:=false}]∧Ext U w U' w'∧Inv G U' Z' w'∧RepA U' w' r v∧G.pan r Z'
def kA(P:Program)(G:Glob)(U:gM)(w:World)(k:A→St→Prop)(e:Ending)(w':World):Prop:=
 (∃v U' Z' r,e= .returned v∧Ext U w U' w'∧Inv G U' Z' w'∧RepA U' w' r v∧k r Z')∨∃chain,e= .panicked chain∧Pan G U w chain w'
theorem Pan.pre{G:Glob}{U U':gM}{w w' w'':World}{chain:List PanicEntry}(hx:Ext U w U' w')(h:Pan G U' w' chain w''):Pan G U w chain w'':=by
 obtain⟨v,U2,Z2,r,a,b,c⟩:=h
 exact⟨v,U2,Z2,r,a,hx.trans b,c⟩
theorem kA.mono{P:Program}{G:Glob}{U:gM}{w w':World}{k k':A→St→Prop}{e:Ending}(h:kA P G U w k e w')(hk:∀r Z,k r Z→k' r Z):kA P G U w k' e w':=by
 rcases h with⟨v,U',Z',r,a,b,c,d,e⟩|h
 ·exact .inl ⟨v,U',Z',r,a,b,c,d,hk _ _ e⟩
 ·exact .inr h
theorem kA.pre{P:Program}{G:Glob}{U U':gM}{w w' w'':World}{k:A→St→Prop}{e:Ending}(hx:Ext U w U' w')(h:kA P G U' w' k e w''):kA P G U w k e w'':=by
 rcases h with⟨v,U2,Z2,r,a,b,c⟩|⟨chain,a,b⟩
 ·exact .inl ⟨v,U2,Z2,r,a,hx.trans b,c⟩
 ·exact .inr ⟨chain,a,b.pre hx⟩
def AC(P:Program)(G:Glob)(f:FuncId)(args:List A)(Z:St)(R:A→St→Prop):Prop:=
 aG P f=true∧∀U w vs,Inv G U Z w→fy U w args vs→Calls P f vs.toArray w (kA P G U w R)
theorem AC.mono{P:Program}{G:Glob}{f:FuncId}{args:List A}{Z:St}{R R':A→St→Prop}(h:AC P G f args Z R)(hr:∀r Z',R r Z'→R' r Z'):AC P G f args Z R':=
 ⟨h.1,λ U w vs hI hL=>(h.2 U w vs hI hL).mono λ _ _ k=>k.mono hr⟩
theorem AC.calm{P:Program}{G:Glob}{f:FuncId}{args:List A}{Z:St}{R:A→St→Prop}(h:AC P G.calm f args Z R):AC P G f args Z R:=
 ⟨h.1,λ U w vs hI hL=>(h.2 U w vs (hI.turn rfl) hL).mono λ _ _ k=>by
  rcases k with⟨v,U2,Z2,r,a,b,c,d⟩|⟨chain,_,v,U2,Z2,r,_,_,_,_,h⟩
  ·exact .inl ⟨v,U2,Z2,r,a,b,c.turn rfl,d⟩
  ·exact h.elim⟩
def RF(rd:Option Nat):Fence:={ fn:=λ _=>True,depth:=none,alive:=false,round:=rd}
theorem uH{rd:Option Nat}{n:Nat}{P:Program}{f:FuncId}{args:Array Value}{w:World}{R:Ending→World→Prop}(h:Calls P f args w R):CallsIn (RF rd) n P f args w R:=(callsIn_wide (n:=n)).2 h
theorem yB{rd:Option Nat}{U:Operand→Value}{o:Oper}(h:∀c,o.op≠.defer c):o.semAt rd U=execOp U o:=by
 cases rd with
 |none=>exact Oper.semAt_none U o
 |some l=>exact Oper.semAt_some l U o h
def YC(P:Program)(G:Glob)(l:Nat)(args:List A)(Z:St)(k:A→St→Prop):Prop:=
 ∀U w vs,Inv G U Z w→fy U w args vs→∃fn tmps assign body,(Instr.yield l vs.toArray).run P w= .ok (.round l fn tmps assign body) w∧
  RoundIn (RF none) 0 P l fn tmps assign body w λ e w'=>∃v U' Z' r,e= .returned v∧Ext U w U' w'∧Inv G U' Z' w'∧RepA U' w' r v∧k r Z'
theorem YC.mono{P:Program}{G:Glob}{l:Nat}{args:List A}{Z:St}{R R':A→St→Prop}(h:YC P G l args Z R)(hr:∀r Z',R r Z'→R' r Z'):YC P G l args Z R':=λ U w vs hI hL=>by
 obtain⟨fn,tmps,assign,body,h1,h2⟩:=h U w vs hI hL
 exact⟨fn,tmps,assign,body,h1,h2.mono λ e w' ⟨v,U',Z',r,a,b,c,d,hR⟩=>⟨v,U',Z',r,a,b,c,d,hr r Z' hR⟩⟩
inductive Rc where
 |self
 |load (t:TypeId)
 |fld (s:TypeId) (i:Nat)
def methT(P:Program)(t:TypeId)(name:String):Option (FuncId×Rc):=match P.info? t with
 |some i=>match i.methods.find? (·.name==name)with
  |some m=>match m.path.toList with
   |[]=>(match m.func,P.underlying t with
    |some (f,true),some (.pointer _)=>some (f,.self)
    |some (f,false),some (.pointer e)=>some (f,.load e)
    |some (_,true),_=>none
    |some (f,false),some _=>some (f,.self)
    |_,_=>none)
   |[s]=>(match s.deref,m.func,P.underlying s.struct with
    |true,some (f,true),some (.struct fs)=>(match fs[s.index]? with
     |some fl=>(match P.underlying fl.type with
      |some (.struct _)=>some (f,.fld s.struct s.index)
      |_=>none)
     |none=>none)
    |_,_,_=>none)
   |_=>none
  |none=>none
 |none=>none
def eK(P:Program)(t:TypeId):Option (Nat→Option (Nat×Nat)):=match P.underlying t with
 |some (.struct fs)=>match fs.toList.mapM (λ f=>(P.info? f.type).map λ i=>(f.offset,i.size))with
  |some ps=>some λ i=>ps.toArray[i]?
  |none=>none
 |some (.array _ e)=>match P.info? e with
  |some ie=>some λ i=>some (i*ie.size,ie.size)
  |none=>none
 |_=>none
def gh(P:Program)(Z:St)(t:TypeId)(ps:List (Nat×A))(k:Prop→A→Prop):Prop:=match eO P t,eK P t with
 |some zs,some pl=>match fillA pl zs ps with
  |some cs=>k (zs.all (lk [])=true∧ps.all (λ p=>zi Z p.2)=true) (mU cs)
  |none=>False
 |_,_=>False
def kg(g:Bool)(k:Prop→A→Prop):A→A→Prop
 | .d (.int ik a),.d (.int ik' b)=>if ik=ik' then k True (.d (.int ik (if g then max a b else min a b)))else False
 |_,_=>False
def B4(P:Program)(t:TypeId)(k:Prop→A→Prop):A→Prop
 | .d .nils=>k ((eA P t).isSome=true) (.d (.int .i64 0))
 |_=>False
def f8(P:Program)(Z:St)(b:Builtin)(k:Prop→A→Prop):List A→List TypeId→Prop
 |[x],[t]=>match b with
  | .len=>jH P Z t k x
  | .cap=>B4 P t k x
  |_=>False
 |[x,y],[_,_]=>match b with
  | .min=>kg false k x y
  | .max=>kg true k x y
  |_=>False
 |_,_=>False
def kf(Z:St)(k:Prop→A→Prop):A→Prop
 | .ref id off=>k (dr Z id=true) (.ref id off)
 | .ea x off=>k True (.ea x off)
 | .fn (.func f) a b=>k True (.fn (.func f) a b)
 | .ifc t a=>k True (.ifc t a)
 |_=>False
def rd(P:Program)(Z:St)(e:Operand→A)(op:Op)(k:Prop→A→Prop):Prop:=match op with
 | .move x=>k True (e x)
 | .assign x=>k True (e x)
 | .pick c a b=>gu k (e c) (e a) (e b)
 | .load t a=>fa P Z t k (e a)
 | .fieldAddr t x f=>cK P Z t f k (e x)
 | .field t x f=>iK P t f k (e x)
 | .indexAddr t x i=>cH P Z t k (e x) (e i)
 | .index t x i=>gf P t k (e x) (e i)
 | .binOp op t x y _=>dE P op t k (e x) (e y)
 | .unOp op _ x=>pi op k (e x)
 | .convert s d x=>ew P Z s d k (e x)
 | .slice t x lo hi none=>gd P Z t k (e x) (lo.map e) (hi.map e)
 | .extract x i=>f7 k i (e x)
 | .makeInterface t x=>k (ef P t≠none∧k7 P t=false) (.ifc t (e x))
 | .makeFunc f first cap=>k True (.fn f (first.toList.map e) (cap.toList.map e))
 | .typeAssert x _ t ok=>iU P t ok k (e x)
 | .build t ps=>gh P Z t (ps.toList.map λ p=>(p.1,e p.2)) k
 | .lookup t x i ok=>fz P Z t ok k (e x) (e i)
 | .nilCheck x=>kf Z k (e x)
 | .call c=>match c.callee with
  | .builtin b=>f8 P Z b k (c.args.toList.map e) c.argTypes.toList
  |_=>False
 |_=>False
def jI(P:Program)(G:Glob)(Z:St)(f:A)(args:List A)(k:A→St→Prop):Prop:=match f with
 | .fn (.func g) first cap=>AC P G g (first++args++cap) Z k
 | .fn (.yield l) [] _=>YC P G l args Z k
 |_=>False
def qz(P:Program)(G:Glob)(Z:St)(r:A)(name:String)(args:List A)(k:A→St→Prop):Prop:=match r with
 | .ifc t a=>match methT P t name with
  |some (f,.self)=>AC P G f (a::args) Z k
  |some (f,.load e)=>fa P Z e (λ p x=>p∧AC P G f (x::args) Z k) a
  |some (f,.fld s i)=>cK P Z s i (λ p x=>p∧AC P G f (x::args) Z k) a
  |none=>False
 |_=>False
def pT(P:Program)(Z:St)(t tx:TypeId)(a x:A)(k:Prop→A→St→Prop):Prop:=match x with
 | .d (.int _ n)=>qI P Z t tx a n k
 |x=>gR P Z t tx a x k
def jK(P:Program)(Z:St)(b:Builtin)(args:List A)(ts:List TypeId)(k:A→St→Prop):Prop:=match b with
 | .append=>match args,ts with
  |[a,x],[t,tx]=>pT P Z t tx a x λ p a Z'=>p∧k a Z'
  |_,_=>False
 | .delete=>match args,ts with
  |[m,x],t::_=>jy P Z t m x λ p a Z'=>p∧k a Z'
  |_,_=>False
 | .clear=>match args,ts with
  |[x],[t]=>kG P Z t x λ p a Z'=>p∧k a Z'
  |_,_=>False
 | .copy=>match args,ts with
  |[a,x],[t,tx]=>ko P Z t tx a x λ p a Z'=>p∧k a Z'
  |_,_=>False
 |b=>f8 P Z b (λ p a=>p∧k a Z) args ts
def iq(P:Program)(G:Glob)(Z:St)(e:Operand→A)(op:Op)(k:A→St→Prop):Prop:=match op with
 | .alloc t=>jS P Z t λ p a Z'=>p∧k a Z'
 | .box _ x=>rP Z (e x) λ p a Z'=>p∧k a Z'
 | .buildSlice t n ps=>eE P Z t n (ps.toList.map λ p=>(p.1,e p.2)) λ p a Z'=>p∧k a Z'
 | .makeSlice t l c=>eW P Z t (e l) (e c) λ p a Z'=>p∧k a Z'
 | .store t a x=>je P Z t (e a) (e x) λ p a Z'=>p∧k a Z'
 | .makeMap _ none=>nT Z λ p a Z'=>p∧k a Z'
 | .mapUpdate t m x v=>eV P Z t (e m) (e x) (e v) λ p a Z'=>p∧k a Z'
 | .insert t m x v=>eV P Z t (e m) (e x) (e v) λ p a Z'=>p∧k a Z'
 | .panic x=>(∃t a,e x= .ifc t a)∧G.pan (e x) Z
 | .binOp o t x y ty=>match vf o y with
  |some q=>mR P Z q t k (e x)
  |none=>rd P Z e (.binOp o t x y ty) λ p a=>p∧k a Z
 | .call c=>match c.callee with
  | .value f=>jI P G Z (e f) (c.args.toList.map e) k
  | .invoke r name=>qz P G Z (e r) name (c.args.toList.map e) k
  | .builtin b=>jK P Z b (c.args.toList.map e) c.argTypes.toList k
 |op=>rd P Z e op λ p a=>p∧k a Z

section
variable {P:Program} {U U':gM} {w w':World} {Z:St} {G:Glob}

theorem xj{t:TypeId}{pl:Nat→Option (Nat×Nat)}(h:eK P t=some pl):(∃fs ps,P.underlying t=some (.struct fs)∧fs.toList.mapM (λ f=>(P.info? f.type).map λ i=>(f.offset,i.size))=some ps∧pl=λ i=>ps.toArray[i]?)∨
  ∃n e ie,P.underlying t=some (.array n e)∧P.info? e=some ie∧pl=λ i=>some (i*ie.size,ie.size):=by
 unfold eK at h
 split at h
 ·rename_i fs hu
  split at h
  ·rename_i ps hp;injection h with h;exact .inl ⟨fs,ps,hu,hp,h.symm⟩
  ·cases h
 ·rename_i n e hu
  split at h
  ·rename_i ie hi;injection h with h;exact .inr ⟨n,e,ie,hu,hi,h.symm⟩
  ·cases h
 ·cases h
theorem vb{t:TypeId}{ps:List (Nat×A)}{qs:Array (Nat×Value)}{k:Prop→A→Prop}(hI:Inv G U Z w)(hp:nS U w Z ps qs.toList)(h:gh P Z t ps k):uQ P U w (Instr.build t qs) k:=by
 unfold gh at h
 split at h
 ·rename_i zs pl hz hpl
  split at h
  ·rename_i cs hf
   obtain⟨i,z,hi,hz',rfl⟩:=oW hz
   refine⟨_,_,h,λ ⟨p1,p2⟩=> ?_⟩
   obtain⟨h1,h2⟩:=lM (U:=U) (w:=w) p1
   obtain⟨vs',hfl,hS⟩:=pC hI ps qs.toList _ cs z.cells.toList hp p2 ⟨by simp,h1,h2⟩ hf
   rcases xj hpl with⟨fs,pls,hu,hpls,rfl⟩|⟨n,e,ie,hu,hie,rfl⟩
   ·refine⟨_,run_build (P:=P) w t qs vs'.toArray (by
     unfold Program.built
     simp only[hi,hu,hz',hpls]
     simpa using hfl),lS hS.1 (λ i v hv=>hS.2.1 v (bh hv)) hS.2.2⟩
   ·refine⟨_,run_build (P:=P) w t qs vs'.toArray (by
     unfold Program.built
     simp only[hi,hu,hz',hie]
     simpa using hfl),lS hS.1 (λ i v hv=>hS.2.1 v (bh hv)) hS.2.2⟩
  ·exact h.elim
 ·exact h.elim

def BJ(P:Program)(U:gM)(w:World)(s:Sem Next)(k:Prop→A→Prop):Prop:=
 ∃p a,k p a∧(p→∃v,s.run P w= .ok (.value v) w∧RepA U w a v)
theorem uQ.next{s:Sem Value}{k:Prop→A→Prop}(h:uQ P U w s k):BJ P U w (do pure (.value (←s))) k:=by
 obtain⟨p,a,hk,hp⟩:=h
 exact⟨p,a,hk,λ q=>let ⟨v,h1,h2⟩:=hp q;⟨v,by simp [h1],h2⟩⟩
theorem qV{e:Operand→A}{ve:Operand→Value}(hev:∀x,RepA U w (e x) (ve x)):∀(ps:List (Nat×Operand)),nS U w Z (ps.map λ p=>(p.1,e p.2)) (ps.map λ p=>(p.1,ve p.2))
 |[]=>trivial
 |(_,x)::ps=>⟨rfl,hev x,qV hev ps⟩
theorem xn{e:Operand→A}{ve:Operand→Value}(hev:∀x,RepA U w (e x) (ve x))(xs:List Operand):fy U w (xs.map e) (xs.map ve):=
 ⟨by simp,λ i x v hx hv=>by
  simp only[aN,bj]at hx hv
  obtain⟨o,h1,rfl⟩:=hx
  obtain⟨o',h2,rfl⟩:=hv
  rw[h1]at h2;injection h2 with h2;subst h2;exact hev o⟩
theorem zq{e:Operand→A}{ve:Operand→Value}(hev:∀x,RepA U w (e x) (ve x))(xs:Array Operand):∃vs:List Value,xs.map ve=vs.toArray∧fy U w (xs.toList.map e) vs:=
 ⟨xs.toList.map ve,by apply Array.ext';simp,xn hev _⟩

theorem oM{g:Bool}{k:Prop→A→Prop}{x y:A}{vx vy:Value}(hx:RepA U w x vx)(hy:RepA U w y vy)(h:kg g k x y):
  ∃ik a b,vx= .int ik a∧vy= .int ik b∧k True (.d (.int ik (if g then max a b else min a b))):=by
 unfold kg at h
 split at h
 ·split at h
  ·rename_i e;subst e
   cases hx with|d hx=>cases hy with|d hy=>cases hx;cases hy;exact⟨_,_,_,rfl,rfl,h⟩
  ·exact h.elim
 ·exact h.elim
theorem sq {c:Call} {b:Builtin} {ty:TypeId} {e:Operand→A} {ve:Operand→Value} {k:Prop→A→Prop} (hI:Inv G U Z w) (hev:∀x,RepA U w (e x) (ve x)) (hc:c.callee= .builtin b)
  (h:f8 P Z b k (c.args.toList.map e) c.argTypes.toList):BJ P U w (do let d←resolve ve c ty;invoke d.target d.args) k:=by
 obtain⟨callee,⟨args⟩,⟨argTypes⟩⟩:=c
 obtain rfl:callee= .builtin b:=hc
 unfold f8 at h
 split at h
 ·rename_i x t hx ht
  match args,hx with
  |[o],hx=>
   have hx':[e o]=[x]:=hx
   injection hx' with hx';subst hx'
   have ht':argTypes=[t]:=ht
   subst ht'
   split at h
   ·have:=(yR (ty:=ty) hI (hev o) h).next
    simpa [resolve,invoke,builtin]using this
   ·unfold B4 at h
    split at h
    ·rename_i hx0
     have hr:=hev o
     rw[hx0]at hr
     have hu:ve o= .slice none 0 0:=by generalize ve o=u at hr;cases hr with|d hr=>cases hr;rfl
     refine⟨_,_,h,λ hp=>⟨.int .i64 0,?_,.d (.int .i64 0)⟩⟩
     obtain⟨e,he⟩:=bV.1 hp
     obtain⟨ht,-⟩:=eQ he
     simp [resolve,invoke,builtin,Builtin.cap_,hu,run_underlying ht]
     rfl
    ·exact h.elim
   ·exact h.elim
 ·rename_i x y t u hx ht
  match args,hx with
  |[o,o'],hx=>
   have hx':[e o,e o']=[x,y]:=hx
   injection hx' with hx1 hx2;subst hx1
   injection hx2 with hx2;subst hx2
   have ht':argTypes=[t,u]:=ht
   subst ht'
   split at h
   ·obtain⟨ik,a,b,e1,e2,h3⟩:=oM (hev o) (hev o') h
    refine⟨_,_,h3,λ _=>⟨.int ik (min a b),?_,.d (.int ik _)⟩⟩
    simp [resolve,invoke,builtin,Builtin.min_,Builtin.min2,e1,e2]
    split<;> omega
   ·obtain⟨ik,a,b,e1,e2,h3⟩:=oM (hev o) (hev o') h
    refine⟨_,_,h3,λ _=>⟨.int ik (max a b),?_,.d (.int ik _)⟩⟩
    simp [resolve,invoke,builtin,Builtin.max_,Builtin.max2,e1,e2]
    split<;> omega
   ·exact h.elim
 ·exact h.elim

theorem yQ{k:Prop→A→Prop}{a:A}{v:Value}{x:Operand}{ve:Operand→Value}{o:Oper}(ho:o.op= .nilCheck x)(hv:ve x=v)(hI:Inv G U Z w)(ha:RepA U w a v)(h:kf Z k a):BJ P U w (execOp ve o) k:=by
 unfold kf at h
 split at h
 ·rename_i id off
  refine⟨_,_,h,λ hp=> ?_⟩
  obtain⟨b,hb,rfl⟩:=pg hI hp ha
  exact⟨_,by simp only[execOp,ho,hv];rfl,.ref _ hb⟩
 ·refine⟨_,_,h,λ _=>⟨v,?_,ha⟩⟩
  cases ha
  simp only[execOp,ho,hv];rfl
 ·refine⟨_,_,h,λ _=>⟨v,?_,ha⟩⟩
  cases ha
  simp only[execOp,ho,hv];rfl
 ·refine⟨_,_,h,λ _=>⟨v,?_,ha⟩⟩
  cases ha
  simp only[execOp,ho,hv];rfl
 ·exact h.elim
theorem tF{o:Oper}{e:Operand→A}{ve:Operand→Value}{k:Prop→A→Prop}(hI:Inv G U Z w)(hev:∀x,RepA U w (e x) (ve x))(h:rd P Z e o.op k):BJ P U w (execOp ve o) k:=by
 obtain⟨dst,op,type,pos,after,guard⟩:=o
 simp only at h
 cases op<;> simp only[rd]at h<;> simp only[execOp]<;> first
  |exact h.elim
  |exact⟨_,_,h,λ _=>⟨_,rfl,hev _⟩⟩
  |skip
 case pick c a b=>
  obtain⟨p,a',hk,hp⟩:=pY (P:=P) (hev c) (hev a) (hev b) h
  refine⟨p,a',hk,λ q=>let ⟨v,h1,h2⟩:=hp q;⟨v,?_,h2⟩⟩
  simp only[Sem.run_bind]at h1 ⊢
  cases hr:(asBool (ve c)).run P w with
  |halt x w'=>rw[hr]at h1;simp at h1
  |ok b w'=>
   rw[hr]at h1
   simp only[Result.andThen_ok,Sem.run_pure,Result.ok.injEq]at h1 ⊢
   exact⟨by rw[h1.1],h1.2⟩
 case build t ps=>
  have hp:=qV (Z:=Z) hev ps.toList
  refine(vb (qs:=ps.map λ (i,x)=>(i,ve x)) hI ?_ h).next
  simpa using hp
 case load t a=>exact(mB hI (hev a) h).next
 case binOp op t x y _=>exact(yT x y (hev x) (hev y) h).next
 case unOp op _ x=>exact(AV (hev x) h).next
 case convert s d x=>exact(sn hI (hev x) h).next
 case makeInterface t x=>
  refine uQ.next ⟨_,_,h,λ ⟨p1,p2⟩=>⟨.iface t (ve x),?_,.ifc t (hev x)⟩⟩
  cases hu:P.underlying t with
  |none=>simp [ef,hu]at p1
  |some u=>
   simp only[Instr.makeInterface,Sem.run_bind,run_underlying hu,Result.andThen_ok]
   cases u<;> first|rfl|(simp [k7,hu]at p2)
 case makeFunc f first cap=>
  obtain⟨vs,e1,h1⟩:=zq hev first
  obtain⟨us,e2,h2⟩:=zq hev cap
  exact⟨_,_,h,λ _=>⟨.func f vs.toArray us.toArray,by simp [Instr.makeFunc,e1,e2],.fn f _ _ vs us h1.1 h2.1 h1.2 h2.2⟩⟩
 case slice t x lo hi mx=>
  cases mx with
  |some m=>exact h.elim
  |none=>
   refine(u5 (vlo:=lo.map ve) (vhi:=hi.map ve) hI (hev x) (λ a ha=> ?_) (λ ha=> ?_) (λ a ha=> ?_) (λ ha=> ?_) h).next
   ·cases lo with
    |none=>cases ha
    |some o=>injection ha with ha;subst ha;exact⟨_,rfl,hev o⟩
   ·cases lo with
    |none=>rfl
    |some o=>cases ha
   ·cases hi with
    |none=>cases ha
    |some o=>injection ha with ha;subst ha;exact⟨_,rfl,hev o⟩
   ·cases hi with
    |none=>rfl
    |some o=>cases ha
 case fieldAddr t x f=>exact(lv hI (hev x) h).next
 case field t x f=>exact(u9 (hev x) h).next
 case indexAddr t x i=>exact(p8 hI (hev x) (hev i) h).next
 case index t x i=>exact(u7 (hev x) (hev i) h).next
 case typeAssert x xt t ok=>exact(tH (hev x) h).next
 case lookup t x i ok=>exact(tG hI (hev x) (hev i) h).next
 case nilCheck x=>
  have:=yQ (o:=⟨dst,.nilCheck x,type,pos,after,guard⟩) (P:=P) rfl rfl hI (hev x) h
  simpa only[execOp]using this
 case extract x i=>exact(sk (hev x) h).next
 case call c=>
  split at h
  ·rename_i b hb;exact sq hI hev hb h
  ·exact h.elim
end
end Go.Ab
