import Derived.Test.YtdpdbokicanpoaaGreatDoorAbK
import Derived.Test.YtdpdbokicanpoaaGreatDoorAbOps
import Derived.Deep.LoopGhost
set_option linter.unusedSimpArgs false
set_option linter.unusedVariables false
set_option maxHeartbeats 64000000
namespace Go.Ab
open Go Go.RowKit

def kE(fr:Fr)(dst:Option Tmp)(x:A):Fr:=match dst with
 |some d=>fr.set d x
 |none=>fr
def fW(ops:Array Oper)(fr:Fr)(j:Nat)(b:Bool):Option Bool:=match (ops[j]?).bind (·.dst)with
 |some d=>match fr.getD d .o with
  | .d (.bool x)=>some (x==b)
  | .grd c (.d (.bool x))=>some (c&&(x==b))
  | .grd false _=>some false
  |_=>none
 |none=>none
def isCmp:BinOp→Bool
 | .eql| .neq| .lss| .leq| .gtr| .geq=>true
 |_=>false
def jw(P:Program)(o:BinOp)(t:TypeId):D→D→Option Bool
 | .int ik a,.int jk b=>if ik=jk then(match o with
  | .eql=>some (a==b)
  | .neq=>some (a !=b)
  | .lss=>some (decide (a<b))
  | .leq=>some (decide (a≤b))
  | .gtr=>some (decide (b<a))
  | .geq=>some (decide (b≤a))
  |_=>none)else none
 | .str a,.str b=>match o with
  | .eql=>some (a==b)
  | .neq=>some (!(a==b))
  | .lss=>some (Op.bytesLess a b)
  | .leq=>some (Op.bytesLess a b||a==b)
  | .gtr=>some (!(Op.bytesLess a b||a==b))
  | .geq=>some (!Op.bytesLess a b)
  |_=>none
 | .bool a,.bool b=>if mL P t=true then(match o with
  | .eql=>some (a==b)
  | .neq=>some (!(a==b))
  |_=>none)else none
 | .agg xs,.agg ys=>match kL P t with
  |some ks=>match jg ks xs ys with
   |some r=>match o with
    | .eql=>some r
    | .neq=>some (!r)
    |_=>none
   |none=>none
  |none=>none
 | .nilp,.nilp=>if yW P t=true then(match o with
  | .eql=>some true
  | .neq=>some false
  |_=>none)else none
 |_,_=>none
theorem cmpD_rd{P:Program}{o:BinOp}{t:TypeId}{a b:D}{r:Bool}(h:jw P o t a b=some r):dE P o t (λ p x=>p∧x= .d (.bool r)) (.d a) (.d b):=by
 unfold jw at h
 split at h
 ·split at h
  ·rename_i e;subst e
   cases o<;> first|(injection h with h;subst h;simp [dE,fc];done)|(cases h)
  ·cases h
 ·cases o<;> first|(injection h with h;subst h;simp [dE,lT];done)|(cases h)
 ·split at h
  ·rename_i hb
   cases o<;> first|(injection h with h;subst h;simp [dE,hb];done)|(cases h)
  ·cases h
 ·split at h
  ·rename_i ks hk
   split at h
   ·rename_i q hq
    cases o<;> first|(injection h with h;subst h;simp [dE,hk,hq];done)|(cases h)
   ·cases h
  ·cases h
 ·split at h
  ·rename_i hb
   cases o<;> first|(injection h with h;subst h;simp [dE,hb];done)|(cases h)
  ·cases h
 ·cases h
def iT(P:Program)(o:BinOp)(t:TypeId)(k:Prop→A→Prop)(a b:A):Prop:=match isCmp o,a,b with
 |true,.d a,.d b=>k ((jw P o t a b).isSome=true) (.d (.bool ((jw P o t a b).getD false)))
 |_,a,b=>dE P o t k a b
def Dc:Operand→Bool
 | .const (.slice none 0 0)=>true
 |_=>false
def nt(P:Program)(o:BinOp)(t:TypeId)(k:Prop→A→Prop)(a b:A):Prop:=match vf o (.const (.slice none 0 0)),a,b with
 |some q,.d .nils,.d .nils=>k (lB P t=true) (.d (.bool q.2))
 |some q,.d (.sl _ (_::_)),.d .nils=>k (lB P t=true) (.d (.bool (!q.2)))
 |_,_,_=>k False .o
theorem nilS_eq{y:Operand}(h:Dc y=true):y= .const (.slice none 0 0):=by
 unfold Dc at h
 split at h
 ·rfl
 ·cases h
theorem rW{P:Program}{o:BinOp}{t:TypeId}{k:Prop→A→Prop}{a b:A}(h:nt P o t k a b):∃p x,k p x∧∀k':Prop→A→Prop,k' p x→nt P o t k' a b:=by
 unfold nt at h ⊢
 split at h<;> exact⟨_,_,h,λ _ h=>h⟩
theorem xh{P:Program}{G:Glob}{U:gM}{Z:St}{w:World}{o:BinOp}{t:TypeId}{k:Prop→A→Prop}{a b:A}{u v:Value}(x:Operand){y:Operand}(hy:Dc y=true)(hI:Inv G U Z w)(ha:RepA U w a u)(hb:RepA U w b v)(h:nt P o t k a b):
  uQ P U w (do eqGuard o t x y u v;binOp o t u v) k:=by
 obtain rfl:=nilS_eq hy
 unfold nt at h
 split at h
 ·rename_i q hq
  cases hb with|d hb=>cases hb with|nils=>
  refine⟨_,_,h,λ hp=> ?_⟩
  have h1:q.1=false:=by cases o<;> first|(injection hq with hq;subst hq;rfl)|cases hq
  obtain⟨r,hr,h2⟩:=nb (k:=λ a _=>a= .d (.bool q.2)) (Z:=Z) x (λ o=>match o with| .const v=>v|_=> .slice none 0 0) (λ _=>rfl) hq hI ha (by
   unfold mR
   rw[h1]
   exact⟨hp,rfl⟩)
  injection h2 with h2
  injection h2 with h2
  subst h2
  exact⟨_,hr,.d (.bool _)⟩
 ·rename_i q sz z zs hq
  cases hb with|d hb=>cases hb with|nils=>
  refine⟨_,_,h,λ hp=> ?_⟩
  have h1:q.1=false:=by cases o<;> first|(injection hq with hq;subst hq;rfl)|cases hq
  obtain⟨r,hr,h2⟩:=nb (k:=λ a _=>a= .d (.bool (!q.2))) (Z:=Z) x (λ o=>match o with| .const v=>v|_=> .slice none 0 0) (λ _=>rfl) hq hI ha (by
   unfold mR
   rw[h1]
   refine⟨hp,λ b hb=> ?_⟩
   cases b with
   |true=>exact absurd (hb rfl) (by simp)
   |false=>cases q.2<;> rfl)
  injection h2 with h2
  injection h2 with h2
  subst h2
  exact⟨_,hr,.d (.bool _)⟩
 ·exact⟨_,_,h,λ hp=>hp.elim⟩
def At(P:Program)(Z:St)(e:Operand→A)(op:Op)(k:Prop→A→Prop):Prop:=match op with
 | .binOp o t x y _=>if Dc y=true then nt P o t k (e x) (e y)else iT P o t k (e x) (e y)
 |op=>rd P Z e op k
def kI(P:Program)(Z:St)(e:Operand→A)(op:Op)(k:Prop→A→Prop):Prop:=match op with
 | .pick x a b=>gu (λ p z=>k ((e x).cond=true∧p) z) (e x).strip (e a) (e b)
 |op=>At P Z (λ x=>(e x).strip) op λ p z=>k ((op.operands.toList.all λ x=>(e x).cond)=true∧p) z
def A.ungrd:A→A| .grd c a=>bif c then a.ungrd else .o|a=>a
def uU(P:Program)(G:Glob)(Z:St)(e:Operand→A)(c:Bool)(op:Op)(k:A→St→Prop):Prop:=
 (c=true→iq P G Z (λ x=>(e x).ungrd) op k)∧(c=false→k .o Z)
def qG(P:Program)(G:Glob)(Z:St)(e:Operand→A)(c:Bool)(op:Op)(k:A→St→Prop):Prop:=match op with
 | .call cl=>match cl.callee with
  | .value f=>(∃d,(c=true→(op.operands.toList.all λ x=>(e x).cond)=true∧jI P G Z (e f).strip (cl.args.toList.map λ x=>(e x).strip) λ r Z'=>r= .d d∧Z'=Z)∧k (.grd c (.d d)) Z)∨uU P G Z e c op k
  | .builtin .append=>uU P G Z e c op k
  | .builtin .delete=>uU P G Z e c op k
  | .builtin .clear=>uU P G Z e c op k
  | .builtin .copy=>uU P G Z e c op k
  | .invoke r name=>(∃d,(c=true→(op.operands.toList.all λ x=>(e x).cond)=true∧qz P G Z (e r).strip name (cl.args.toList.map λ x=>(e x).strip) λ r Z'=>r= .d d∧Z'=Z)∧k (.grd c (.d d)) Z)∨uU P G Z e c op k
  |_=>kI P Z e op λ p a=>(c=true→p)∧k (.grd c a) Z
 | .alloc _=>uU P G Z e c op k
 | .box _ _=>uU P G Z e c op k
 | .buildSlice _ _ _=>uU P G Z e c op k
 | .makeSlice _ _ _=>uU P G Z e c op k
 | .store _ _ _=>uU P G Z e c op k
 | .makeMap _ _=>uU P G Z e c op k
 | .mapUpdate _ _ _ _=>uU P G Z e c op k
 | .insert _ _ _ _=>uU P G Z e c op k
 |op=>kI P Z e op λ p a=>(c=true→p)∧k (.grd c a) Z
def gX(P:Program)(G:Glob)(ops:Array Oper):List Oper→(Fr→St→Prop)→Fr→St→Prop
 |[],K,fr,Z=>K fr Z
 |o::rest,K,fr,Z=>match o.guard with
  |none=>iq P G Z (ev G fr) o.op λ x Z'=>gX P G ops rest K (kE fr o.dst x) Z'
  |some (j,b)=>match fW ops fr j b with
   |some c=>qG P G Z (ev G fr) c o.op λ x Z'=>gX P G ops rest K (kE fr o.dst x) Z'
   |none=>False

section
variable {P:Program} {U U':gM} {w w':World} {Z:St} {G:Glob} {rn:Option Nat}

def lA(B:Nat)(w:World):List Deferred→Prop
 |[]=>True
 |d::ds=>(∃r,d={ target:= .collected r,args:= #[]}∧B≤r∧w.heap[r]? =some (.deferred (some []))∧∀d'∈ds,d'.target≠.collected r)∧lA B w ds
theorem lA.keep{B:Nat}:∀{ds:List Deferred},lA B w ds→(∀(r:Nat) (ds:Option (List Deferred)),w.heap[r]? =some (Obj.deferred ds)→w'.heap[r]? =some (Obj.deferred ds))→lA B w' ds
 |[],_,_=>trivial
 |d::ds,⟨⟨r,h1,h2,h3,h4⟩,h⟩,hk=>⟨⟨r,h1,h2,hk r _ h3,h4⟩,lA.keep h hk⟩
theorem Inv.deferred(hI:Inv G U Z w)(hx:Ext U w U' w')(r:Nat)(ds:Option (List Deferred))(h:w.heap[r]? =some (.deferred ds)):w'.heap[r]? =some (.deferred ds):=by
 rw[hx.block r (cL.1 h).1 (λ hm=>hI.own r hm ds h)];exact h
structure Df where
 B:Nat
 T:List Deferred
 mks:Bool
 ks:List (Nat×Value)
def Df.at(B:Nat):Df:=⟨B,[],true,[]⟩
def xV(b:Df)(w:World)(a:Act):Prop:=(∃ms,a.defers=ms++b.T∧lA b.B w ms∧(b.mks=false→ms=[]))∧∀p∈b.ks,a.tmps[p.1]? =some p.2
def mT(b:Df)(dst:Option Tmp):Prop:=∀d,dst=some d→∀p∈b.ks,p.1≠d
theorem xV.ext{b:Df}{a:Act}(h:xV b w a)(hI:Inv G U Z w)(hx:Ext U w U' w'):xV b w' a:=
 let ⟨⟨ms,h1,h2,h3⟩,h4⟩:=h
 ⟨⟨ms,h1,h2.keep (hI.deferred hx),h3⟩,h4⟩
def dl(b:Df)(U:gM)(w:World)(fr:Fr)(a:Act):Prop:=xV b w a∧fy U w fr a.tmps.toList
theorem dl.ext{b:Df}{fr:Fr}{a:Act}(h:dl b U w fr a)(hI:Inv G U Z w)(hx:Ext U w U' w'):dl b U' w' fr a:=⟨h.1.ext hI hx,h.2.ext hx⟩
theorem xV.put{b:Df}{a:Act}(h:xV b w a)(dst:Option Tmp)(v:Value)(hd:mT b dst):xV b w (a.put dst v):=by
 cases dst with
 |none=>exact h
 |some d=>
  refine⟨h.1,λ p hp=> ?_⟩
  have hne:=hd d rfl p hp
  simp only[Act.put]
  rw[Array.getElem?_setIfInBounds,if_neg (λ e=>hne e.symm)]
  exact h.2 p hp
theorem dl.put{b:Df}{fr:Fr}{a:Act}(h:dl b U w fr a)(dst:Option Tmp){x:A}{v:Value}(hd:mT b dst)(hx:RepA U w x v):dl b U w (kE fr dst x) (a.put dst v):=by
 cases dst with
 |none=>exact h
 |some d=>
  refine⟨h.1.put (some d) v hd,by simp [Ab.kE,Act.put,h.2.1],λ i y u hy hu=> ?_⟩
  simp only[Ab.kE,Act.put,Array.toList_setIfInBounds]at hy hu
  rw[aR]at hy hu
  split at hy
  ·rename_i e;subst e
   split at hy
   ·rename_i hl
    rw[if_pos rfl,if_pos (by rw[←h.2.1];exact hl)]at hu
    injection hy with hy;injection hu with hu;subst hy;subst hu;exact hx
   ·cases hy
  ·rename_i hne
   rw[if_neg hne]at hu
   exact h.2.2 i y u hy hu
theorem yx{fr:Fr}{tmps:Array Value}(h:fy U w fr tmps.toList)(t:Nat):RepA U w (fr.getD t .o) (tmps.getD t undef):=by
 by_cases ht:t<fr.length
 ·have ht':t<tmps.size:=by have:=h.1;simp at this;omega
  have e2:tmps.getD t undef=tmps[t]:=by simp [Array.getD,ht']
  rw[e2]
  exact h.2 t _ _ (fv ht) (by simp [ht'])
 ·have e:fr.getD t .o= .o:=by simp [List.getD,bm (show fr.length≤t by omega)]
  rw[e];exact .o _
theorem dl.slot{b:Df}{fr:Fr}{a:Act}(h:dl b U w fr a)(t:Nat):RepA U w (fr.getD t .o) (a.tmps.getD t undef):=yx h.2 t
theorem xH{b:Df}(hI:Inv G U Z w){fr:Fr}{a:Act}(h:dl b U w fr a)(x:Operand):RepA U w (ev G fr x) (a.eval x):=by
 cases x with
 |tmp t=>exact h.slot t
 |const v=>exact tB _ _ _
 |global g=>
  simp only[ev]
  cases hg:G.g g with
  |none=>exact .o _
  |some x=>exact hI.glob g x hg
 |func f=>exact .fn (.func f) [] [] [] [] rfl rfl (λ i x v hx=>by simp at hx) (λ i x v hx=>by simp at hx)

def oH(G:Glob)(U:gM)(w:World)(a:Act)(dst:Option Tmp)(k:A→St→Prop)(a':Act)(w':World):Prop:=
 ∃x v U' Z',a'=a.put dst v∧Ext U w U' w'∧Inv G U' Z' w'∧RepA U' w' x v∧k x Z'

theorem su{o:Oper}{ve:Operand→Value}{n:Next}(h:(execOp ve o).run P w= .ok n w')(hn:∀d,n≠.defer d):∀c,o.op≠.defer c:=λ c hc=>by
 simp only[execOp,hc,Sem.run_bind]at h
 cases hr:(resolve ve c o.type).run P w with
 |halt x w'=>rw[hr]at h;simp at h
 |ok d w''=>rw[hr]at h;simp at h;exact hn d h.1.symm
theorem nU{o:Oper}{a:Act}{K:Act→World→Prop}{Q:Exit→Act→World→Prop}{n:Next}(h:(execOp a.eval o).run P w= .ok n w')(hn:∀d,n≠.defer d)(hK:o.uponIn (RF rn) 0 P a K Q (.ok n w')):o.wpIn (RF rn) 0 P a w K Q:=by
 refine⟨λ _ _=>trivial,?_⟩
 rw[show(RF rn).round=rn from rfl,yB (su h hn),h];exact hK
theorem lr{o:Oper}{a:Act}{K:Act→World→Prop}{Q:Exit→Act→World→Prop}{v:Value}(h:(execOp a.eval o).run P w= .ok (.value v) w')(hK:K (a.put o.dst v) w'):o.wpIn (RF rn) 0 P a w K Q:=by
 exact nU h (λ d hd=>by cases hd) hK
theorem s9{o:Oper}{a:Act}{K:Act→World→Prop}{Q:Exit→Act→World→Prop}(h:(execOp a.eval o).run P w= .ok .skip w')(hK:K (a.put o.dst undef) w'):o.wpIn (RF rn) 0 P a w K Q:=by
 exact nU h (λ d hd=>by cases hd) hK

theorem yg {o:Oper} {a:Act} {x:Operand} {v:Value} {K:Act→World→Prop} {Q:Exit→Act→World→Prop} (ho:o.op= .panic x) (hv:a.eval x=v) (hr:(Instr.panic v).run P w= .halt (.panic v) w)
  (hq:Q (.panic [{ v,recovered:=false}]) a w):o.wpIn (RF rn) 0 P a w K Q:=by
 refine⟨λ _ _=>trivial,?_⟩
 rw[show(RF rn).round=rn from rfl,yB (λ c hc=>by rw[ho]at hc;cases hc)]
 have he:(execOp a.eval o).run P w= .halt (.panic v) w:=by simp [execOp,ho,hv,hr]
 rw[he];exact hq
def PQ(G:Glob)(U:gM)(w:World)(a:Act)(Q:Exit→Act→World→Prop):Prop:=∀chain w',Pan G U w chain w'→Q (.panic chain) a w'
theorem rL{f:FuncId}{args:List A}{vs:List Value}{k:A→St→Prop}(hI:Inv G U Z w)(hL:fy U w args vs)(h:AC P G f args Z k):
  (callFunc f vs.toArray).run P w= .ok (.enter f vs.toArray) w∧Calls P f vs.toArray w (kA P G U w k):=by
 obtain⟨hcall,h⟩:=h
 refine⟨?_,h U w vs hI hL⟩
 unfold aG at hcall
 split at hcall
 ·rename_i fn hfn
  simp only[aB,bne_iff_ne,ne_eq]at hcall
  obtain⟨hn,hb⟩:=hcall
  have hbn:¬fn.body=none:=by intro hb';rw[hb']at hb;simp at hb
  simp [callFunc,hfn,hn,hbn]
 ·cases hcall
theorem rQ {o:Oper} {a:Act} {f:FuncId} {vs:Array Value} {k:A→St→Prop} {K:Act→World→Prop} {Q:Exit→Act→World→Prop} (he:(execOp a.eval o).run P w= .ok (.enter f vs) w) (h:Calls P f vs w (kA P G U w k))
  (hP:PQ G U w a Q) (hK:∀a' w',oH G U w a o.dst k a' w'→K a' w'):o.wpIn (RF rn) 0 P a w K Q:=by
 refine nU he (λ d hd=>by cases hd) ⟨(λ h=>by cases h),uH (Calls.mono h ?_)⟩
 rintro e w' (⟨v,U',Z',r,rfl,a1,a2,a3,a4⟩|⟨chain,rfl,hp⟩)
 ·exact hK _ _ ⟨r,v,U',Z',rfl,a1,a2,a3,a4⟩
 ·exact hP _ _ hp
theorem ke{as bs:List A}{vs us:List Value}(h:fy U w as vs)(k:fy U w bs us):fy U w (as++bs) (vs++us):=by
 refine⟨by rw[aF,aF,h.1,k.1],λ i x v hx hv=> ?_⟩
 by_cases h1:i<as.length
 ·rw[aq h1]at hx
  rw[aq (by have:=h.1;omega)]at hv
  exact h.2 i x v hx hv
 ·rw[az (by omega)]at hx
  rw[az (by have:=h.1;omega),←h.1]at hv
  exact k.2 _ x v hx hv
theorem uO{c:Call}{ve:Operand→Value}:c.args.map ve=(c.args.toList.map ve).toArray:=by apply Array.ext';simp
theorem Ag {o:Oper} {c:Call} {f:Operand} {fA:A} {args:List A} {a:Act} {k:A→St→Prop} {K:Act→World→Prop} {Q:Exit→Act→World→Prop} (hI:Inv G U Z w) (ho:o.op= .call c) (hc:c.callee= .value f) (hf:RepA U w fA (a.eval f))
  (hargs:fy U w args (c.args.toList.map a.eval)) (h:jI P G Z fA args k) (hP:PQ G U w a Q) (hK:∀a' w',oH G U w a o.dst k a' w'→K a' w'):o.wpIn (RF rn) 0 P a w K Q:=by
 have he:execOp a.eval o=(do let d←resolve a.eval c o.type;invoke d.target d.args):=by simp only[execOp,ho]
 unfold jI at h
 split at h
 ·rename_i g first cap
  generalize hv:a.eval f=u at hf
  cases hf with
  |fn _ _ _ vs us l1 l2 r1 r2=>
   obtain⟨h1,h2⟩:=rL hI (ke (ke ⟨l1,r1⟩ hargs) ⟨l2,r2⟩) h
   refine rQ (vs:=(vs++c.args.toList.map a.eval++us).toArray) ?_ h2 hP hK
   rw[he]
   simpa [resolve,hc,Deferred.ofValue,hv,invoke,uO]using h1
 ·rename_i l cap
  generalize hv:a.eval f=u at hf
  cases hf with
  |fn _ _ _ vs us l1 l2 r1 r2=>
   obtain rfl:vs=[]:=bz l1.symm
   obtain⟨fn,tmps,assign,body,h1,h2⟩:=h U w _ hI hargs
   refine nU (n:= .round l fn tmps assign body) (w':=w) ?_ (λ d hd=>by cases hd) ⟨(λ h=>by cases h),RoundIn.mono h2 ?_⟩
   ·rw[he]
    simpa [resolve,hc,Deferred.ofValue,hv,invoke,uO]using h1
   ·rintro e w' ⟨v,U',Z',r,rfl,a1,a2,a3,a4⟩
    exact hK _ _ ⟨r,v,U',Z',rfl,a1,a2,a3,a4⟩
 ·exact h.elim
theorem xr{t:TypeId}{v u:Value}(h:(Instr.loadAt t v).run P w= .ok u w):∃a,v= .pointer (some a)∧(loadVar t a).run P w= .ok u w:=by
 cases v with
 |pointer a=>
  cases a with
  |none=>simp [Instr.loadAt,Instr.sureAddr]at h
  |some a=>exact⟨a,rfl,by simpa [Instr.loadAt,Instr.sureAddr]using h⟩
 |_=>simp [Instr.loadAt,Instr.sureAddr]at h
theorem yC(ts:Array TypeId)(t:TypeId)(a:Addr)(x y:String):(Builtin.ssaWrapNilChk_ ts t #[.pointer (some a),strVal x,strVal y]).run P w= .ok (.pointer (some a)) w:=rfl
theorem pe {t:TypeId} {name:String} {f:FuncId} {ld:Rc} (h:methT P t name=some (f,ld)) (n:Nat) (v u:Value)
  (hl:match ld with| .self=>u=v| .load e=>(Instr.loadAt e v).run P w= .ok u w| .fld s i=>(Instr.fieldAt s v i).run P w= .ok u w):(method (n+1) t v name).run P w= .ok (f,u) w:=by
 unfold methT at h
 split at h
 case h_2=>cases h
 rename_i i hi
 split at h
 case h_2=>cases h
 rename_i m hm
 split at h
 ·rename_i hp'
  have hp2:m.path= #[]:=by simpa using hp'
  split at h
  ·rename_i g e hf hu
   cases h
   subst hl
   simp [method,typeInfo,hi,hm,hp',hf,follow,receiverAt,run_underlying hu,Place.get]
  ·rename_i g e hf hu
   cases h
   obtain⟨a,rfl,hl2⟩:=xr hl
   simp [method,typeInfo,hi,hm,hp',hf,follow,receiverAt,run_underlying hu,Place.get,hp2,yC,asAddr,hl2]
  ·cases h
  ·rename_i g u' hne hf hu
   cases h
   subst hl
   cases u'<;> first
    |(simp [method,typeInfo,hi,hm,hp',hf,follow,receiverAt,run_underlying hu,Place.get];done)
    |exact(hne _ rfl).elim
  ·cases h
 ·rename_i s hp'
  split at h
  ·rename_i g fs hd hf hu
   split at h
   ·rename_i fl hfl
    split at h
    ·rename_i fs' hu2
     cases h
     simp only[Instr.fieldAt,Sem.run_bind,run_underlying hu,Result.andThen_ok,hfl]at hl
     cases v with
     |pointer a=>
      cases a with
      |none=>simp [Instr.sureAddr]at hl
      |some a=>
       simp only[Instr.sureAddr,Sem.run_pure,Result.andThen_ok]at hl
       cases hfp:(fieldPlace a fl).run P w with
       |halt x w'=>rw[hfp]at hl;simp at hl
       |ok b w'=>
        rw[hfp]at hl
        simp only[Result.andThen_ok,Result.ok.injEq]at hl
        obtain⟨rfl,rfl⟩:=hl
        simp [method,typeInfo,hi,hm,hp',hf,follow,hd,receiverAt,run_underlying hu,run_underlying hu2,hfl,Place.get,asAddr,hfp]
     |_=>simp [Instr.sureAddr]at hl
    ·cases h
   ·cases h
  ·cases h
 ·cases h
theorem Ah {o:Oper} {c:Call} {r:Operand} {name:String} {rA:A} {args:List A} {a:Act} {k:A→St→Prop} {K:Act→World→Prop} {Q:Exit→Act→World→Prop} (hI:Inv G U Z w) (ho:o.op= .call c) (hc:c.callee= .invoke r name) (hr:RepA U w rA (a.eval r))
  (hargs:fy U w args (c.args.toList.map a.eval)) (h:qz P G Z rA name args k) (hP:PQ G U w a Q) (hK:∀a' w',oH G U w a o.dst k a' w'→K a' w'):o.wpIn (RF rn) 0 P a w K Q:=by
 have he:execOp a.eval o=(do let d←resolve a.eval c o.type;invoke d.target d.args):=by simp only[execOp,ho]
 unfold qz at h
 split at h
 case h_2=>exact h.elim
 rename_i t x
 generalize hv:a.eval r=u at hr
 cases hr with
 |ifc _ hx=>
  rename_i v
  have main:∀(f:FuncId) (y:A) (u:Value),RepA U w y u→(∀n,(method (n+1) t v name).run P w= .ok (f,u) w)→AC P G f (y::args) Z k→o.wpIn (RF rn) 0 P a w K Q:=λ f y u hy hm hac=>by
   have hL:fy U w (y::args) (u::c.args.toList.map a.eval):=ke (as:=[y]) (vs:=[u]) ⟨rfl,λ i x v h1 h2=>by
    match i with
    |0=>simp at h1 h2;subst h1;subst h2;exact hy
    |i+1=>simp at h1⟩ hargs
   obtain⟨h1,h2⟩:=rL hI hL hac
   refine rQ (vs:=(u::c.args.toList.map a.eval).toArray) ?_ h2 hP hK
   rw[he]
   have hd:P.types.size+Made.depth=(P.types.size+99)+1:=rfl
   have ht:List.take c.args.size (c.args.toList.map a.eval)=c.args.toList.map a.eval:=aK (by simp)
   simpa [resolve,hc,hv,invoke,callMethod,uO,hd,hm,ht]using h1
  split at h
  ·rename_i f hm;exact main f x v hx (λ n=>pe hm n v v rfl) h
  ·rename_i f e hm
   obtain⟨p,y,⟨hp,hac⟩,hs⟩:=mB (P:=P) hI hx h
   obtain⟨u,h1,h2⟩:=hs hp
   exact main f y u h2 (λ n=>pe hm n v u h1) hac
  ·rename_i f s i hm
   obtain⟨p,y,⟨hp,hac⟩,hs⟩:=lv (P:=P) hI hx h
   obtain⟨u,h1,h2⟩:=hs hp
   exact main f y u h2 (λ n=>pe hm n v u h1) hac
  ·exact h.elim

theorem gr {o:Oper} {a:Act} {s:Sem Value} {k:A→St→Prop} {K:Act→World→Prop} {Q:Exit→Act→World→Prop} (he:execOp a.eval o=(do pure (.value (←s)):Sem Next))
  (h:qF P G U w s λ p x Z'=>p∧k x Z') (hK:∀a' w',oH G U w a o.dst k a' w'→K a' w'):o.wpIn (RF rn) 0 P a w K Q:=by
 obtain⟨p,x,Z',⟨hp,hk⟩,hs⟩:=h
 obtain⟨v,U',w',h1,h2,h3,h4⟩:=hs hp
 exact lr (v:=v) (w':=w') (by rw[he];simp [h1]) (hK _ _ ⟨x,v,U',Z',rfl,h2,h3,h4,hk⟩)
theorem yf {o:Oper} {a:Act} {ee:Operand→A} {k:A→St→Prop} {K:Act→World→Prop} {Q:Exit→Act→World→Prop} (hI:Inv G U Z w) (hev:∀x,RepA U w (ee x) (a.eval x))
  (h:rd P Z ee o.op λ p x=>p∧k x Z) (hK:∀a' w',oH G U w a o.dst k a' w'→K a' w'):o.wpIn (RF rn) 0 P a w K Q:=by
 obtain⟨p,x,⟨hp,hk⟩,hs⟩:=tF hI hev h
 obtain⟨v,h1,h2⟩:=hs hp
 exact lr h1 (hK _ _ ⟨x,v,U,Z,rfl,Ext.refl _ _,hI,h2,hk⟩)
theorem ye {o:Oper} {a:Act} {t:TypeId} {x y:A} {u v:Value} {k:A→St→Prop} {K:Act→World→Prop} {Q:Exit→Act→World→Prop} (hI:Inv G U Z w) (hx:RepA U w x u) (hy:RepA U w y v)
  (he:execOp a.eval o=(do Instr.storeAt t u v;pure .skip:Sem Next)) (h:je P Z t x y λ p a Z'=>p∧k a Z') (hK:∀a' w',oH G U w a o.dst k a' w'→K a' w'):o.wpIn (RF rn) 0 P a w K Q:=by
 obtain⟨p,z,Z',⟨hp,hk⟩,hs⟩:=uT (P:=P) hI hx hy h
 obtain⟨r,U',w',h1,h2,h3,h4⟩:=hs hp
 have hr:(Instr.storeAt t u v).run P w= .ok () w'∧r=undef:=by
  simp only[Sem.run_bind]at h1
  cases hst:(Instr.storeAt t u v).run P w with
  |halt x w'=>rw[hst]at h1;simp at h1
  |ok b w''=>rw[hst]at h1;simp at h1;exact⟨by rw[h1.2],h1.1.symm⟩
 obtain⟨hr,rfl⟩:=hr
 exact s9 (w':=w') (by rw[he];simp [hr]) (hK _ _ ⟨z,undef,U',Z',rfl,h2,h3,h4,hk⟩)
theorem AA {o:Oper} {c:Call} {f:Operand} {a:Act} {ee:Operand→A} {k:A→St→Prop} {K:Act→World→Prop} {Q:Exit→Act→World→Prop} (hI:Inv G U Z w) (hev:∀x,RepA U w (ee x) (a.eval x)) (ho:o.op= .call c) (hc:c.callee= .value f)
  (h:jI P G Z (ee f) (c.args.toList.map ee) k) (hP:PQ G U w a Q) (hK:∀a' w',oH G U w a o.dst k a' w'→K a' w'):o.wpIn (RF rn) 0 P a w K Q:=by
 exact Ag hI ho hc (hev f) (xn hev _) h hP hK
theorem wR {o:Oper} {c:Call} {a:Act} {ee:Operand→A} {k:A→St→Prop} {K:Act→World→Prop} {Q:Exit→Act→World→Prop} (hI:Inv G U Z w) (hev:∀x,RepA U w (ee x) (a.eval x)) (ho:o.op= .call c) (hc:c.callee= .builtin .append)
  {x y:A} {t tx:TypeId} (hargs:c.args.toList.map ee=[x,y]) (hts:c.argTypes.toList=[t,tx])
  (h:pT P Z t tx x y λ p a Z'=>p∧k a Z') (hK:∀a' w',oH G U w a o.dst k a' w'→K a' w'):o.wpIn (RF rn) 0 P a w K Q:=by
 obtain⟨callee,⟨args⟩,⟨argTypes⟩⟩:=c
 obtain rfl:callee= .builtin .append:=hc
 match args,hargs with
 |[o1,o2],hargs=>
  have e1:[ee o1,ee o2]=[x,y]:=hargs
  injection e1 with e1 e2;injection e2 with e2 e3;subst e1;subst e2
  have e4:argTypes=[t,tx]:=hts
  subst e4
  unfold pT at h
  split at h
  ·rename_i ik n hx0
   have hr:=hev o2
   rw[hx0]at hr
   have hu:a.eval o2= .int ik n:=by generalize a.eval o2=u at hr;cases hr with|d hr=>cases hr;rfl
   refine gr (s:=Builtin.append_ #[t,tx] o.type #[a.eval o1,a.eval o2]) (by simp [execOp,ho,resolve,invoke,builtin]) ?_ hK
   rw[hu]
   exact wM (ty:=o.type) hI (hev o1) h
  ·exact gr (s:=Builtin.append_ #[t,tx] o.type #[a.eval o1,a.eval o2]) (by simp [execOp,ho,resolve,invoke,builtin]) (sZ (ty:=o.type) hI (hev o1) (hev o2) h) hK

theorem s0 {o:Oper} {a:Act} {s:Sem Unit} {k:A→St→Prop} {K:Act→World→Prop} {Q:Exit→Act→World→Prop}
  (he:execOp a.eval o=(do s;pure .skip:Sem Next)) (h:qF P G U w (do s;pure undef) λ p a Z'=>p∧k a Z') (hK:∀a' w',oH G U w a o.dst k a' w'→K a' w'):o.wpIn (RF rn) 0 P a w K Q:=by
 obtain⟨p,z,Z',⟨hp,hk⟩,hs⟩:=h
 obtain⟨r,U',w',h1,h2,h3,h4⟩:=hs hp
 have hr:s.run P w= .ok () w'∧r=undef:=by
  simp only[Sem.run_bind]at h1
  cases hst:s.run P w with
  |halt x w'=>rw[hst]at h1;simp at h1
  |ok b w''=>rw[hst]at h1;simp at h1;exact⟨by rw[h1.2],h1.1.symm⟩
 obtain⟨hr,rfl⟩:=hr
 exact s9 (w':=w') (by rw[he];simp [hr]) (hK _ _ ⟨z,undef,U',Z',rfl,h2,h3,h4,hk⟩)
theorem wQ {o:Oper} {c:Call} {a:Act} {ee:Operand→A} {k:A→St→Prop} {K:Act→World→Prop} {Q:Exit→Act→World→Prop} (hI:Inv G U Z w) (hev:∀x,RepA U w (ee x) (a.eval x)) (ho:o.op= .call c) (hc:c.callee= .builtin .delete)
  {x y:A} {t:TypeId} {ts:List TypeId} (hargs:c.args.toList.map ee=[x,y]) (hts:c.argTypes.toList=t::ts)
  (h:jy P Z t x y λ p a Z'=>p∧k a Z') (hK:∀a' w',oH G U w a o.dst k a' w'→K a' w'):o.wpIn (RF rn) 0 P a w K Q:=by
 obtain⟨callee,⟨args⟩,⟨argTypes⟩⟩:=c
 obtain rfl:callee= .builtin .delete:=hc
 match args,hargs with
 |[o1,o2],hargs=>
  have e1:[ee o1,ee o2]=[x,y]:=hargs
  injection e1 with e1 e2;injection e2 with e2 e3;subst e1;subst e2
  have e4:argTypes=t::ts:=hts
  subst e4
  exact gr (s:=Builtin.delete_ (t::ts).toArray o.type #[a.eval o1,a.eval o2]) (by simp [execOp,ho,resolve,invoke,builtin]) (sY (ty:=o.type) hI (hev o1) (hev o2) rfl h) hK
theorem yh {o:Oper} {c:Call} {a:Act} {ee:Operand→A} {k:A→St→Prop} {K:Act→World→Prop} {Q:Exit→Act→World→Prop} (hI:Inv G U Z w) (hev:∀x,RepA U w (ee x) (a.eval x)) (ho:o.op= .call c) (hc:c.callee= .builtin .clear)
  {x:A} {t:TypeId} (hargs:c.args.toList.map ee=[x]) (hts:c.argTypes.toList=[t])
  (h:kG P Z t x λ p a Z'=>p∧k a Z') (hK:∀a' w',oH G U w a o.dst k a' w'→K a' w'):o.wpIn (RF rn) 0 P a w K Q:=by
 obtain⟨callee,⟨args⟩,⟨argTypes⟩⟩:=c
 obtain rfl:callee= .builtin .clear:=hc
 match args,hargs with
 |[o1],hargs=>
  have e1:[ee o1]=[x]:=hargs
  injection e1 with e1 e2;subst e1
  have e4:argTypes=[t]:=hts
  subst e4
  exact gr (s:=Builtin.clear_ #[t] o.type #[a.eval o1]) (by simp [execOp,ho,resolve,invoke,builtin]) (uW (ty:=o.type) hI (hev o1) h) hK
theorem Az {o:Oper} {c:Call} {a:Act} {ee:Operand→A} {k:A→St→Prop} {K:Act→World→Prop} {Q:Exit→Act→World→Prop} (hI:Inv G U Z w) (hev:∀x,RepA U w (ee x) (a.eval x)) (ho:o.op= .call c) (hc:c.callee= .builtin .copy)
  {x y:A} {t tx:TypeId} (hargs:c.args.toList.map ee=[x,y]) (hts:c.argTypes.toList=[t,tx])
  (h:ko P Z t tx x y λ p a Z'=>p∧k a Z') (hK:∀a' w',oH G U w a o.dst k a' w'→K a' w'):o.wpIn (RF rn) 0 P a w K Q:=by
 obtain⟨callee,⟨args⟩,⟨argTypes⟩⟩:=c
 obtain rfl:callee= .builtin .copy:=hc
 match args,hargs with
 |[o1,o2],hargs=>
  have e1:[ee o1,ee o2]=[x,y]:=hargs
  injection e1 with e1 e2;injection e2 with e2 e3;subst e1;subst e2
  have e4:argTypes=[t,tx]:=hts
  subst e4
  exact gr (s:=Builtin.copy_ #[t,tx] o.type #[a.eval o1,a.eval o2]) (by simp [execOp,ho,resolve,invoke,builtin]) (wN (ty:=o.type) hI (hev o1) (hev o2) h) hK
theorem xF{ve:Operand→Value}{o:Oper}{t:TypeId}(h:o.op= .makeMap t none):execOp ve o=(do pure (.value (←Instr.makeMap t none)):Sem Next):=by simp only[execOp,h,Option.map_none]
theorem ur{ve:Operand→Value}{o:Oper}{t:TypeId}{m x v:Operand}(h:o.op= .mapUpdate t m x v):execOp ve o=(do Instr.mapUpdate t (ve m) (ve x) (ve v);pure .skip:Sem Next):=by simp only[execOp,h]
theorem zP{ve:Operand→Value}{o:Oper}{t:TypeId}{m x v:Operand}(h:o.op= .insert t m x v):execOp ve o=(do Instr.mapUpdate t (ve m) (ve x) (ve v);pure .skip:Sem Next):=by simp only[execOp,h]
theorem Bm{ve:Operand→Value}{o:Oper}{t:TypeId}(h:o.op= .alloc t):execOp ve o=(do pure (.value (←Instr.alloc t true (.tuple #[]))):Sem Next):=by simp only[execOp,h]
theorem exec_box{ve:Operand→Value}{o:Oper}{t:TypeId}{x:Operand}(h:o.op= .box t x):execOp ve o=(do pure (.value (←Instr.box t (ve x))):Sem Next):=by simp only[execOp,h]
theorem sC{ve:Operand→Value}{o:Oper}{t:TypeId}{n:Nat}{ps:Array (Nat×Operand)}(h:o.op= .buildSlice t n ps):execOp ve o=(do pure (.value (←Instr.buildSlice t n (ps.map λ (i,x)=>(i,ve x)))):Sem Next):=by simp only[execOp,h]
theorem ut{ve:Operand→Value}{o:Oper}{t:TypeId}{l c:Operand}(h:o.op= .makeSlice t l c):execOp ve o=(do pure (.value (←Instr.makeSlice t (ve l) (ve c))):Sem Next):=by simp only[execOp,h]
theorem Bl{ve:Operand→Value}{o:Oper}{t:TypeId}{x y:Operand}(h:o.op= .store t x y):execOp ve o=(do Instr.storeAt t (ve x) (ve y);pure .skip:Sem Next):=by simp only[execOp,h]

theorem tP {o:Oper} {ee:Operand→A} {a:Act} {k:A→St→Prop} {K:Act→World→Prop} {Q:Exit→Act→World→Prop} (hI:Inv G U Z w) (hev:∀x,RepA U w (ee x) (a.eval x)) (h:iq P G Z ee o.op k)
  (hP:PQ G U w a Q) (hK:∀a' w',oH G U w a o.dst k a' w'→K a' w'):o.wpIn (RF rn) 0 P a w K Q:=by
 have reads:rd P Z ee o.op (λ p x=>p∧k x Z)→o.wpIn (RF rn) 0 P a w K Q:=λ h=>yf hI hev h hK
 unfold iq at h
 split at h
 ·rename_i t ho;exact gr (Bm ho) (uY hI h) hK
 ·rename_i t x ho;exact gr (exec_box ho) (yd hI (hev x) h) hK
 ·rename_i t n ps ho;exact gr (sC ho) (oX hI (by simpa using qV (Z:=Z) hev ps.toList) h) hK
 ·rename_i t l c ho;exact gr (ut ho) (pR hI (hev l) (hev c) h) hK
 ·rename_i t x y ho;exact ye hI (hev x) (hev y) (Bl ho) h hK
 ·rename_i t ho;exact gr (xF ho) (sg hI h) hK
 ·rename_i t m x v ho;exact s0 (ur ho) (ln hI (hev m) (hev x) (hev v) h) hK
 ·rename_i t m x v ho;exact s0 (zP ho) (ln hI (hev m) (hev x) (hev v) h) hK
 ·rename_i x ho
  obtain⟨⟨t,y,hx⟩,h⟩:=h
  have hr:=hev x
  rw[hx]at hr h
  generalize hv:a.eval x=v at hr
  exact yg ho hv (by cases hr;rfl) (hP _ _ ⟨_,U,Z,_,rfl,Ext.refl _ _,hI,hr,h⟩)
 ·rename_i b t x y ty ho
  split at h
  ·rename_i q hq
   obtain⟨r,h1,h2⟩:=nb (P:=P) x a.eval (λ v=>rfl) hq hI (hev x) h
   exact lr (o:=o) (v:= .bool r) (by
    simp only[execOp,ho,Sem.run_bind]at h1 ⊢
    cases hg:(eqGuard b t x y (a.eval x) (a.eval y)).run P w with
    |halt z w'=>rw[hg]at h1;simp at h1
    |ok z w'=>
     rw[hg]at h1
     simp only[Result.andThen_ok]at h1 ⊢
     rw[h1];rfl) (hK _ _ ⟨_,_,U,Z,rfl,Ext.refl _ _,hI,.d (.bool r),h2⟩)
  ·exact reads (by rw[ho];exact h)
 ·rename_i c ho
  split at h
  ·rename_i f hc;exact AA hI hev ho hc h hP hK
  ·rename_i r name hc;exact Ah hI ho hc (hev r) (xn hev _) h hP hK
  ·rename_i b hb
   unfold jK at h
   split at h
   ·split at h
    ·rename_i hargs hts;exact wR hI hev ho hb hargs hts h hK
    ·exact h.elim
   ·split at h
    ·rename_i hargs hts;exact wQ hI hev ho hb hargs hts h hK
    ·exact h.elim
   ·split at h
    ·rename_i hargs hts;exact yh hI hev ho hb hargs hts h hK
    ·exact h.elim
   ·split at h
    ·rename_i hargs hts;exact Az hI hev ho hb hargs hts h hK
    ·exact h.elim
   ·refine reads ?_
    rw[ho]
    simp only[rd,hb]
    exact h
 ·exact reads h
theorem vQ {b:Df} {o:Oper} {fr:Fr} {a:Act} {k:A→St→Prop} {K:Act→World→Prop} {Q:Exit→Act→World→Prop} (hI:Inv G U Z w) (hF:dl b U w fr a) (h:iq P G Z (ev G fr) o.op k)
  (hP:PQ G U w a Q) (hK:∀a' w',oH G U w a o.dst k a' w'→K a' w'):o.wpIn (RF rn) 0 P a w K Q:=tP hI (xH hI hF) h hP hK
theorem CA{a:A}{v:Value}(h:RepA U w a v):RepA U w a.ungrd v:=by
 induction h with
 |grd c h1 h2 ih=>
  cases c with
  |true=>exact ih rfl
  |false=>exact .o _
 |d h=>exact .d h
 |ea x off b o vs hm hb one cell rep=>exact .ea x off b o vs hm hb one cell rep
 |ref off h=>exact .ref off h
 |refDead off v h=>exact .refDead off v h
 |rs h hb hc hs ho=>exact .rs h hb hc hs ho
 |rsEmpty sz ow h=>exact .rsEmpty sz ow h
 |rsDead sz off len ow v h=>exact .rsDead sz off len ow v h
 |mapr h=>exact .mapr h
 |mapDead v h=>exact .mapDead v h
 |agg cs vs len one rep=>exact .agg cs vs len one rep
 |tup cs vs len rep=>exact .tup cs vs len rep
 |fn f cs ds vs us len len' rep rep'=>exact .fn f cs ds vs us len len' rep rep'
 |ifc t h=>exact .ifc t h
 |o v=>exact .o v
end
end Go.Ab
