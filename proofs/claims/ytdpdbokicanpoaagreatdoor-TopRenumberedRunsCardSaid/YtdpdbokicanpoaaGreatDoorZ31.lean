import Derived.Test.YtdpdbokicanpoaaGreatDoorFacts
import Derived.Test.YtdpdbokicanpoaaGreatDoorAbDefS
import Derived.Test.YtdpdbokicanpoaaGreatDoorAbFreeze
import Derived.Test.YtdpdbokicanpoaaGreatDoorAbEnterN
set_option linter.unusedSimpArgs false
set_option linter.unusedVariables false
set_option maxHeartbeats 64000000
set_option maxRecDepth 100000
section
namespace Go.Proofs.YtdpdbokicanpoaaGreatDoor
inductive Ex where
  |mk (op w n:Int) (kids:List Ex)
namespace Ex
def op:Ex→Int| .mk o _ _ _=>o
def w:Ex→Int| .mk _ w _ _=>w
def n:Ex→Int| .mk _ _ n _=>n
def kids:Ex→List Ex| .mk _ _ _ k=>k
mutual
def nodes:Ex→Nat
  | .mk _ _ _ k=>1+nodesL k
def nodesL:List Ex→Nat
  |[]=>0
  |e::r=>e.nodes+nodesL r
end
theorem nodesL_sum:∀(l:List Ex),nodesL l=(l.map nodes).sum
  |[]=>rfl
  |e::r=>by simp [nodesL,nodesL_sum r]
theorem nodes_eq(e:Ex):e.nodes=1+(e.kids.map nodes).sum:=by
  cases e;simp only[nodes,kids,nodesL_sum]
def arity(o:Int):Int:=if 1≤o∧o≤3 then 0 else if o=4 then 1 else if 5≤o∧o≤13 then 2 else if o=14 then 3 else -1
def kw(e:Ex)(i:Nat):Int:=(e.kids.getD i (.mk 0 0 0 [])).w
def fits(e:Ex):Bool:=decide (arity e.op=e.kids.length∧1≤e.w∧e.w≤8)&&
  (
   if e.op=1 then decide (0≤e.n∧e.n<2^e.w.toNat)
   else if e.op=2∨e.op=3 then decide (0≤e.n∧e.n<32)
   else if e.op=4 then decide (e.n=0∧e.kw 0=e.w)
   else if e.op=11∨e.op=12∨e.op=13 then decide (e.n=0∧e.w=1∧e.kw 0=e.kw 1)
   else if e.op=14 then decide (e.n=0∧e.kw 0=1∧e.kw 1=e.w∧e.kw 2=e.w)
   else decide (e.n=0∧e.kw 0=e.w∧e.kw 1=e.w))
def deep:Ex→Nat→Bool
  |_,0=>false
  |e,l+1=>e.fits&&e.kids.all λ k=>k.deep l
def formed(e:Ex):Bool:=decide (e.nodes≤600)&&e.deep 40
end Ex
def b2n(b:Bool):Nat:=bif b then 1 else 0
theorem BG(b:Bool):b2n b<2:=by cases b<;> decide
def lowb(x:Int)(w:Nat):Nat:=(x % ((2^w:Nat):Int)).toNat
theorem xp(x:Int)(w:Nat):lowb x w<2^w:=by
  have hp:(0:Int)<((2^w:Nat):Int):=by have:0<2^w:=Nat.pow_pos (by omega);omega
  have h1:=Int.emod_nonneg x (by omega:((2^w:Nat):Int)≠0)
  have h2:=Int.emod_lt_of_pos x hp
  unfold lowb;omega
def ss(old now:List Int)(o:Int)(w:Nat)(n:Int)(k:List Nat):Nat:=
  if o=1 then n.toNat else if o=2 then lowb (now.getD n.toNat 0) w else if o=3 then lowb (old.getD n.toNat 0) w
  else if o=4 then 2^w - 1 - k.getD 0 0 else if o=5 then k.getD 0 0 &&& k.getD 1 0 else if o=6 then k.getD 0 0 ||| k.getD 1 0 else if o=7 then k.getD 0 0 ^^^ k.getD 1 0
  else if o=8 then(k.getD 0 0+k.getD 1 0) % 2^w else if o=9 then(k.getD 0 0+(2^w - k.getD 1 0)) % 2^w else if o=10 then(k.getD 0 0*k.getD 1 0) % 2^w
  else if o=11 then b2n (k.getD 0 0==k.getD 1 0)else if o=12 then b2n (decide (k.getD 0 0<k.getD 1 0))else if o=13 then b2n (decide (k.getD 0 0≤k.getD 1 0))
  else if k.getD 0 0=1 then k.getD 1 0 else k.getD 2 0
mutual
def kF(old now:List Int):Ex→Nat
  | .mk o w n k=>ss old now o w.toNat n (Dy old now k)
def Dy(old now:List Int):List Ex→List Nat
  |[]=>[]
  |e::r=>kF old now e::Dy old now r
end
theorem zT(old now:List Int):∀l:List Ex,Dy old now l=l.map (kF old now)
  |[]=>rfl
  |e::r=>by simp [Dy,zT old now r]
theorem Bn(old now:List Int)(e:Ex):kF old now e=ss old now e.op e.w.toNat e.n (e.kids.map (kF old now)):=by
  cases e;simp only[kF,Ex.op,Ex.w,Ex.n,Ex.kids,zT]
end Go.Proofs.YtdpdbokicanpoaaGreatDoor
end
section
namespace Go.Proofs.YtdpdbokicanpoaaGreatDoor
structure Cel where
 name:List UInt8
 w:Int
 init:Int
 thread:Int
 ghost:Bool
 mod:Int
def fU:Cel:=⟨[],0,0,0,false,0⟩
structure Ctr where
 name:List UInt8
 owner:List UInt8
 rely:Ex
 guar:Ex
 frame:List Int
structure Lck where
 cell:Int
 inv:Ex
 mod:Int
structure Asg where
 cell:Int
 to:Ex
structure Stp where
 kind:Int
 src:Int
 dst:Int
 guard:Ex
 set:List Asg
 rel:Bool
 target:Int
 mod:Int
structure Lop where
 head:Int
 body:List Int
 var:Ex
structure Thr where
 name:List UInt8
 points:Int
 asserts:List Ex
 mods:List Int
 steps:List Stp
 loops:List Lop
 asleep:Bool
structure Prg where
 cells:List Cel
 modules:List Ctr
 locks:List Lck
 threads:List Thr
def zQ:Ex:= .mk 0 0 0 []
def dt:Asg:=⟨0,zQ⟩
def jY:Stp:=⟨0,0,0,zQ,[],false,0,0⟩
def vg:Lop:=⟨0,[],zQ⟩
def fg:Thr:=⟨[],0,[],[],[],[],false⟩
def mj:Ctr:=⟨[],[],zQ,zQ,[]⟩
def mJ:Lck:=⟨0,zQ,0⟩
def Ex.overN(cells:List Cel)(pair:Bool)(e:Ex):Bool:= !(e.op==3&& !pair)&& !((e.op==3||e.op==2)&&(decide ((cells.length:Int)≤e.n)||(cells.getD e.n.toNat fU).w !=e.w))
mutual
def Ex.over(cells:List Cel)(pair:Bool):Ex→Bool
 | .mk o w n k=>(Ex.mk o w n k).overN cells pair&&qc cells pair k
def qc(cells:List Cel)(pair:Bool):List Ex→Bool
 |[]=>true
 |e::r=>e.over cells pair&&qc cells pair r
end
theorem vO(cells:List Cel)(pair:Bool):∀(l:List Ex),qc cells pair l=l.all λ e=>e.over cells pair
 |[]=>rfl
 |e::r=>by rw[qc,vO cells pair r,dH]
theorem Ex.over_eq(cells:List Cel)(pair:Bool)(e:Ex):e.over cells pair=(e.overN cells pair&&e.kids.all λ k=>k.over cells pair):=by
 cases e with
 |mk o w n k=>rw[Ex.over,vO];rfl
mutual
def Ex.allB(f:Int→Bool):Ex→Bool
 | .mk o w n k=>(!(o==2||o==3)||f n)&&wI f k
def wI(f:Int→Bool):List Ex→Bool
 |[]=>true
 |e::r=>e.allB f&&wI f r
end
theorem wH(f:Int→Bool):∀(l:List Ex),wI f l=l.all λ e=>e.allB f
 |[]=>rfl
 |e::r=>by rw[wI,wH f r,dH]
theorem Ex.allB_eq(f:Int→Bool)(e:Ex):e.allB f=((!(e.op==2||e.op==3)||f e.n)&&e.kids.all λ k=>k.allB f):=by
 cases e with
 |mk o w n k=>rw[Ex.allB,wH];rfl
def Ex.valid(cells:List Cel)(pair:Bool)(e:Ex):Bool:=e.formed&&e.over cells pair
def Ex.absent(e:Ex):Bool:=e.op==0&&e.w==0&&e.n==0&&e.kids.isEmpty
def jj(s:List UInt8):Bool:=decide (1≤s.length∧s.length≤64)&&s.all λ c=>decide (33≤c.toNat∧c.toNat≤126)
def kj(i:Int)(n:Int):Bool:=decide (0≤i∧i<n)
def qE(l:List Int):Prop:=l.Pairwise (· < ·)
namespace Prg
def cell(p:Prg)(c:Int):Cel:=p.cells.getD c.toNat fU
def shB(p:Prg)(c:Int):Bool:=kj c p.cells.length&&decide ((p.cell c).thread= -1)
def owB(p:Prg)(t:Int)(c:Int):Bool:=kj c p.cells.length&&decide ((p.cell c).thread=t)
def viB(p:Prg)(t:Int)(c:Int):Bool:=p.shB c||p.owB t c
def truB(p:Prg)(e:Ex)(pair:Bool)(f:Int→Bool):Bool:=decide (e.w=1)&&e.valid p.cells pair&&e.allB f
end Prg
structure CelOk (p:Prg) (c:Cel):Prop where
 name:jj c.name=true
 w:1≤c.w∧c.w≤8
 init:0≤c.init∧c.init<2^c.w.toNat
 thread: -1≤c.thread∧c.thread<p.threads.length
 mod:0≤c.mod∧c.mod<p.modules.length
structure CtrOk (p:Prg) (m:Ctr):Prop where
 name:jj m.name=true
 owner:jj m.owner=true
 rely:m.rely.absent=true∨p.truB m.rely true p.shB=true
 guar:p.truB m.guar true p.shB=true
 frame:∀c∈m.frame,p.shB c=true
 rise:qE m.frame
structure LckOk (p:Prg) (l:Lck):Prop where
 cell:p.shB l.cell=true
 w:(p.cell l.cell).w=1
 real:(p.cell l.cell).ghost=false
 mod:0≤l.mod∧l.mod<p.modules.length
 inv:p.truB l.inv false p.shB=true
structure AsgOk (p:Prg) (a:Asg):Prop where
 cell:kj a.cell p.cells.length=true
 w:a.to.w=(p.cell a.cell).w
 to:a.to.valid p.cells false=true
def Ex.one(e:Ex):Bool:=e.op==1&&e.w==1&&e.n==1&&e.kids.isEmpty
def jR(p:Prg)(t:Int)(s:Stp):Prop:=
 (s.kind=1∧s.guard.allB (p.owB t)=true∧∀a∈s.set,a.to.allB (p.owB t)=true∧p.owB t a.cell=true)∨
 (s.kind=2∧s.guard.allB (p.owB t)=true∧∃a r,s.set=a::r∧p.owB t a.cell=true∧(p.cell a.cell).ghost=false∧a.to.op=2∧p.shB a.to.n=true∧(p.cell a.to.n).ghost=false∧∀b∈r,p.owB t b.cell=true∧(p.cell b.cell).ghost=true∧b.to.allB (p.owB t)=true)∨
 (s.kind=3∧s.guard.allB (p.owB t)=true∧(∀a∈s.set,a.to.allB (p.owB t)=true)∧∃a r,s.set=a::r∧p.shB a.cell=true∧(p.cell a.cell).ghost=false∧∀b∈r,(p.cell b.cell).ghost=true∧p.viB t b.cell=true)∨
 (s.kind=4∧s.guard.allB (p.viB t)=true∧∀a∈s.set,a.to.allB (p.viB t)=true∧p.viB t a.cell=true)∨
 (s.kind=5∧s.guard.one=true∧s.set=[])∨
 (s.kind=6∧s.guard.one=true∧s.set=[]∧kj s.target p.threads.length=true∧s.target≠t∧(p.threads.getD s.target.toNat fg).asleep=true)∨
 (s.kind=7∧s.guard.one=true∧s.set=[]∧kj s.target p.threads.length=true∧s.target≠t)
structure StpOk (p:Prg) (t:Int) (points:Int) (s:Stp):Prop where
 src:0≤s.src∧s.src<points - 1
 dst:0≤s.dst∧s.dst<points
 mod:0≤s.mod∧s.mod<p.modules.length
 rel:s.rel=true→s.kind=3
 target:s.target≠0→s.kind=6∨s.kind=7
 gw:s.guard.w=1
 guard:s.guard.valid p.cells false=true
 set:∀a∈s.set,AsgOk p a
 nodup:(s.set.map Asg.cell).Nodup
 kind:jR p t s
structure LopOk (p:Prg) (t:Int) (points:Int) (l:Lop):Prop where
 head:0≤l.head∧l.head<points
 rise:qE l.body
 body:∀c∈l.body,0≤c∧c<points∧c≠l.head
 var:l.var.valid p.cells false=true
 over:l.var.allB (p.viB t)=true
structure ThrOk (p:Prg) (t:Int) (x:Thr):Prop where
 name:jj x.name=true
 points:1≤x.points
 nas:(x.asserts.length:Int)=x.points
 nmo:(x.mods.length:Int)=x.points
 mods:∀m∈x.mods,0≤m∧m<p.modules.length
 asserts:∀e∈x.asserts,p.truB e false (p.viB t)=true
 steps:∀s∈x.steps,StpOk p t x.points s
 loops:∀l∈x.loops,LopOk p t x.points l
structure StpSm (s:Stp):Prop where
 guard:s.guard.nodes≤40
 set:s.set.length≤4
 to:∀a∈s.set,a.to.nodes≤40
structure ThrSm (x:Thr):Prop where
 points:x.points≤8
 nas:x.asserts.length≤8
 nmo:x.mods.length≤8
 nst:x.steps.length≤10
 nlo:x.loops.length≤3
 asserts:∀e∈x.asserts,e.nodes≤40
 loops:∀l∈x.loops,l.body.length≤8∧l.var.nodes≤40
 steps:∀s∈x.steps,StpSm s
structure Prg.Small (p:Prg):Prop where
 ncel:p.cells.length≤12
 nmod:p.modules.length≤3
 nlck:p.locks.length≤2
 nthr:p.threads.length≤3
 modules:∀m∈p.modules,m.frame.length≤12∧m.rely.nodes≤40∧m.guar.nodes≤40
 locks:∀l∈p.locks,l.inv.nodes≤40
 threads:∀x∈p.threads,ThrSm x
structure Prg.Ok (p:Prg):Prop where
 cells:∀c∈p.cells,CelOk p c
 cnames:(p.cells.map Cel.name).Nodup
 modules:∀m∈p.modules,CtrOk p m
 mnames:(p.modules.map Ctr.name).Nodup
 locks:∀l∈p.locks,LckOk p l
 lcells:(p.locks.map Lck.cell).Nodup
 threads:∀(t:Nat) (x:Thr),p.threads[t]? =some x→ThrOk p t x
 tnames:(p.threads.map Thr.name).Nodup
end Go.Proofs.YtdpdbokicanpoaaGreatDoor
end
section
namespace Go.Proofs.YtdpdbokicanpoaaGreatDoor
structure Ent where
  cells:List Int
  vals:List Int
deriving DecidableEq
structure Cfg where
  mem:List Int
  pos:List Int
  buf:List (List Ent)
deriving DecidableEq
structure Cho where
  thread:Int
  step:Int
  cell:Int
deriving DecidableEq
def cD:Ent:=⟨[],[]⟩
def fE:Cho:=⟨0,0,0⟩
def jm:Cfg:=⟨[],[],[]⟩
def Cfg.bufAt(c:Cfg)(t:Nat):List Ent:=c.buf.getD t []
def Prg.thr(p:Prg)(t:Nat):Thr:=p.threads.getD t fg
def Prg.stp(p:Prg)(t i:Nat):Stp:=(p.thr t).steps.getD i jY
def oI(mem:List Int)(e:Ent):List Int:=(e.cells.zip e.vals).foldl (λ m q=>m.set q.1.toNat q.2) mem
def cT(c:Cfg)(t:Nat):List Int:=(c.bufAt t).foldl oI c.mem
def mu(v:List Int)(e:Ex):Int:=(kF v v e:Nat)
def nA(older:List Ent)(e:Ent):Bool:=older.any λ o=>e.cells.any λ c=>o.cells.contains c
def eL(m:Int)(l:List Ent)(i:Nat):Bool:=i==0||(m==2&& !nA (l.take i) (l.getD i cD))
def mX(p:Prg)(m:Int)(c:Cfg)(t:Nat)(s:Stp):Bool:=
  if s.kind=3 then m==0||(if s.rel then(c.bufAt t).isEmpty else decide ((c.bufAt t).length<3))
  else if s.kind=4∨s.kind=5 then(c.bufAt t).isEmpty
  else if s.kind=6 then(c.bufAt t).isEmpty&&c.pos.getD s.target.toNat 0== -1
  else if s.kind=7 then(c.bufAt t).isEmpty&&c.pos.getD s.target.toNat 0==(p.thr s.target.toNat).points - 1&&(c.bufAt s.target.toNat).isEmpty
  else true
def qt(p:Prg)(m:Int)(c:Cfg)(t:Nat)(s:Stp):Bool:=c.pos.getD t 0==s.src&&mu (cT c t) s.guard==1&&mX p m c t s
def ti(p:Prg)(m:Int)(c:Cfg)(t:Nat):List Cho:=((List.range (p.thr t).steps.length).filter λ i=>qt p m c t (p.stp t i)).map λ i:Nat=>(⟨(t:Int),(i:Int),0⟩:Cho)
def z7(m:Int)(c:Cfg)(t:Nat):List Cho:=((List.range (c.bufAt t).length).filter (eL m (c.bufAt t))).map λ i:Nat=>(⟨(t:Int),-1,((c.bufAt t).getD i cD).cells.getD 0 0⟩:Cho)
def lH(p:Prg)(m:Int)(c:Cfg)(t:Nat):List Cho:=ti p m c t++z7 m c t
def fY(p:Prg)(m:Int)(c:Cfg):List Cho:=(List.range p.threads.length).flatMap (lH p m c)
def rC(c:Cfg)(t i:Nat):Cfg:=⟨oI c.mem ((c.bufAt t).getD i cD),c.pos,c.buf.set t ((c.bufAt t).eraseIdx i)⟩
def mZ(l:List Ent)(cell:Int):Nat:=l.findIdx λ e=>e.cells.getD 0 0==cell
def iL(c:Cfg)(t:Nat)(s:Stp):List Int:=if s.kind=6 then(c.pos.set t s.dst).set s.target.toNat 0 else c.pos.set t s.dst
def gT(v:List Int)(mem:List Int)(l:List Asg):List Int:=l.foldl (λ m a=>m.set a.cell.toNat (mu v a.to)) mem
def nG(p:Prg)(m:Int)(c:Cfg)(t:Nat)(s:Stp):Cfg:=
  if s.kind=3∧m≠0 then
    ⟨gT (cT c t) c.mem (s.set.filter λ a=>(p.cell a.cell).thread != -1),iL c t s,
     c.buf.set t (c.bufAt t++[⟨(s.set.filter λ a=>(p.cell a.cell).thread== -1).map Asg.cell,(s.set.filter λ a=>(p.cell a.cell).thread== -1).map λ a=>mu (cT c t) a.to⟩])⟩
  else⟨gT (cT c t) c.mem s.set,iL c t s,c.buf⟩
def fV(p:Prg)(m:Int)(c:Cfg)(x:Cho):Cfg:=
  if x.step= -1 then rC c x.thread.toNat (mZ (c.bufAt x.thread.toNat) x.cell)else nG p m c x.thread.toNat (p.stp x.thread.toNat x.step.toNat)
def bS(p:Prg):Cfg:=⟨p.cells.map Cel.init,p.threads.map λ x=>if x.asleep then -1 else 0,p.threads.map λ _=>[]⟩
def fO(c:Cfg):Bool:=c.buf.all List.isEmpty
structure EntOk (p:Prg) (e:Ent):Prop where
  len:e.vals.length=e.cells.length
  pos:e.cells≠[]
  nodup:e.cells.Nodup
  cell:∀(i:Nat) (c:Int),e.cells[i]? =some c→p.shB c=true∧(p.cell c).ghost=decide (0<i)
  val:∀(i:Nat) (c v:Int),e.cells[i]? =some c→e.vals[i]? =some v→0≤v∧v<2^(p.cell c).w.toNat
structure MemOk (p:Prg) (mem:List Int):Prop where
  len:mem.length=p.cells.length
  val:∀(i:Nat) (v:Int),mem[i]? =some v→0≤v∧v<2^(p.cell i).w.toNat
structure Fits (p:Prg) (m:Int) (c:Cfg):Prop where
  mem:MemOk p c.mem
  npos:c.pos.length=p.threads.length
  nbuf:c.buf.length=p.threads.length
  pos:∀(t:Nat) (a:Int),c.pos[t]? =some a→-1≤a∧a<(p.thr t).points∧(a= -1→(p.thr t).asleep=true∧c.bufAt t=[])
  few:∀(t:Nat) (l:List Ent),c.buf[t]? =some l→l.length≤3∧∀e∈l,EntOk p e
  quiet:m=0→∀l∈c.buf,l=[]
def fK(p:Prg)(m:Int):Cfg→List Cho→Prop
  |_,[]=>True
  |c,x::r=>x∈fY p m c∧fK p m (fV p m c x) r
def iS(p:Prg)(m:Int):Cfg→List Cho→List Cfg
  |c,[]=>[c]
  |c,x::r=>c::iS p m (fV p m c x) r
end Go.Proofs.YtdpdbokicanpoaaGreatDoor
end
section
namespace Go.Proofs.YtdpdbokicanpoaaGreatDoor
theorem jA{α:Type}{l:List α}{i:Nat}{d x:α}(h:l[i]? =some x):l.getD i d=x:=by
 rw[au,h];rfl
theorem pk{α:Type}{l:List α}{i:Nat}(d:α)(h:i<l.length):l[i]? =some (l.getD i d):=by
 rw[au,ap h];rfl
theorem cS{i n:Int}:kj i n=true↔0≤i∧i<n:=by simp [kj]
theorem eJ{p:Prg}{c:Int}:p.shB c=true↔(0≤c∧c<p.cells.length)∧(p.cell c).thread= -1:=by simp [Prg.shB,kj]
theorem gB{p:Prg}{t c:Int}:p.owB t c=true↔(0≤c∧c<p.cells.length)∧(p.cell c).thread=t:=by simp [Prg.owB,kj]
theorem jT{p:Prg}{t c:Int}:p.viB t c=true↔(0≤c∧c<p.cells.length)∧((p.cell c).thread= -1∨(p.cell c).thread=t):=by
 simp only[Prg.viB,cd,eJ,gB]
 constructor
 ·rintro(⟨h,k⟩|⟨h,k⟩)
  ·exact⟨h,.inl k⟩
  ·exact⟨h,.inr k⟩
 ·rintro⟨h,k|k⟩
  ·exact .inl ⟨h,k⟩
  ·exact .inr ⟨h,k⟩
theorem Ex.valid_iff{cells:List Cel}{pair:Bool}{e:Ex}:e.valid cells pair=true↔e.nodes≤600∧e.deep 40=true∧e.over cells pair=true:=by
 simp only[Ex.valid,Ex.formed,aB,av,and_assoc]
-- memories
theorem vS{p:Prg}{mem:List Int}(h:MemOk p mem){i:Nat}{v:Int}(hv:0≤v∧v<2^(p.cell i).w.toNat):MemOk p (mem.set i v) where
 len:=by rw[aH];exact h.len
 val j u hj:=by
  rw[aR]at hj
  split at hj
  ·split at hj
   ·cases hj;subst_vars;exact hv
   ·cases hj
  ·exact h.val j u hj
theorem tY{p:Prg}:∀{l:List (Int×Int)} {mem:List Int},MemOk p mem→(∀q∈l,0≤q.1∧0≤q.2∧q.2<2^(p.cell q.1).w.toNat)→MemOk p (l.foldl (λ m q=>m.set q.1.toNat q.2) mem)
 |[],_,h,_=>h
 |q::l,mem,h,hl=>by
  rw[cc]
  refine tY (vS h ?_) λ r hr=>hl r (bR _ hr)
  obtain⟨h0,h1,h2⟩:=hl q (by simp)
  rw[Int.toNat_of_nonneg h0]
  exact⟨h1,h2⟩
theorem wrM_ok{p:Prg}{mem:List Int}{e:Ent}(h:MemOk p mem)(he:EntOk p e):MemOk p (oI mem e):=by
 refine tY h λ q hq=> ?_
 obtain⟨i,hi,hq⟩:=bF hq
 have hl:=hi
 rw[f9,he.len,Nat.min_self]at hl
 have h1:e.cells[i]? =some q.1:=by rw[ap hl,←hq,List.getElem_zip]
 have h2:e.vals[i]? =some q.2:=by rw[ap (by rw[he.len];exact hl),←hq,List.getElem_zip]
 have hc:=(eJ.1 (he.cell i _ h1).1).1
 exact⟨hc.1,he.val i _ _ h1 h2⟩
theorem vr{p:Prg}:∀{l:List Ent} {mem:List Int},MemOk p mem→(∀e∈l,EntOk p e)→MemOk p (l.foldl oI mem)
 |[],_,h,_=>h
 |e::l,mem,h,hl=>by
  rw[cc]
  exact vr (wrM_ok h (hl e (by simp))) λ r hr=>hl r (bR _ hr)
theorem Fits.bufOk{p:Prg}{m:Int}{c:Cfg}(h:Fits p m c)(t:Nat):(c.bufAt t).length≤3∧∀e∈c.bufAt t,EntOk p e:=by
 unfold Cfg.bufAt
 rw[au]
 cases e:c.buf[t]? with
 |none=>exact⟨by simp,λ e he=>by cases he⟩
 |some l=>exact h.few t l e
theorem wT{p:Prg}{m:Int}{c:Cfg}(h:Fits p m c)(t:Nat):MemOk p (cT c t):=vr h.mem (h.bufOk t).2
-- expressions
theorem jc{e k:Ex}{l:Nat}(h:e.deep (l+1)=true)(hk:k∈e.kids):k.deep l=true:=by
 simp only[Ex.deep,aB,aZ]at h
 exact h.2 k hk
section
variable {old now:List Int}
theorem list2{α:Type}{l:List α}(h:l.length=2):∃a b,l=[a,b]:=by
 match l,h with
 |[a,b],_=>exact⟨a,b,rfl⟩
theorem list3{α:Type}{l:List α}(h:l.length=3):∃a b c,l=[a,b,c]:=by
 match l,h with
 |[a,b,c],_=>exact⟨a,b,c,rfl⟩
theorem uv(l:Nat):∀(e:Ex),e.deep l=true→kF old now e<2^e.w.toNat:=by
 induction l with
 |zero=>intro e hd;simp [Ex.deep]at hd
 |succ l ih=>
  intro e hd
  have hkd:∀k∈e.kids,kF old now k<2^k.w.toNat:=λ k hk=>ih k (jc hd hk)
  have hf:e.fits=true:=by simp only[Ex.deep,aB]at hd;exact hd.1
  simp only[Ex.fits,aB,av]at hf
  obtain⟨⟨ha,w1,w8⟩,hf⟩:=hf
  have hL:e.kids.length=(Ex.arity e.op).toNat:=by omega
  have hp:0<2^e.w.toNat:=Nat.pow_pos (by omega)
  have h2:2≤2^e.w.toNat:=by have:=gn (n:=2) (i:=1) (j:=e.w.toNat) (by omega) (by omega);omega
  have hb2:∀b,b2n b<2^e.w.toNat:=λ b=>cQ (BG b) h2
  rw[Bn]
  by_cases o1:e.op=1
  ·rw[if_pos o1,av]at hf
   simp only[ss,if_pos o1]
   have h2:((2:Int)^e.w.toNat)=((2^e.w.toNat:Nat):Int):=by simp
   omega
  rw[if_neg o1]at hf
  by_cases o2:e.op=2
  ·simp only[ss,if_neg o1,if_pos o2];exact xp _ _
  by_cases o3:e.op=3
  ·simp only[ss,if_neg o1,if_neg o2,if_pos o3];exact xp _ _
  rw[if_neg (by omega)]at hf
  by_cases o4:e.op=4
  ·simp only[ss,if_neg o1,if_neg o2,if_neg o3,if_pos o4];omega
  rw[if_neg o4]at hf
  by_cases o14:e.op=14
  ·rw[if_neg (by omega),if_pos o14,av]at hf
   obtain⟨a,b,c,hks⟩:=list3 (l:=e.kids) (by rw[hL,o14];rfl)
   simp only[Ex.kw,hks,dA,eU]at hf
   simp only[ss,o14,Int.reduceEq,if_false,hks,aM,dA,eU]
   split
   ·have:=hkd b (by rw[hks];simp);rwa [hf.2.2.1]at this
   ·have:=hkd c (by rw[hks];simp);rwa [hf.2.2.2]at this
  have hb:5≤e.op∧e.op≤13:=by
   unfold Ex.arity at ha
   repeat' split at ha
   all_goals omega
  obtain⟨a,b,hks⟩:=list2 (l:=e.kids) (by
   rw[hL,Ex.arity,if_neg (by omega),if_neg (by omega),if_pos (by omega)];rfl)
  have ka:=hkd a (by rw[hks];simp)
  have kb:=hkd b (by rw[hks];simp)
  by_cases o11:e.op=11∨e.op=12∨e.op=13
  ·rcases o11 with o|o|o<;> simp only[ss,o,Int.reduceEq,if_false,if_true]<;> exact hb2 _
  rw[if_neg o11,if_neg o14,av]at hf
  simp only[Ex.kw,hks,dA,eU]at hf
  rw[hf.2.1]at ka;rw[hf.2.2]at kb
  have ho:e.op=5∨e.op=6∨e.op=7∨e.op=8∨e.op=9∨e.op=10:=by omega
  rcases ho with o|o|o|o|o|o<;> simp only[ss,o,Int.reduceEq,if_false,if_true,hks,aM,dA,eU]
  ·exact Nat.and_lt_two_pow _ kb
  ·exact Nat.or_lt_two_pow ka kb
  ·exact Nat.xor_lt_two_pow ka kb
  ·exact Nat.mod_lt _ hp
  ·exact Nat.mod_lt _ hp
  ·exact Nat.mod_lt _ hp
end
theorem evZ_lt{p:Prg}{pair:Bool}{e:Ex}{v:List Int}(h:e.valid p.cells pair=true):0≤mu v e∧mu v e<2^e.w.toNat:=by
 have h1:=uv (old:=v) (now:=v) 40 e (Ex.valid_iff.1 h).2.1
 unfold mu
 have h2:((2:Int)^e.w.toNat)=((2^e.w.toNat:Nat):Int):=by simp
 omega
theorem xa{p:Prg}{v:List Int}:∀{l:List Asg} {mem:List Int},MemOk p mem→(∀a∈l,AsgOk p a)→MemOk p (gT v mem l)
 |[],_,h,_=>h
 |a::l,mem,h,hl=>by
  unfold gT
  rw[cc]
  refine xa (vS h ?_) λ r hr=>hl r (bR _ hr)
  have ha:=hl a (by simp)
  have h0:=cS.1 ha.cell
  rw[Int.toNat_of_nonneg h0.1,←ha.w]
  exact evZ_lt ha.to
-- choices
theorem l9{p:Prg}{m:Int}{c:Cfg}{x:Cho}:x∈fY p m c↔∃t,t<p.threads.length∧((∃i,i<(p.thr t).steps.length∧qt p m c t (p.stp t i)=true∧x=⟨t,i,0⟩)∨∃i,i<(c.bufAt t).length∧eL m (c.bufAt t) i=true∧x=⟨t,-1,((c.bufAt t).getD i cD).cells.getD 0 0⟩):=by
 simp only[fY,lH,ti,z7,gJ,aW,aI,eZ,eT]
 constructor
 ·rintro⟨t,ht,⟨i,⟨hi,he⟩,rfl⟩|⟨i,⟨hi,he⟩,rfl⟩⟩
  ·exact⟨t,ht,.inl ⟨i,hi,he,rfl⟩⟩
  ·exact⟨t,ht,.inr ⟨i,hi,he,rfl⟩⟩
 ·rintro⟨t,ht,⟨i,hi,he,rfl⟩|⟨i,hi,he,rfl⟩⟩
  ·exact⟨t,ht,.inl ⟨i,⟨hi,he⟩,rfl⟩⟩
  ·exact⟨t,ht,.inr ⟨i,⟨hi,he⟩,rfl⟩⟩
theorem ph{m:Int}{l:List Ent}(hne:∀e∈l,e.cells≠[]){i:Nat}(hi:i<l.length)(h:eL m l i=true):mZ l ((l.getD i cD).cells.getD 0 0)=i:=by
 unfold mZ
 have hg:∀j,j<l.length→l.getD j cD∈l:=λ j hj=>by rw[au,ap hj];exact bI hj
 have ge:∀j (hj:j<l.length),l[j]=l.getD j cD:=λ j hj=>by rw[au,ap hj];rfl
 rw[List.findIdx_eq hi]
 refine⟨by rw[ge];simp,λ j hj=> ?_⟩
 rw[ge j (by omega)]
 rw[fw]
 intro hb
 rw[cg]at hb
 unfold eL at h
 have h0:(i==0)=false:=by simp;omega
 rw[h0,fj,aB,bQ]at h
 have hh:nA (l.take i) (l.getD i cD)=true:=by
  unfold nA
  rw[d8]
  refine⟨l.getD j cD,?_,?_⟩
  ·rw[List.mem_take_iff_getElem]
   exact⟨j,by omega,by rw[ge]⟩
  ·rw[d8]
   have n1:=hne _ (hg i hi)
   have n2:=hne _ (hg j (by omega))
   revert n1 n2 hb
   cases (l.getD i cD).cells with
   |nil=>intro _ n1;exact absurd rfl n1
   |cons a r=>
    cases (l.getD j cD).cells with
    |nil=>intro _ _ n2;exact absurd rfl n2
    |cons b s=>
     intro hb _ _
     simp only[dA]at hb
     subst hb
     exact⟨b,by simp,by simp⟩
 rw[hh]at h
 exact absurd h.2 (by decide)
theorem oc{p:Prg}{m:Int}{c:Cfg}(t i:Nat):fV p m c ⟨t,i,0⟩=nG p m c t (p.stp t i):=by
 unfold fV
 rw[if_neg (by show¬((i:Int)= -1);omega)]
 simp
theorem qY{p:Prg}{m:Int}{c:Cfg}(hf:Fits p m c){t i:Nat}(hi:i<(c.bufAt t).length)(h:eL m (c.bufAt t) i=true):fV p m c ⟨t,-1,((c.bufAt t).getD i cD).cells.getD 0 0⟩=rC c t i:=by
 unfold fV
 rw[if_pos rfl]
 simp only[ad]
 rw[ph (λ e he=>((hf.bufOk t).2 e he).pos) hi h]
theorem wV{p:Prg}(hp:p.Ok){t:Nat}(ht:t<p.threads.length):ThrOk p t (p.thr t):=hp.threads t _ (pk fg ht)
theorem qN{p:Prg}(hp:p.Ok){t i:Nat}(ht:t<p.threads.length)(hi:i<(p.thr t).steps.length):StpOk p t (p.thr t).points (p.stp t i):=by
 refine(wV hp ht).steps _ ?_
 unfold Prg.stp
 rw[au,ap hi]
 exact bI hi
theorem wB{c:Cfg}{mem pos:List Int}{t u:Nat}{l:List Ent}:(Cfg.mk mem pos (c.buf.set t l)).bufAt u=if t=u∧u<c.buf.length then l else c.bufAt u:=by
 unfold Cfg.bufAt
 rw[au,aR,au]
 split
 ·rename_i h;subst h
  split
  ·rename_i h;simp [h]
  ·rename_i h;rw[bm (by omega)];simp [h]
 ·rename_i h;simp [h]
theorem Dw{p:Prg}{m:Int}{c:Cfg}(hf:Fits p m c){t i:Nat}(hi:i<(c.bufAt t).length):Fits p m (rC c t i) where
 mem:=wrM_ok hf.mem ((hf.bufOk t).2 _ (by rw[au,ap hi];exact bI hi))
 npos:=hf.npos
 nbuf:=by simp only[rC,aH];exact hf.nbuf
 pos u a hu:=by
  obtain⟨h1,h2,h3⟩:=hf.pos u a hu
  refine⟨h1,h2,λ ha=>⟨(h3 ha).1,?_⟩⟩
  unfold rC
  rw[wB]
  split
  ·rename_i h
   have:=(h3 ha).2
   rw[←h.1]at this
   rw[this]at hi
   simp at hi
  ·exact(h3 ha).2
 few u l hu:=by
  simp only[rC]at hu
  rw[aR]at hu
  split at hu
  ·split at hu
   ·cases hu
    obtain⟨h1,h2⟩:=hf.bufOk t
    refine⟨?_,λ e he=>h2 e (List.mem_of_mem_eraseIdx he)⟩
    have:=List.length_eraseIdx_le (c.bufAt t) i
    omega
   ·cases hu
  ·exact hf.few u l hu
 quiet hm:=by
  have:=hf.quiet hm
  exfalso
  unfold Cfg.bufAt at hi
  rw[au]at hi
  cases e:c.buf[t]? with
  |none=>rw[e]at hi;simp at hi
  |some l=>rw[e,b9,this l (bh e)]at hi;simp at hi
theorem ent_ok{p:Prg}{t:Int}{n:Int}{s:Stp}(hs:StpOk p t n s)(h3:s.kind=3)(v:List Int):
  EntOk p ⟨(s.set.filter λ a=>(p.cell a.cell).thread== -1).map Asg.cell,(s.set.filter λ a=>(p.cell a.cell).thread== -1).map λ a=>mu v a.to⟩:=by
 obtain⟨a,r,hset,ha,hg,hr⟩:∃a r,s.set=a::r∧p.shB a.cell=true∧(p.cell a.cell).ghost=false∧∀b∈r,(p.cell b.cell).ghost=true∧p.viB t b.cell=true:=by
  rcases hs.kind with h|h|h|h|h|h|h
  ·exact absurd (h.1.symm.trans h3) (by decide)
  ·exact absurd (h.1.symm.trans h3) (by decide)
  ·exact h.2.2.2
  ·exact absurd (h.1.symm.trans h3) (by decide)
  ·exact absurd (h.1.symm.trans h3) (by decide)
  ·exact absurd (h.1.symm.trans h3) (by decide)
  ·exact absurd (h.1.symm.trans h3) (by decide)
 have hfil:(s.set.filter λ a=>(p.cell a.cell).thread== -1)=a::r.filter λ a=>(p.cell a.cell).thread== -1:=by
  rw[hset,List.filter_cons,if_pos (by simp [(eJ.1 ha).2])]
 have hsub:∀x∈(s.set.filter λ a=>(p.cell a.cell).thread== -1),AsgOk p x:=λ x hx=>hs.set x (eZ.1 hx).1
 refine⟨by simp,by rw[hfil];simp,?_,λ i c hc=> ?_,λ i c u hc hu=> ?_⟩
 ·exact hs.nodup.sublist (List.filter_sublist.map _)
 ·rw[hfil]at hc
  cases i with
  |zero=>
   simp only[aM,cA,Option.some.injEq]at hc
   subst hc
   exact⟨ha,by simp [hg]⟩
  |succ i=>
   simp only[aM,cN]at hc
   obtain⟨b,hb,rfl⟩:=aI.1 (bh hc)
   obtain⟨hb1,hb2⟩:=eZ.1 hb
   obtain⟨g1,g2⟩:=hr b hb1
   exact⟨eJ.2 ⟨(jT.1 g2).1,by simpa using hb2⟩,by simp [g1]⟩
 ·simp only[aN,bj]at hc hu
  obtain⟨x,hx,rfl⟩:=hc
  obtain⟨y,hy,rfl⟩:=hu
  rw[hx]at hy
  cases hy
  have hk:=hsub x (bh hx)
  rw[←hk.w]
  exact evZ_lt hk.to
theorem zC{α:Type}{l:List α}(h:l.isEmpty=true):l=[]:=by cases l with|nil=>rfl|cons a r=>cases h
theorem fits_exe{p:Prg}(hp:p.Ok){m:Int}{c:Cfg}(hf:Fits p m c){t i:Nat}(ht:t<p.threads.length)(hi:i<(p.thr t).steps.length)(he:qt p m c t (p.stp t i)=true):Fits p m (nG p m c t (p.stp t i)):=by
 have hs:=qN hp ht hi
 have hpt:=(wV hp ht).points
 obtain⟨s,hst⟩:∃s,p.stp t i=s:=⟨_,rfl⟩
 rw[hst]at hs he ⊢
 have hv:=wT hf t
 have npos:(iL c t s).length=p.threads.length:=by
  unfold iL
  split<;> simp [hf.npos]
 have hkb:mX p m c t s=true:=by simp only[qt,aB]at he;exact he.2
 have hpos0:∀(u:Nat) (a:Int),(iL c t s)[u]? =some a→-1≤a∧a<(p.thr u).points∧(a= -1→(p.thr u).asleep=true∧c.bufAt u=[]∧u≠t):=λ u a hu=>by
  unfold iL at hu
  have key:∀a:Int,(c.pos.set t s.dst)[u]? =some a→-1≤a∧a<(p.thr u).points∧(a= -1→(p.thr u).asleep=true∧c.bufAt u=[]∧u≠t):=λ a hk=>by
   rw[aR]at hk
   split at hk
   ·rename_i e;subst e
    split at hk
    ·cases hk
     have:=hs.dst
     exact⟨by omega,this.2,λ h=>by omega⟩
    ·cases hk
   ·rename_i e
    obtain⟨h1,h2,h3⟩:=hf.pos u a hk
    exact⟨h1,h2,λ h=>⟨(h3 h).1,(h3 h).2,λ e'=>e e'.symm⟩⟩
  split at hu
  ·rw[aR]at hu
   split at hu
   ·rename_i e;subst e
    split at hu
    ·rename_i hl
     cases hu
     rw[aH,hf.npos]at hl
     have:=(wV hp hl).points
     exact⟨by omega,by omega,λ h=>by omega⟩
    ·cases hu
   ·exact key a hu
  ·exact key a hu
 unfold nG
 split
 ·rename_i hk
  have hlen:(c.bufAt t).length<3:=by
   unfold mX at hkb
   rw[if_pos hk.1,cd]at hkb
   rcases hkb with h|h
   ·exact absurd (by simpa using h) hk.2
   ·split at h
    ·rw[zC h];decide
    ·simpa using h
  refine⟨xa hf.mem λ a ha=>hs.set a (eZ.1 ha).1,npos,by simp [hf.nbuf],λ u a hu=> ?_,λ u l hu=> ?_,λ h0=>absurd h0 hk.2⟩
  ·obtain⟨h1,h2,h3⟩:=hpos0 u a hu
   refine⟨h1,h2,λ ha=>⟨(h3 ha).1,?_⟩⟩
   rw[wB,if_neg (λ h=>(h3 ha).2.2 h.1.symm)]
   exact(h3 ha).2.1
  ·rw[aR]at hu
   split at hu
   ·split at hu
    ·cases hu
     refine⟨by rw[aF];simp;omega,λ e he=> ?_⟩
     rcases aW.1 he with h|h
     ·exact(hf.bufOk t).2 e h
     ·rw[cm]at h
      rw[h]
      exact ent_ok hs hk.1 _
    ·cases hu
   ·exact hf.few u l hu
 ·exact⟨xa hf.mem hs.set,npos,hf.nbuf,λ u a hu=>by
   obtain⟨h1,h2,h3⟩:=hpos0 u a hu
   exact⟨h1,h2,λ ha=>⟨(h3 ha).1,(h3 ha).2.1⟩⟩,hf.few,hf.quiet⟩
theorem rp{p:Prg}(hp:p.Ok){m:Int}{c:Cfg}(hf:Fits p m c){x:Cho}(hx:x∈fY p m c):Fits p m (fV p m c x):=by
 obtain⟨t,ht,⟨i,hi,he,rfl⟩|⟨i,hi,he,rfl⟩⟩:=l9.1 hx
 ·rw[oc]
  exact fits_exe hp hf ht hi he
 ·rw[qY hf hi he]
  exact Dw hf hi
theorem jl{p:Prg}(hp:p.Ok)(m:Int):Fits p m (bS p):=by
 have hb:∀t,(bS p).bufAt t=[]:=λ t=>by
  unfold Cfg.bufAt bS
  rw[au,aN]
  cases p.threads[t]? <;> rfl
 refine⟨⟨by simp [bS],λ i v h=> ?_⟩,by simp [bS],by simp [bS],λ t a h=> ?_,λ t l h=> ?_,λ _ l h=> ?_⟩
 ·simp only[bS,aN,bj]at h
  obtain⟨c,hc,rfl⟩:=h
  have:=(hp.cells c (bh hc)).init
  unfold Prg.cell
  rw[ad,jA hc]
  exact this
 ·simp only[bS,aN,bj]at h
  obtain⟨x,hx,rfl⟩:=h
  have hpt:=(hp.threads t x hx).points
  have e:p.thr t=x:=jA hx
  rw[e]
  split
  ·rename_i h;exact⟨by omega,by omega,λ _=>⟨h,hb t⟩⟩
  ·exact⟨by omega,by omega,λ h=>by omega⟩
 ·simp only[bS,aN,bj]at h
  obtain⟨x,hx,rfl⟩:=h
  exact⟨by simp,λ e he=>by cases he⟩
 ·simp only[bS,aI]at h
  obtain⟨x,hx,rfl⟩:=h
  rfl
theorem nD{p:Prg}(hp:p.Ok){m:Int}:∀{l:List Cho} {c:Cfg},Fits p m c→fK p m c l→∀d∈iS p m c l,Fits p m d
 |[],c,hf,_,d,hd=>by
  simp only[iS,cm]at hd
  rw[hd];exact hf
 |x::r,c,hf,hr,d,hd=>by
  simp only[iS,aV]at hd
  rcases hd with rfl|hd
  ·exact hf
  ·exact nD hp (rp hp hf hr.1) hr.2 d hd
theorem kV{p:Prg}{m:Int}:∀(l:List Cho) (c:Cfg),(iS p m c l).length=l.length+1
 |[],_=>rfl
 |x::r,c=>by simp only[iS,ae,kV r]
end Go.Proofs.YtdpdbokicanpoaaGreatDoor
end
namespace Go.Proofs.YtdpdbokicanpoaaGreatDoor
section
open Go Go.Ab
theorem cq(x:Int)(h0: -9223372036854775808≤x)(h1:x≤9223372036854775807):IntKind.i64.wrap x=x:=by
 rw[IntKind.wrap_i64];omega
theorem bC(j:Nat)(h:j<9223372036854775807):IntKind.i64.wrap ((j:Int)+1)=((j+1:Nat):Int):=by
 rw[cq _ (by omega) (by omega)];rfl
abbrev iD(n:Int):D:= .int .i64 n
abbrev di(n:Int):A:= .d (.int .i64 n)
abbrev dn(n:Nat):A:= .d (.int .i64 n)
abbrev db(b:Bool):A:= .d (.bool b)
def bu(l:List Int):D:= .sl 1 (l.map iD)
def bsD(l:List Bool):D:= .sl 1 (l.map .bool)
theorem dQ{α:Type}{f:α→D}{l:List α}{j:Nat}{d:α}(h:j<l.length):List.getD (l.map f) j default=f (l.getD j d):=by
 rw[au,aN,au,ap h];rfl
theorem ry{α:Type}{l:List α}{j:Nat}(d:α)(h:j<l.length):l.drop j=l.getD j d::l.drop (j+1):=by
 rw[List.drop_eq_getElem_cons h,au,ap h];rfl
theorem bT{α:Type}{l:List α}{j:Nat}(d:α)(h:j<l.length):l.getD j d∈l:=by
 rw[au,ap h];exact bI h
namespace Ex
mutual
def d:Ex→D
 | .mk o w n k=> .agg [iD o,iD w,iD n,.sl 4 (ds k)]
def ds:List Ex→List D
 |[]=>[]
 |e::r=>e.d::ds r
end
theorem ds_map:∀(l:List Ex),ds l=l.map d
 |[]=>by simp [ds]
 |e::r=>by simp [ds,ds_map r]
theorem d_eq(e:Ex):e.d= .agg [iD e.op,iD e.w,iD e.n,.sl 4 (e.kids.map d)]:=by
 cases e;simp only[d,op,w,n,kids,ds_map]
end Ex
def fb(c:Cel):D:= .agg [.str c.name,iD c.w,iD c.init,iD c.thread,.bool c.ghost,iD c.mod]
def aY(l:List Cel):D:= .sl 6 (l.map fb)
end
section
open Go Go.Ab
theorem qb{w:Nat}(h:w≤8):2^w≤256:=gn (n:=2) (j:=8) (by omega) h
theorem yY(w:Nat):1≤2^w:=Nat.pow_pos (by omega)
theorem jp(n:Nat)(h:n<18446744073709551616):(BitVec.ofInt IntKind.i64.bits (n:Int)).toNat=n:=by
 simp only[IntKind.bits,BitVec.toNat_ofInt]
 omega
theorem CB(a:Int):(BitVec.ofInt IntKind.i64.bits a).toNat=(a % 18446744073709551616).toNat:=by
 simp only[IntKind.bits,BitVec.toNat_ofInt]
 rfl
theorem mod_mask(a:Int){w:Nat}(hw:w≤8):(a % 18446744073709551616).toNat % 2^w=lowb a w:=by
 simp only[lowb]
 have hw':w=0∨w=1∨w=2∨w=3∨w=4∨w=5∨w=6∨w=7∨w=8:=by omega
 rcases hw' with rfl|rfl|rfl|rfl|rfl|rfl|rfl|rfl|rfl<;> simp only[Nat.reducePow,Int.cast_ofNat_Int]<;> omega
theorem pQ(n:Nat)(h:n<9223372036854775808):IntKind.i64.wrap (n:Int)=n:=cq _ (by omega) (by omega)
theorem and_mask(a:Int){w:Nat}(hw:w≤8):IntKind.i64.wrap ((BitVec.ofInt IntKind.i64.bits a &&& BitVec.ofInt IntKind.i64.bits (((2^w:Nat):Int) - 1)).toNat:Int)=(lowb a w:Nat):=by
 have hp:=qb hw
 have h1:1≤2^w:=Nat.pow_pos (by omega)
 rw[BitVec.toNat_and,CB,show((2^w:Nat):Int) - 1=((2^w - 1:Nat):Int)by omega,jp _ (by omega),Nat.and_two_pow_sub_one_eq_mod,mod_mask a hw]
 exact pQ _ (by have:=xp a w;omega)
theorem DK{a:Nat}(ha:a<256):IntKind.i64.wrap ((BitVec.ofInt IntKind.i64.bits (if IntKind.i64.signed then -1 else IntKind.i64.max) ^^^ BitVec.ofInt IntKind.i64.bits (a:Int)).toNat:Int)= -1 - (a:Int):=by
 show IntKind.i64.wrap ((BitVec.ofInt 64 (-1) ^^^ BitVec.ofInt 64 (a:Int)).toNat:Int)=_
 have h:(BitVec.ofInt 64 (a:Int)).toNat=a:=jp a (by omega)
 rw[show BitVec.ofInt 64 (-1)=BitVec.allOnes 64 by decide,BitVec.allOnes_xor,BitVec.toNat_not,h,IntKind.wrap_i64]
 omega
theorem ki{a w:Nat}(h:a<2^w):lowb (a:Int) w=a:=by
 simp only[lowb]
 rw[Int.emod_eq_of_lt (by omega) (by omega)]
 omega
def bAnd(a b:Int):Int:=IntKind.i64.wrap ((BitVec.ofInt IntKind.i64.bits a &&& BitVec.ofInt IntKind.i64.bits b).toNat:Int)
def bOr(a b:Int):Int:=IntKind.i64.wrap ((BitVec.ofInt IntKind.i64.bits a ||| BitVec.ofInt IntKind.i64.bits b).toNat:Int)
def bXor(a b:Int):Int:=IntKind.i64.wrap ((BitVec.ofInt IntKind.i64.bits a ^^^ BitVec.ofInt IntKind.i64.bits b).toNat:Int)
def bNot(a:Int):Int:=IntKind.i64.wrap ((BitVec.ofInt IntKind.i64.bits (if IntKind.i64.signed then -1 else IntKind.i64.max) ^^^ BitVec.ofInt IntKind.i64.bits a).toNat:Int)
def bShl(a b:Int):Int:=IntKind.i64.wrap (a*2^(min b.toNat IntKind.i64.bits))
section
variable {P:Program} {t:TypeId} {k:Prop→A→Prop} {a b:Int}
@[go_sem high,go_sem ↓ high] theorem rdBin_and64:dE P .and t k (.d (.int .i64 a)) (.d (.int .i64 b))=k True (.d (.int .i64 (bAnd a b))):=by simp only[dE,fc,if_true];rfl
@[go_sem high,go_sem ↓ high] theorem rdBin_or64:dE P .or t k (.d (.int .i64 a)) (.d (.int .i64 b))=k True (.d (.int .i64 (bOr a b))):=by simp only[dE,fc,if_true];rfl
@[go_sem high,go_sem ↓ high] theorem rdBin_xor64:dE P .xor t k (.d (.int .i64 a)) (.d (.int .i64 b))=k True (.d (.int .i64 (bXor a b))):=by simp only[dE,fc,if_true];rfl
@[go_sem high,go_sem ↓ high] theorem rdBin_shl64:dE P .shl t k (.d (.int .i64 a)) (.d (.int .i64 b))=k (0≤b) (.d (.int .i64 (bShl a b))):=(rfl)
@[go_sem high,go_sem ↓ high] theorem rdUn_compl64:pi .xor k (.d (.int .i64 a))=k True (.d (.int .i64 (bNot a))):=(rfl)
end
theorem oB(a:Int){w:Nat}(hw:w≤8):bAnd a (((2^w:Nat):Int) - 1)=(lowb a w:Nat):=and_mask a hw
theorem An{a b:Nat}(ha:a<4611686018427387904)(hb:b<4611686018427387904):bAnd a b=(a &&& b:Nat):=by
 unfold bAnd
 rw[BitVec.toNat_and,jp _ (by omega),jp _ (by omega)]
 exact pQ _ (by have:=Nat.and_lt_two_pow (n:=62) a (y:=b) (by simpa using hb);simp at this;omega)
theorem Cw{a b:Nat}(ha:a<4611686018427387904)(hb:b<4611686018427387904):bOr a b=(a ||| b:Nat):=by
 unfold bOr
 rw[BitVec.toNat_or,jp _ (by omega),jp _ (by omega)]
 exact pQ _ (by have:=Nat.or_lt_two_pow (n:=62) (x:=a) (y:=b) (by simpa using ha) (by simpa using hb);simp at this;omega)
theorem Am{a b:Nat}(ha:a<4611686018427387904)(hb:b<4611686018427387904):bXor a b=(a ^^^ b:Nat):=by
 unfold bXor
 rw[BitVec.toNat_xor,jp _ (by omega),jp _ (by omega)]
 exact pQ _ (by have:=Nat.xor_lt_two_pow (n:=62) (x:=a) (y:=b) (by simpa using ha) (by simpa using hb);simp at this;omega)
theorem bNot_nat{a:Nat}(ha:a<256):bNot a= -1 - (a:Int):=DK ha
end
section
open Go Go.Ab
theorem zx{o n w:Int}{Z:St}{G:Glob}{R:A→St→Prop}{l:St}(hbd:Bd Z.length Z)(h:R (.d (Ex.mk o w n []).d) Z):∃r Z',bw G Z.length [.d (.agg [iD o,iD w,iD n,.nils])] (Z++l) [r] Z'∧R r Z':=by
 refine⟨_,Z,(bw.cut (aE _) hbd rfl).trans (bw.nils ?_),h⟩
 rw[Ex.d_eq]
 repeat' first|exact NilAL.nil|apply NilAL.cons|exact NilA.refl _|apply NilA.d|exact NilD.refl _|exact NilD.nil _|apply NilD.sl|apply NilD.agg|apply NilDL.cons|exact NilDL.nil
theorem qw(n w:Int)(Z:St)(G:Glob)(R:A→St→Prop)(h:R (.d (Ex.mk 1 w n []).d) Z):AC Tryz.prog G 52 [di n,di w] Z R:=by
 refine bg a9 Tryz.func52 rfl Tryz.ntmps52 (by simp only[go_sem]) λ hbd=> ?_
 simp only[ae,aj,Nat.reduceAdd,Nat.reduceSub,af,ag,ah,ak]
 simp only[go_sem]
 exact zx hbd h
theorem Cv(n w:Int)(Z:St)(G:Glob)(R:A→St→Prop)(h:R (.d (Ex.mk 2 w n []).d) Z):AC Tryz.prog G 51 [di n,di w] Z R:=by
 refine bg a9 Tryz.func51 rfl Tryz.ntmps51 (by simp only[go_sem]) λ hbd=> ?_
 simp only[ae,aj,Nat.reduceAdd,Nat.reduceSub,af,ag,ah,ak]
 simp only[go_sem]
 exact zx hbd h
theorem mY{e:Ex}{i:Nat}(h:i<e.kids.length):List.getD (e.kids.map Ex.d) i default= .agg [iD (e.kids.getD i (.mk 0 0 0 [])).op,iD (e.kw i),iD (e.kids.getD i (.mk 0 0 0 [])).n,.sl 4 ((e.kids.getD i (.mk 0 0 0 [])).kids.map Ex.d)]:=by
 rw[dQ (d:= .mk 0 0 0 []) h,Ex.d_eq];rfl
inductive Ex.Ok:Ex→Prop where
 |mk {e:Ex} (h:e.kids.length≤reachBytes) (hk:∀k∈e.kids,Ex.Ok k):Ex.Ok e
theorem mK{e:Ex}{j:Nat}(h:j<e.kids.length):e.kids.getD j (.mk 0 0 0 [])∈e.kids:=bT _ h
theorem yk{l:List Ex}{j:Nat}(h:j<l.length):((l.take (j+1)).map Ex.nodes).sum=((l.take j).map Ex.nodes).sum+(l.getD j (.mk 0 0 0 [])).nodes:=by
 rw[gp,ap h,au,ap h,aJ,List.sum_append]
 simp
theorem pu{e k:Ex}{j:Nat}(h:j<e.kids.length)(hk:e.kids.getD j (.mk 0 0 0 [])=k):List.getD (e.kids.map Ex.d) j default= .agg [iD k.op,iD k.w,iD k.n,.sl 4 (k.kids.map Ex.d)]:=by
 rw[dQ (d:= .mk 0 0 0 []) h,hk,Ex.d_eq]
theorem wX{l:List Ex}(j:Nat):((l.take j).map Ex.nodes).sum≤(l.map Ex.nodes).sum:=by
 conv=>rhs;rw[←ct j l]
 rw[aJ,List.sum_append];omega
theorem w9(e:Ex)(hok:e.Ok):∀(L:Nat) (hL:L≤100000) (Z:St) (G:Glob) (R:A→St→Prop) (h:R (dn (min e.nodes L)) Z),AC Tryz.prog G 62 [.d e.d,dn L] Z R:=by
 induction hok with
 |mk hk hks ih=>
 rename_i e
 intro L hL Z G R h
 rw[Ex.d_eq]
 refine bg a9 Tryz.func62 rfl Tryz.ntmps62 (by simp only[go_sem]) λ hbd=> ?_
 simp only[ae,aj,Nat.reduceAdd,Nat.reduceSub,af,ag,ah,ak]
 simp only[go_sem]
 refine⟨λ c=>aQ hbd ?_,λ c=> ?_⟩
 ·simp at c
  rw[show min e.nodes L=0 by omega]at h
  exact h
 simp at c
 refine aS (λ m fr st=>∃j n:Nat,j≤e.kids.length∧m=e.kids.length - j∧n=min (1+((e.kids.take j).map Ex.nodes).sum) L∧
  fr=%[.o,dn L,.ref Z.length 0,.o,.o,dn n,dn j|D5 (D4 [.o,.o])]∧st=Z++[some (.cells [.d (iD e.op),.d (iD e.w),.d (iD e.n),.d (.sl 4 (e.kids.map Ex.d))])]) e.kids.length _
  (Wk.mask [1,2,5,6] ⟨0,1,by omega,rfl,by simp;omega,rfl,rfl⟩) ?_
 rintro m fr st ⟨j,n,hj,hm,hn,rfl,rfl⟩
 have ht:=wX (l:=e.kids) j
 have hnd:=e.nodes_eq
 rcases aC j e.kids.length with hlt|hge
 ·have hd:decide ((j:Int)<(e.kids.length:Int))=true:=by simp;omega
  have hs:=yk hlt
  rcases aC n L with hnl|hnl
  ·have hd2:decide ((n:Int)<(L:Int))=true:=by simp;omega
   obtain⟨k,hkk⟩:∃k,e.kids.getD j (.mk 0 0 0 [])=k:=⟨_,rfl⟩
   have hmem:k∈e.kids:=hkk▸mK hlt
   have e1:=pu hlt hkk
   rw[hkk]at hs
   have w1:IntKind.i64.wrap ((L:Int) - n)=((L - n:Nat):Int):=by rw[cq _ (by omega) (by omega)];omega
   have w2:=bC j (by simp only[reachBytes]at hk;omega)
   simp only[go_sem,ac,hd,hd2,e1,w1]
   rw[←Ex.d_eq k]
   refine⟨⟨by omega,by omega⟩,bH (ih k hmem (L - n) (by omega) _ _ _ ?_)⟩
   have w3:IntKind.i64.wrap ((n:Int)+(min k.nodes (L - n):Nat))=((n+min k.nodes (L - n):Nat):Int):=by rw[cq _ (by omega) (by omega)];omega
   simp only[go_sem,w2,w3]
   exact Wk.keep [1,2,5,6] [0] (by decide) (aE _) hbd ⟨e.kids.length - (j+1),by omega,j+1,n+min k.nodes (L - n),hlt,rfl,by omega,by simp only[go_sem],by simp only[go_sem]⟩
  ·have hd2:decide ((n:Int)<(L:Int))=false:=by simp;omega
   simp only[go_sem,ac,hd,hd2]
   refine aQ hbd ?_
   rw[show min e.nodes L=n by omega]at h
   exact h
 ·have hd:decide ((j:Int)<(e.kids.length:Int))=false:=by simp;omega
  simp only[go_sem,ac,hd]
  refine aQ hbd ?_
  rw[aK hge]at hn
  rw[show min e.nodes L=n by omega]at h
  exact h
theorem small_ac(e:Ex)(hok:e.Ok)(L:Nat)(hL:L≤1000)(Z:St)(G:Glob)(R:A→St→Prop)(h:R (db (decide (e.nodes≤L))) Z):AC Tryz.prog G 28 [.d e.d,dn L] Z R:=by
 rw[Ex.d_eq]
 refine bg a9 Tryz.func28 rfl Tryz.ntmps28 (by simp only[go_sem]) λ hbd=> ?_
 simp only[ae,aj,Nat.reduceAdd,Nat.reduceSub,af,ag,ah,ak]
 have w2:=bC L (by omega)
 simp only[go_sem,w2]
 rw[←Ex.d_eq e]
 refine bH (w9 e hok (L+1) (by omega) _ _ _ ?_)
 simp only[go_sem]
 refine aQ hbd ?_
 have:decide (((min e.nodes (L+1):Nat):Int)≤(L:Int))=decide (e.nodes≤L):=by
  apply decide_eq_decide.2;omega
 rw[this];exact h
theorem iM{l:List Cel}{j:Nat}(h:j<l.length):List.getD (l.map fb) j default=fb (l.getD j fU):=dQ h
theorem uj{e:Ex}(h:e.fits=true):0≤e.n:=by
 simp only[Ex.fits,aB,av]at h
 obtain⟨-,h⟩:=h
 split at h
 ·simp at h;exact h.1
 ·split at h
  ·simp at h;exact h.1
  ·split at h
   ·simp at h;omega
   ·split at h
    ·simp at h;omega
    ·split at h
     ·simp at h;omega
     ·simp at h;omega
theorem aL{α:Type}{l:List α}{i:Nat}{x:α}(h:l[i]? =some x):i<l.length:=(aA.1 h).1
theorem iR{Z:St}{i:Nat}{x y:Option Ob}(h:Z[i]? =some x):(Z.set i y)[i]? =some y:=by
 rw[aR,if_pos rfl,if_pos (aL h)]
theorem fM{Z:St}{i j:Nat}{y:Option Ob}(h:i≠j):(Z.set i y)[j]? =Z[j]? :=by
 rw[aR,if_neg h]
def cB:D:= .agg [iD 0,iD 1,iD 3,iD 7,iD 15,iD 31,iD 63,iD 127,iD 255]
def DS(e:Ex)(ws:List Int):Prop:=e.kids.length=ws.length∧∀i,i<ws.length→e.kw i=ws.getD i 0
theorem wS(e:Ex)(hk:e.kids.length≤reachBytes)(ws:List Int)(Z:St)(G:Glob)(R:A→St→Prop)(h1:DS e ws→R (db true) Z)(h2:¬DS e ws→R (db false) Z):
    AC Tryz.prog G 163 [.d (.sl 4 (e.kids.map Ex.d)),.d (bu ws)] Z R:=by
  refine bg a9 Tryz.func163 rfl Tryz.ntmps163 (by simp only[go_sem]) λ hbd=> ?_
  simp only[ae,aj,Nat.reduceAdd,Nat.reduceSub,af,ag,ah,ak]
  simp only[bu,go_sem,ac]
  refine⟨λ q=>cw ?_,λ q=> ?_⟩
  · exact h2 λ h=>by have:=h.1;simp [this]at q
  have hl:e.kids.length=ws.length:=by simp at q;omega
  refine aS (λ m fr st=>∃j:Nat,j≤ws.length∧m=ws.length - j∧(∀i,i<j→e.kw i=ws.getD i 0)∧fr=%[.d (.sl 4 (e.kids.map Ex.d)),.d (.sl 1 (ws.map iD))|D4 %[.o,.o,.d (.sl 1 (ws.map iD)),dn ws.length,dn j|D4 [.o,.o,.o,.o]]]∧st=Z) ws.length _
    (Wk.mask [0,1,12,13,14] ⟨0,by omega,rfl,by intro i hi;omega,rfl,rfl⟩) ?_
  rintro m fr st ⟨j,hj,hm,hw,rfl,rfl⟩
  rcases aC j ws.length with hlt|hge
  · have hd:decide ((j:Int)<(ws.length:Int))=true:=by simp;omega
    have e1:List.getD (List.map iD ws) j default=iD (ws.getD j 0):=dQ hlt
    have k1:=mY (e:=e) (i:=j) (by omega)
    have w2:=bC j (by simp only[reachBytes]at hk;omega)
    simp only[go_sem,ac,hd,e1,k1,w2]
    refine⟨⟨by omega,by omega⟩,⟨by omega,by omega⟩,λ q=>cw ?_,λ q=>Wk.mask [0,1,12,13,14] ⟨ws.length - (j+1),by omega,j+1,hlt,rfl,?_,rfl,rfl⟩⟩
    · exact h2 λ h=>by have:=h.2 j hlt;simp [this]at q
    · intro i hi
      rcases aC i j with h|h
      · exact hw i h
      · obtain rfl:i=j:=by omega
        simpa using q
  · have hd:decide ((j:Int)<(ws.length:Int))=false:=by simp;omega
    simp only[go_sem,ac,hd]
    exact cw (h1 ⟨hl,λ i hi=>hw i (by omega)⟩)
theorem zo{W:Nat}(h:W≤8):List.getD [iD 0,iD 1,iD 3,iD 7,iD 15,iD 31,iD 63,iD 127,iD 255] (W*1) default=iD ((2^W:Nat) - 1):=by
  have:W=0∨W=1∨W=2∨W=3∨W=4∨W=5∨W=6∨W=7∨W=8:=by omega
  rcases this with rfl|rfl|rfl|rfl|rfl|rfl|rfl|rfl|rfl<;> rfl
def Ex.Fit(e:Ex):Prop:=(Ex.arity e.op=e.kids.length∧1≤e.w∧e.w≤8)∧
  (
   if e.op=1 then(0≤e.n∧e.n<2^e.w.toNat)
   else if e.op=2∨e.op=3 then(0≤e.n∧e.n<32)
   else if e.op=4 then(e.n=0∧e.kw 0=e.w)
   else if e.op=11∨e.op=12∨e.op=13 then(e.n=0∧e.w=1∧e.kw 0=e.kw 1)
   else if e.op=14 then(e.n=0∧e.kw 0=1∧e.kw 1=e.w∧e.kw 2=e.w)
   else(e.n=0∧e.kw 0=e.w∧e.kw 1=e.w))
theorem nE(e:Ex):e.fits=true↔e.Fit:=by
  simp only[Ex.fits,Ex.Fit,aB,av]
  constructor
  · rintro⟨h,h2⟩
    refine⟨h,?_⟩
    repeat' split at h2
    all_goals simp_all
  · rintro⟨h,h2⟩
    refine⟨h,?_⟩
    repeat' split
    all_goals simp_all
theorem not_fits{e:Ex}(h:¬e.Fit):e.fits=false:=by
  rw[←Bool.not_eq_true,nE];exact h
theorem wide1{e:Ex}{a:Int}:DS e [a]↔(e.kids.length=1∧e.kw 0=a):=by
  constructor
  · rintro⟨h1,h2⟩
    exact⟨h1,h2 0 (by simp)⟩
  · rintro⟨h1,h2⟩
    exact⟨h1,λ i hi=>by
                              obtain rfl:i=0:=by simpa using hi
                              exact h2⟩
theorem wide2{e:Ex}{a b:Int}:DS e [a,b]↔(e.kids.length=2∧e.kw 0=a∧e.kw 1=b):=by
  constructor
  · rintro⟨h1,h2⟩
    exact⟨h1,h2 0 (by simp),h2 1 (by simp)⟩
  · rintro⟨h1,h2,h3⟩
    refine⟨h1,λ i hi=> ?_⟩
    have:i=0∨i=1:=by simp at hi;omega
    rcases this with rfl|rfl
    · exact h2
    · exact h3
theorem wide3{e:Ex}{a b c:Int}:DS e [a,b,c]↔(e.kids.length=3∧e.kw 0=a∧e.kw 1=b∧e.kw 2=c):=by
  constructor
  · rintro⟨h1,h2⟩
    exact⟨h1,h2 0 (by simp),h2 1 (by simp),h2 2 (by simp)⟩
  · rintro⟨h1,h2,h3,h4⟩
    refine⟨h1,λ i hi=> ?_⟩
    have:i=0∨i=1∨i=2:=by simp at hi;omega
    rcases this with rfl|rfl|rfl
    · exact h2
    · exact h3
    · exact h4
theorem pN(o:Int):(Ex.arity o=0↔o=1∨o=2∨o=3)∧(o=4→Ex.arity o=1)∧(5≤o→o≤13→Ex.arity o=2)∧(o=14→Ex.arity o=3)∧(o<1∨14<o→Ex.arity o= -1):=by
  unfold Ex.arity
  refine⟨?_,?_,?_,?_,?_⟩
  · repeat' split
    all_goals omega
  all_goals intros
  all_goals (repeat' split)<;> omega
theorem CF(e:Ex)(hk:e.kids.length≤reachBytes)(Z:St)(G:Glob)(hG:G.g 0=some cB)(R:A→St→Prop)(h:R (db e.fits) Z):AC Tryz.prog G 147 [.ea e.d 0] Z R:=by
  have hT:e.Fit→R (db true) Z:=λ f=>by rw[(nE e).2 f]at h;exact h
  have hF:¬e.Fit→R (db false) Z:=λ f=>by rw[not_fits f]at h;exact h
  clear h
  obtain⟨ar0,ar1,ar2,ar3,arx⟩:=pN e.op
  rw[Ex.d_eq]
  have hev:∀fr,ev G fr (.global 0)= .ea cB 0:=λ fr=>wh hG
  by_cases hw:¬(1≤e.w∧e.w≤8)
  · have hR:=hF λ f=>hw f.1.2
    by_cases d:e.w<1
    · have d1:decide (e.w<1)=true:=by simp [d]
      have d2:decide (8<e.w)=false:=by simp;omega
      refine bD [3] a9 Tryz.func147 rfl Tryz.ntmps147 (by simp only[go_sem]) λ hbd=> ?_
      simp only[ae,aj,Nat.reduceAdd,Nat.reduceSub,af,ag,ah,ak]
      simp only[go_sem]
      refine bc (λ _ _=>False) ?_ (λ _ _ h=>h.elim)
      simp only[go_sem,d1,d2]
      exact cw hR
    · have d1:decide (e.w<1)=false:=by simp [d]
      have d2:decide (8<e.w)=true:=by simp;omega
      refine bD [3] a9 Tryz.func147 rfl Tryz.ntmps147 (by simp only[go_sem]) λ hbd=> ?_
      simp only[ae,aj,Nat.reduceAdd,Nat.reduceSub,af,ag,ah,ak]
      simp only[go_sem]
      refine bc (λ _ _=>False) ?_ (λ _ _ h=>h.elim)
      simp only[go_sem,d1,d2]
      exact cw hR
  obtain⟨h1,h2⟩:=Classical.not_not.1 hw
  have d1:decide (e.w<1)=false:=by simp;omega
  have d2:decide (8<e.w)=false:=by simp;omega
  obtain⟨W,hW⟩:∃W:Nat,e.w=W:=⟨e.w.toNat,by omega⟩
  have two:((2:Int)^W)=((2^W:Nat):Int):=by simp
  by_cases o1:e.op=1
  · have b1:(e.op==1)=true:=by simp [o1]
    have hm:=zo (W:=W) (by omega)
    refine bM a9 Tryz.func147 rfl Tryz.ntmps147 (by simp only[go_sem]) λ hbd=> ?_
    simp only[ae,aj,Nat.reduceAdd,Nat.reduceSub,af,ag,ah,ak]
    simp only[go_sem,d1,d2,b1]
    refine bb (.tk 27 0<| .done) (by kernel_rfl) ?_
    simp only[go_sem,hev,ac,hW,cB,hm]
    refine⟨λ _=>⟨by omega,by omega⟩,λ q=>⟨q,by omega⟩,cw ?_⟩
    have hn:e.op≠2:=by omega
    cases hb:(((e.kids.length:Int)==0&&decide (0≤e.n))&&decide (e.n≤((2^W:Nat):Int) - 1))
    · refine hF λ f=> ?_
      have f1:=f.1.1
      have f2:=f.2
      rw[if_pos o1,hW,ad,two]at f2
      rw[ar0.2 (.inl o1)]at f1
      simp only[dw,ck,ay]at hb
      omega
    · refine hT ?_
      simp only[aB,cg,av]at hb
      refine⟨⟨by rw[ar0.2 (.inl o1)];omega,h1,h2⟩,?_⟩
      rw[if_pos o1,hW,ad,two]
      omega
  have b1:(e.op==1)=false:=by simp [o1]
  by_cases o2:e.op=2∨e.op=3
  · have key:∀b:Bool,(((e.kids.length:Int)==0&&decide (0≤e.n))&&decide (e.n<32))=b→R (db b) Z:=λ b hb=>by
      cases b
      · refine hF λ f=> ?_
        have f1:=f.1.1
        have f2:=f.2
        rw[if_neg o1,if_pos o2]at f2
        rw[ar0.2 (.inr o2)]at f1
        simp only[dw,ck,ay]at hb
        omega
      · refine hT ?_
        simp only[aB,cg,av]at hb
        refine⟨⟨by rw[ar0.2 (.inr o2)];omega,h1,h2⟩,?_⟩
        rw[if_neg o1,if_pos o2]
        omega
    rcases o2 with o|o
    · have b2:(e.op==2)=true:=by simp [o]
      refine bM a9 Tryz.func147 rfl Tryz.ntmps147 (by simp only[go_sem]) λ hbd=> ?_
      simp only[ae,aj,Nat.reduceAdd,Nat.reduceSub,af,ag,ah,ak]
      simp only[go_sem,d1,d2,b1,b2,ac]
      exact cw (key _ rfl)
    · have b2:(e.op==2)=false:=by simp [o]
      have b3:(e.op==3)=true:=by simp [o]
      refine bM a9 Tryz.func147 rfl Tryz.ntmps147 (by simp only[go_sem]) λ hbd=> ?_
      simp only[ae,aj,Nat.reduceAdd,Nat.reduceSub,af,ag,ah,ak]
      simp only[go_sem,d1,d2,b1,b2,b3,ac]
      exact cw (key _ rfl)
  have b2:(e.op==2)=false:=by simp;omega
  have b3:(e.op==3)=false:=by simp;omega
  by_cases n0:¬e.n=0
  · have bn:(e.n !=0)=true:=by simp [n0]
    refine bM a9 Tryz.func147 rfl Tryz.ntmps147 (by simp only[go_sem]) λ hbd=> ?_
    simp only[ae,aj,Nat.reduceAdd,Nat.reduceSub,af,ag,ah,ak]
    simp only[go_sem,d1,d2,b1,b2,b3,bn]
    refine cw (hF λ f=> ?_)
    have f2:=f.2
    rw[if_neg o1,if_neg o2]at f2
    repeat' split at f2
    all_goals exact n0 f2.1
  replace n0:=Classical.not_not.1 n0
  by_cases o4:e.op=4
  · have b4:(e.op==4)=true:=by simp [o4]
    refine bM a9 Tryz.func147 rfl Tryz.ntmps147 (by simp only[go_sem]) λ hbd=> ?_
    simp only[ae,aj,Nat.reduceAdd,Nat.reduceSub,af,ag,ah,ak]
    simp only[go_sem,d1,d2,b1,b2,b3,b4,n0,show((0:Int)!=0)=false from rfl]
    refine bb (.tk 11 0<| .done) (by kernel_rfl) ?_
    simp only[go_sem]
    refine bH (lz (bw.deep [0] 4) ?_)
    simp only[go_sem]
    refine wS e hk [e.w] _ _ _ (λ q=> ?_) (λ q=> ?_)<;> (try simp only[go_sem])<;> refine aQ hbd ?_
    · refine hT ⟨⟨?_,h1,h2⟩,?_⟩
      · rw[ar1 o4,(wide1.1 q).1];rfl
      · rw[if_neg o1,if_neg o2,if_pos o4];exact⟨n0,(wide1.1 q).2⟩
    · refine hF λ f=>q (wide1.2 ?_)
      have f1:=f.1.1
      have f2:=f.2
      rw[ar1 o4]at f1
      rw[if_neg o1,if_neg o2,if_pos o4]at f2
      exact⟨by omega,f2.2⟩
  have b4:(e.op==4)=false:=by simp [o4]
  by_cases o11:e.op=11∨e.op=12∨e.op=13
  · have a2:=ar2 (by omega) (by omega)
    have fit:e.Fit↔(e.w=1∧e.kids.length=2∧e.kw 0=e.kw 1):=by
      unfold Ex.Fit
      rw[a2,if_neg o1,if_neg o2,if_neg o4,if_pos o11]
      constructor
      · rintro⟨⟨g1,-⟩,-,g2,g3⟩;exact⟨g2,by omega,g3⟩
      · rintro⟨g1,g2,g3⟩;exact⟨⟨by omega,h1,h2⟩,n0,g1,g3⟩
    by_cases hl:e.kids.length=2
    · have k0:=mY (e:=e) (i:=0) (by omega)
      have k1:=mY (e:=e) (i:=1) (by omega)
      refine bM a9 Tryz.func147 rfl Tryz.ntmps147 (by simp only[go_sem]) λ hbd=> ?_
      simp only[ae,aj,Nat.reduceAdd,Nat.reduceSub,af,ag,ah,ak]
      rcases o11 with o|o|o<;>
      · simp only[go_sem,d1,d2,o,Int.reduceBEq,n0,show((0:Int)!=0)=false from rfl]
        refine bb (.tk 31 0<| .done) (by kernel_rfl) ?_
        simp only[go_sem,ac,hl,k0,k1,bZ,dI,Int.reduceBEq,show(((2:Nat):Int)==2)=true from rfl,beq_self_eq_true,dJ]
        refine⟨λ _=>⟨by omega,by omega⟩,λ _=>⟨by omega,by omega⟩,cw ?_⟩
        cases hb:(e.w==1&&e.kw 0==e.kw 1)
        · refine hF λ f=> ?_
          obtain⟨g1,-,g3⟩:=fit.1 f
          simp [g1,g3]at hb
        · refine hT (fit.2 ?_)
          simp only[aB,cg]at hb
          exact⟨hb.1,hl,hb.2⟩
    · have hl2:((e.kids.length:Int)==2)=false:=by simp;omega
      refine bM a9 Tryz.func147 rfl Tryz.ntmps147 (by simp only[go_sem]) λ hbd=> ?_
      simp only[ae,aj,Nat.reduceAdd,Nat.reduceSub,af,ag,ah,ak]
      rcases o11 with o|o|o<;>
      · simp only[go_sem,d1,d2,o,Int.reduceBEq,n0,show((0:Int)!=0)=false from rfl]
        refine bb (.tk 31 0<| .done) (by kernel_rfl) ?_
        simp only[go_sem,ac,hl2,gL]
        exact cw (hF λ f=>hl (fit.1 f).2.1)
  by_cases o14:e.op=14
  · have a3:=ar3 o14
    refine bM a9 Tryz.func147 rfl Tryz.ntmps147 (by simp only[go_sem]) λ hbd=> ?_
    simp only[ae,aj,Nat.reduceAdd,Nat.reduceSub,af,ag,ah,ak]
    simp only[go_sem,d1,d2,o14,Int.reduceBEq,n0,show((0:Int)!=0)=false from rfl]
    refine bb (.tk 15 0<| .done) (by kernel_rfl) ?_
    simp only[go_sem]
    refine bH (lz (bw.deep [0] 4) ?_)
    simp only[go_sem]
    refine wS e hk [1,e.w,e.w] _ _ _ (λ q=> ?_) (λ q=> ?_)<;> (try simp only[go_sem])<;> refine aQ hbd ?_
    · obtain⟨q1,q2⟩:=wide3.1 q
      refine hT ⟨⟨by rw[a3,q1];rfl,h1,h2⟩,?_⟩
      rw[if_neg o1,if_neg o2,if_neg o4,if_neg o11,if_pos o14]
      exact⟨n0,q2⟩
    · refine hF λ f=>q (wide3.2 ?_)
      have f1:=f.1.1
      have f2:=f.2
      rw[a3]at f1
      rw[if_neg o1,if_neg o2,if_neg o4,if_neg o11,if_pos o14]at f2
      exact⟨by omega,f2.2⟩
  · by_cases ho:5≤e.op∧e.op≤10
    · have a2:=ar2 (by omega) (by omega)
      have fit:e.Fit↔DS e [e.w,e.w]:=by
        unfold Ex.Fit
        rw[a2,if_neg o1,if_neg o2,if_neg o4,if_neg o11,if_neg o14,wide2]
        constructor
        · rintro⟨⟨g1,-⟩,-,g2⟩;exact⟨by omega,g2⟩
        · rintro⟨g1,g2⟩;exact⟨⟨by omega,h1,h2⟩,n0,g2⟩
      have ho:e.op=5∨e.op=6∨e.op=7∨e.op=8∨e.op=9∨e.op=10:=by omega
      refine bM a9 Tryz.func147 rfl Tryz.ntmps147 (by simp only[go_sem]) λ hbd=> ?_
      simp only[ae,aj,Nat.reduceAdd,Nat.reduceSub,af,ag,ah,ak]
      rcases ho with o|o|o|o|o|o<;>
      · simp only[go_sem,d1,d2,o,Int.reduceBEq,n0,show((0:Int)!=0)=false from rfl]
        refine bb (.tk 15 0<| .done) (by kernel_rfl) ?_
        simp only[go_sem]
        refine bH (lz (bw.deep [0] 4) ?_)
        simp only[go_sem]
        refine wS e hk [e.w,e.w] _ _ _ (λ q=> ?_) (λ q=> ?_)<;> (try simp only[go_sem])<;> refine aQ hbd ?_
        · exact hT (fit.2 q)
        · exact hF λ f=>q (fit.1 f)
    · have x5:(e.op==5)=false:=by simp;omega
      have x6:(e.op==6)=false:=by simp;omega
      have x7:(e.op==7)=false:=by simp;omega
      have x8:(e.op==8)=false:=by simp;omega
      have x9:(e.op==9)=false:=by simp;omega
      have x10:(e.op==10)=false:=by simp;omega
      have x11:(e.op==11)=false:=by simp;omega
      have x12:(e.op==12)=false:=by simp;omega
      have x13:(e.op==13)=false:=by simp;omega
      have x14:(e.op==14)=false:=by simp;omega
      refine bM a9 Tryz.func147 rfl Tryz.ntmps147 (by simp only[go_sem]) λ hbd=> ?_
      simp only[ae,aj,Nat.reduceAdd,Nat.reduceSub,af,ag,ah,ak]
      simp only[go_sem,d1,d2,b1,b2,b3,b4,x5,x6,x7,x8,x9,x10,x11,x12,x13,x14,n0,show((0:Int)!=0)=false from rfl]
      refine cw (hF λ f=> ?_)
      have f1:=f.1.1
      rw[arx (by omega)]at f1
      omega
theorem xL(e:Ex)(l:Nat):e.deep (l+1)=(e.fits&&e.kids.all λ k=>k.deep l):=by cases e;simp only[Ex.deep]
theorem visit_ac(l:Nat):∀(e:Ex) (hok:e.Ok) (dep cnt:Nat) (hdl:dep+l=41) (hcnt:cnt+e.nodes≤600) (ic iv:Nat) (hne:ic≠iv) (Z:St) (hc:Z[ic]? =some (some (.cells [dn cnt])))
  (hv:Z[iv]? =some (some (.cells [.fn (.func 146) [] [.ref ic 0,.ref iv 0]]))) (G:Glob) (hG:G.g 0=some cB) (R:A→St→Prop) (h:∀c:Nat,(e.deep l=true→c=cnt+e.nodes)→R (db (e.deep l)) (Z.set ic (some (.cells [dn c])))),AC Tryz.prog G 146 [.ea e.d 0,dn dep,.ref ic 0,.ref iv 0] Z R:=by
 induction l with
 |zero=>
  intro e hok dep cnt hdl hcnt ic iv hne Z hc hv G hG R h
  have hz:e.deep 0=false:=by simp [Ex.deep]
  have hn1:1≤e.nodes:=by rw[Ex.nodes_eq];omega
  have w1:=bC cnt (by omega)
  have hc1:(Z.set ic (some (.cells [dn (cnt+1)])))[ic]? =some (some (.cells [dn (cnt+1)])):=iR hc
  have d1:decide ((600:Int)<((cnt+1:Nat):Int))=false:=by simp;omega
  have d2:decide ((40:Int)<(dep:Int))=true:=by simp;omega
  rw[Ex.d_eq]
  refine bD [4] a9 Tryz.func146 rfl Tryz.ntmps146 (by simp only[go_sem]) λ hbd=> ?_
  simp only[ae,aj,Nat.reduceAdd,Nat.reduceSub,af,ag,ah,ak]
  simp only[go_sem,aO hc,aX hc,w1]
  refine bc (λ _ _=>False) ?_ (λ _ _ h=>h.elim)
  simp only[go_sem,aO hc,aX hc,w1,aO hc1,aX hc1,d1,d2]
  refine gO (.bool true) ⟨λ q=>Bool.noConfusion q,?_⟩
  simp only[go_sem,aO hc1,aX hc1,d1,d2]
  refine⟨_,_,bw.refl _ _ _ _,?_⟩
  rw[hz]at h
  exact h (cnt+1) (λ q=>Bool.noConfusion q)
 |succ l ih=>
  intro e hok dep cnt hdl hcnt ic iv hne Z hc hv G hG R h
  obtain⟨hk,hks⟩:=hok
  have hnd:=e.nodes_eq
  have w1:=bC cnt (by omega)
  have hic:=aL hc
  have hc1:(Z.set ic (some (.cells [dn (cnt+1)])))[ic]? =some (some (.cells [dn (cnt+1)])):=iR hc
  have d1:decide ((600:Int)<((cnt+1:Nat):Int))=false:=by simp;omega
  have d2:decide ((40:Int)<(dep:Int))=false:=by simp;omega
  rw[xL]at h
  rw[Ex.d_eq]
  refine bD [4] a9 Tryz.func146 rfl Tryz.ntmps146 (by simp only[go_sem]) λ hbd=> ?_
  simp only[ae,aj,Nat.reduceAdd,Nat.reduceSub,af,ag,ah,ak]
  simp only[go_sem,aO hc,aX hc,w1]
  refine bc (λ fr st=>e.fits=true∧fr=%[.ea (.agg [iD e.op,iD e.w,iD e.n,.sl 4 (e.kids.map Ex.d)]) 0,dn dep,.ref ic 0,.ref iv 0|D6 [.o,.o,.o,.o,.o]]∧st=Z.set ic (some (.cells [dn (cnt+1)]))) ?_ ?_
  ·simp only[go_sem,aO hc,aX hc,w1,aO hc1,aX hc1,d1,d2]
   refine gO (.bool e.fits) ⟨λ q=> ?_,?_⟩
   ·simp only[go_sem]
    rw[←Ex.d_eq e]
    refine bH (CF e hk _ _ hG _ ?_)
    exact⟨rfl,rfl⟩
   simp only[go_sem,d1,d2]
   refine⟨λ q=>⟨_,_,bw.refl _ _ _ _,?_⟩,λ q=>Wk.mask [0,1,2,3] ⟨by simpa using q,rfl,rfl⟩⟩
   have q':e.fits=false:=by simpa using q
   rw[q',Ew]at h
   exact h (cnt+1) (λ q=>Bool.noConfusion q)
  rintro fr st ⟨hf,rfl,rfl⟩
  rw[hf,ca]at h
  simp only[go_sem,ac]
  refine aS (λ m fr st=>∃j:Nat,j≤e.kids.length∧m=e.kids.length - j∧
   (∀c:Nat,(((e.kids.drop j).all λ k=>k.deep l)=true→c=cnt+e.nodes)→R (db ((e.kids.drop j).all λ k=>k.deep l)) (Z.set ic (some (.cells [dn c]))))∧
   fr=%[.ea (.agg [iD e.op,iD e.w,iD e.n,.sl 4 (e.kids.map Ex.d)]) 0,dn dep,.ref ic 0,.ref iv 0|D5 %[.o,.o,.o,.o,.o,dn e.kids.length,dn j|D4 [.o,.o,.o,.o,.o,.o]]]∧st=Z.set ic (some (.cells [dn (cnt+1+((e.kids.take j).map Ex.nodes).sum)]))) e.kids.length _ ?_ ?_
  ·exact Wk.mask [0,1,2,3,25,26] ⟨0,by omega,rfl,h,rfl,by rw[dV];rfl⟩
  rintro m fr st ⟨j,hj,hm,hR,rfl,rfl⟩
  have ht:=wX (l:=e.kids) j
  rcases aC j e.kids.length with hlt|hge
  ·have hdd:decide ((j:Int)<(e.kids.length:Int))=true:=by simp;omega
   obtain⟨k,hkk⟩:∃k,e.kids.getD j (.mk 0 0 0 [])=k:=⟨_,rfl⟩
   have hmem:k∈e.kids:=hkk▸mK hlt
   have e1:=pu hlt hkk
   have hs:=yk hlt
   have ht2:=wX (l:=e.kids) (j+1)
   rw[hkk]at hs
   have w2:=bC j (by simp only[reachBytes]at hk;omega)
   have w3:=bC dep (by omega)
   rw[ry (.mk 0 0 0 []) hlt,hkk,dH]at hR
   generalize hS:((e.kids.take j).map Ex.nodes).sum=S at*
   have hc2:(Z.set ic (some (.cells [dn (cnt+1+S)])))[ic]? =some (some (.cells [dn (cnt+1+S)])):=iR hc
   have hv2:(Z.set ic (some (.cells [dn (cnt+1+S)])))[iv]? =some (some (.cells [.fn (.func 146) [] [.ref ic 0,.ref iv 0]])):=by rw[fM hne];exact hv
   simp only[go_sem,hdd]
   refine bb (.tk 11 0<| .done) (by kernel_rfl) ?_
   simp only[go_sem,ac,e1,w2,w3,aO hc2,aX hc2,aO hv2,aX hv2]
   rw[←Ex.d_eq k]
   refine⟨⟨by omega,by omega⟩,bH (ih k (hks k hmem) (dep+1) (cnt+1+S) (by omega) (by omega) ic iv hne _ hc2 hv2 _ hG _ λ c hcc=> ?_)⟩
   simp only[go_sem,w2,dT]
   refine⟨λ q=>⟨_,_,bw.refl _ _ _ _,?_⟩,λ q=>Wk.mask [0,1,2,3,25,26] ?_⟩
   ·have q':k.deep l=false:=by simpa using q
    rw[q',Ew]at hR
    exact hR c (λ q=>Bool.noConfusion q)
   ·have q':k.deep l=true:=by simpa using q
    rw[q',ca]at hR
    have:=hcc q'
    exact⟨e.kids.length - (j+1),by omega,j+1,hlt,rfl,hR,rfl,by rw[hs,this,cf (cnt+1)]⟩
  ·have hdd:decide ((j:Int)<(e.kids.length:Int))=false:=by simp;omega
   simp only[go_sem,hdd]
   refine⟨_,_,bw.refl _ _ _ _,?_⟩
   rw[d7 hge]at hR
   rw[aK hge]
   exact hR _ λ _=>by rw[hnd];omega
theorem nC(e:Ex)(hok:e.Ok)(hn:e.nodes≤600)(Z:St)(G:Glob)(hG:G.g 0=some cB)(R:A→St→Prop)(h:R (db (e.deep 40)) Z):AC Tryz.prog G 120 [.d e.d] Z R:=by
 rw[Ex.d_eq]
 refine bM a9 Tryz.func120 rfl Tryz.ntmps120 (by simp only[go_sem]) λ hbd=> ?_
 simp only[ae,aj,Nat.reduceAdd,Nat.reduceSub,af,ag,ah,ak]
 simp only[go_sem]
 refine bH (xR 0 [iD e.op,iD e.w,iD e.n,.sl 4 (e.kids.map Ex.d)] rfl (by intro d hd;simp at hd;rcases hd with rfl|rfl|rfl|rfl<;> rfl) ?_)
 have hm:List.map (tE (Z.length+0) [iD e.op,iD e.w,iD e.n,.sl 4 (e.kids.map Ex.d)]) [A.ref Z.length 0,A.d (.int .i64 1),A.ref (Z.length+1) 0,A.ref (Z.length+2) 0]=[.ea e.d 0,dn 1,.ref (Z.length+1) 0,.ref (Z.length+2) 0]:=by
  have q1:(Z.length+1==Z.length)=false:=by simp
  have q2:(Z.length+2==Z.length)=false:=by simp
  simp [tE,Ex.d_eq,q1,q2]
 rw[hm]
 simp only[List.set]
 refine visit_ac 40 e hok 1 0 (by omega) (by omega) _ _ (by omega) _ (by simp) (by simp) _ hG _ λ c _=> ?_
 simp only[go_sem]
 exact aQ hbd h
namespace Ex
mutual
def lvs:Ex→List Ex
 | .mk o w n k=>match k with
  |[]=>[.mk o w n []]
  |e::r=>e.lvs++lvsL r
def lvsL:List Ex→List Ex
 |[]=>[]
 |e::r=>e.lvs++lvsL r
end
theorem lvsL_map:∀l:List Ex,lvsL l=l.flatMap lvs
 |[]=>rfl
 |e::r=>by simp [lvsL,lvsL_map r]
theorem lvs_leaf{e:Ex}(h:e.kids=[]):e.lvs=[e]:=by
 cases e with|mk o w n k=>simp only[kids]at h;subst h;rfl
theorem lvs_node{e:Ex}(h:e.kids≠[]):e.lvs=e.kids.flatMap lvs:=by
 cases e with
 |mk o w n k=>
  simp only[kids]at h ⊢
  cases k with
  |nil=>exact(h rfl).elim
  |cons a r=>simp [lvs,lvsL_map]
end Ex
theorem Dv{l:List Ex}{j:Nat}(h:j<l.length):(l.take (j+1)).flatMap Ex.lvs=(l.take j).flatMap Ex.lvs++(l.getD j (.mk 0 0 0 [])).lvs:=by
 rw[gp,ap h,au,ap h,dB]
 simp
theorem vX(g:FuncId)(caps:List A)(F:Ex→St→St)(Pk:St→Prop)(G:Glob)(e:Ex)(hok:e.Ok):∀(Z:St) (hP:Pk Z) (hF:∀n∈e.lvs,∀Z,Pk Z→Pk (F n Z))
  (hclo:∀n∈e.lvs,∀Z,Pk Z→∀R:A→St→Prop,(∀r,R r (F n Z))→AC Tryz.prog G g (.ea n.d 0::caps) Z R) (R:A→St→Prop) (h:∀r,R r (e.lvs.foldl (λ s n=>F n s) Z)),
  AC Tryz.prog G 124 [.ea e.d 0,.fn (.func g) [] caps] Z R:=by
 induction hok with
 |mk hk hks ih=>
 rename_i e
 intro Z hP hF hclo R h
 rw[Ex.d_eq]
 refine bM a9 Tryz.func124 rfl Tryz.ntmps124 (by simp only[go_sem]) λ hbd=> ?_
 simp only[ae,aj,Nat.reduceAdd,Nat.reduceSub,af,ag,ah,ak]
 by_cases hz:e.kids=[]
 ·have hl:e.kids.length=0:=by rw[hz];rfl
  have hlv:=Ex.lvs_leaf hz
  rw[hlv]at hF hclo h
  simp only[go_sem,ac,hl,show(((0:Nat):Int)==0)=true from rfl]
  rw[←Ex.d_eq e]
  refine bH (hclo e (by simp) Z hP _ λ r=> ?_)
  rw[Ex.d_eq e]
  simp only[go_sem,ac,hl]
  refine aS (λ m fr st=>fr=D5 %[.o,.o,di ((0:Nat):Int),di 0|D4 [.o,.o,.o]]∧st=F e Z) 0 _ ?_ ?_
  ·exact Wk.mask [18,19] ⟨rfl,rfl⟩
  rintro m fr st ⟨rfl,rfl⟩
  simp only[go_sem,show decide ((0:Int)<((0:Nat):Int))=false from rfl]
  exact⟨_,_,bw.refl _ _ _ _,h _⟩
 ·have hl:(((e.kids.length:Nat):Int)==0)=false:=by
   have:e.kids.length≠0:=λ h=>hz (bz h)
   simp;omega
  have hlv:=Ex.lvs_node hz
  rw[hlv]at hF hclo h
  simp only[go_sem,ac,hl]
  refine aS (λ m fr st=>∃j:Nat,j≤e.kids.length∧m=e.kids.length - j∧Pk st∧
   fr=%[.ea (.agg [iD e.op,iD e.w,iD e.n,.sl 4 (e.kids.map Ex.d)]) 0,.fn (.func g) [] caps|D5 %[dn e.kids.length,dn j|D4 [.o,.o,.o]]]∧st=((e.kids.take j).flatMap Ex.lvs).foldl (λ s n=>F n s) Z) e.kids.length _ ?_ ?_
  ·exact Wk.mask [0,1,18,19] ⟨0,by omega,rfl,hP,rfl,rfl⟩
  rintro m fr st ⟨j,hj,hm,hPs,rfl,hst⟩
  rcases aC j e.kids.length with hlt|hge
  ·have hdd:decide ((j:Int)<(e.kids.length:Int))=true:=by simp;omega
   obtain⟨k,hkk⟩:∃k,e.kids.getD j (.mk 0 0 0 [])=k:=⟨_,rfl⟩
   have hmem:k∈e.kids:=hkk▸mK hlt
   have e1:=pu hlt hkk
   have hft:=Dv hlt
   rw[hkk]at hft
   have hsub:∀n∈k.lvs,n∈e.kids.flatMap Ex.lvs:=λ n hn=>gJ.2 ⟨k,hmem,hn⟩
   have w2:=bC j (by simp only[reachBytes]at hk;omega)
   simp only[go_sem,ac,hdd,e1]
   rw[←Ex.d_eq k]
   refine⟨⟨by omega,by omega⟩,bH (ih k hmem st hPs (λ n hn=>hF n (hsub n hn)) (λ n hn=>hclo n (hsub n hn)) _ λ r=> ?_)⟩
   simp only[go_sem,w2]
   refine Wk.mask [0,1,18,19] ⟨e.kids.length - (j+1),by omega,j+1,hlt,rfl,?_,rfl,by rw[hft,dG,←hst]⟩
   have key:∀(l:List Ex) (s:St),(∀n∈l,n∈e.kids.flatMap Ex.lvs)→Pk s→Pk (l.foldl (λ s n=>F n s) s):=by
    intro l
    induction l with
    |nil=>intro s _ h;exact h
    |cons a l ih2=>intro s hl h;exact ih2 _ (λ n hn=>hl n (bR _ hn)) (hF a (hl a (cy ..)) s h)
   exact key _ _ hsub hPs
  ·have hdd:decide ((j:Int)<(e.kids.length:Int))=false:=by simp;omega
   simp only[go_sem,hdd]
   rw[aK hge]at hst
   subst hst
   exact⟨_,_,bw.refl _ _ _ _,h _⟩
theorem Cz(n:Ex)(cells:List Cel)(pair:Bool)(hop:n.op=1∨n.op=2∨n.op=3)(hn:0≤n.n){ic ip ig:Nat}(Z:St)(hc:Z[ic]? =some (some (.cells [.d (aY cells)])))(hp:Z[ip]? =some (some (.cells [db pair]))){x:A}(hg:Z[ig]? =some (some (.cells [x])))(G:Glob)(R:A→St→Prop)(h:∀r,R r (if n.overN cells pair then Z else Z.set ig (some (.cells [db false])))):
  AC Tryz.prog G 125 [.ea n.d 0,.ref ic 0,.ref ip 0,.ref ig 0] Z R:=by
 have hT:n.overN cells pair=true→∀r,R r Z:=λ q r=>by have:=h r;rw[if_pos q]at this;exact this
 have hF:n.overN cells pair=false→∀r,R r (Z.set ig (some (.cells [db false]))):=λ q r=>by have:=h r;rw[if_neg (by rw[q];exact cX)]at this;exact this
 rw[Ex.d_eq]
 by_cases o1:n.op=1
 ·have b1:(n.op !=1)=false:=by simp [o1]
  have ho:n.overN cells pair=true:=by simp [Ex.overN,o1]
  refine bM a9 Tryz.func125 rfl Tryz.ntmps125 (by simp only[go_sem]) λ hbd=> ?_
  simp only[ae,aj,Nat.reduceAdd,Nat.reduceSub,af,ag,ah,ak]
  simp only[go_sem]
  refine bb (.tk 40 0<| .done) (by kernel_rfl) ?_
  simp only[go_sem,aY,aO hc,aX hc,aO hp,aX hp,b1,ac]
  exact⟨_,_,bw.refl _ _ _ _,hT ho _⟩
 have b1:(n.op !=1)=true:=by simp [o1]
 have hop':n.op=2∨n.op=3:=by omega
 have hb:(n.op==3||n.op==2)=true:=by rcases hop' with o|o<;> simp [o]
 by_cases c1:(cells.length:Int)≤n.n
 ·have d1:decide ((cells.length:Int)≤n.n)=true:=by simp [c1]
  have ho:n.overN cells pair=false:=by simp only[Ex.overN,hb,d1,gQ,dJ,g9,gL]
  refine bM a9 Tryz.func125 rfl Tryz.ntmps125 (by simp only[go_sem]) λ hbd=> ?_
  simp only[ae,aj,Nat.reduceAdd,Nat.reduceSub,af,ag,ah,ak]
  simp only[go_sem]
  refine bb (.tk 40 0<| .done) (by kernel_rfl) ?_
  simp only[go_sem,aY,aO hc,aX hc,aO hp,aX hp,aO hg,aX hg,b1,d1,ac]
  exact⟨_,_,bw.refl _ _ _ _,hF ho _⟩
 have d1:decide ((cells.length:Int)≤n.n)=false:=by simp [c1]
 have e1:=iM (l:=cells) (j:=n.n.toNat) (by omega)
 simp only[fb]at e1
 by_cases c2:(cells.getD n.n.toNat fU).w=n.w
 ·have d2:((cells.getD n.n.toNat fU).w !=n.w)=false:=by rw[c2];exact bne_self_eq_false _
  have ho:n.overN cells pair= !(n.op==3&& !pair):=by simp only[Ex.overN,hb,d1,d2,Bool.or_false,gL,eC,dJ]
  by_cases c3:n.op=3
  ·have d3:(n.op==3)=true:=by simp [c3]
   cases pair
   ·refine bM a9 Tryz.func125 rfl Tryz.ntmps125 (by simp only[go_sem]) λ hbd=> ?_
    simp only[ae,aj,Nat.reduceAdd,Nat.reduceSub,af,ag,ah,ak]
    simp only[go_sem]
    refine bb (.tk 40 0<| .done) (by kernel_rfl) ?_
    simp only[go_sem,aY,aO hc,aX hc,aO hp,aX hp,aO hg,aX hg,b1,d1,d2,d3,e1,ac,eC]
    exact⟨⟨by omega,by omega⟩,_,_,bw.refl _ _ _ _,hF (by rw[ho,d3];rfl) _⟩
   ·refine bM a9 Tryz.func125 rfl Tryz.ntmps125 (by simp only[go_sem]) λ hbd=> ?_
    simp only[ae,aj,Nat.reduceAdd,Nat.reduceSub,af,ag,ah,ak]
    simp only[go_sem]
    refine bb (.tk 40 0<| .done) (by kernel_rfl) ?_
    simp only[go_sem,aY,aO hc,aX hc,aO hp,aX hp,aO hg,aX hg,b1,d1,d2,d3,e1,ac,g9]
    exact⟨⟨by omega,by omega⟩,_,_,bw.refl _ _ _ _,hT (by rw[ho,d3];rfl) _⟩
  ·have d3:(n.op==3)=false:=by simp [c3]
   refine bM a9 Tryz.func125 rfl Tryz.ntmps125 (by simp only[go_sem]) λ hbd=> ?_
   simp only[ae,aj,Nat.reduceAdd,Nat.reduceSub,af,ag,ah,ak]
   simp only[go_sem]
   refine bb (.tk 40 0<| .done) (by kernel_rfl) ?_
   simp only[go_sem,aY,aO hc,aX hc,aO hp,aX hp,aO hg,aX hg,b1,d1,d2,d3,e1,ac]
   exact⟨⟨by omega,by omega⟩,_,_,bw.refl _ _ _ _,hT (by rw[ho,d3];rfl) _⟩
 ·have d2:((cells.getD n.n.toNat fU).w !=n.w)=true:=bne_iff_ne.2 c2
  have ho:n.overN cells pair=false:=by simp only[Ex.overN,hb,d2,Bool.or_true,dJ,g9,gL]
  refine bM a9 Tryz.func125 rfl Tryz.ntmps125 (by simp only[go_sem]) λ hbd=> ?_
  simp only[ae,aj,Nat.reduceAdd,Nat.reduceSub,af,ag,ah,ak]
  simp only[go_sem]
  refine bb (.tk 40 0<| .done) (by kernel_rfl) ?_
  simp only[go_sem,aY,aO hc,aX hc,aO hp,aX hp,aO hg,aX hg,b1,d1,d2,e1,ac]
  exact⟨⟨by omega,by omega⟩,_,_,bw.refl _ _ _ _,hF ho _⟩
theorem za(cells:List Cel)(p:Bool)(l:Nat):∀e:Ex,e.deep l=true→e.over cells p=e.lvs.all λ n=>n.overN cells p:=by
 induction l with
 |zero=>intro e h;simp [Ex.deep]at h
 |succ l ih=>
  intro e hd
  rw[Ex.over_eq]
  by_cases hz:e.kids=[]
  ·rw[Ex.lvs_leaf hz,hz];simp
  ·have hf:e.fits=true:=by rw[xL,aB]at hd;exact hd.1
   have hop:e.op≠3∧e.op≠2:=by
    have f1:=((nE e).1 hf).1.1
    have:e.kids.length≠0:=λ h=>hz (bz h)
    have:=(pN e.op).1
    constructor<;> intro o<;> omega
   have h3:(e.op==3)=false:=by simp [hop.1]
   have h2:(e.op==2)=false:=by simp [hop.2]
   have ho:e.overN cells p=true:=by simp only[Ex.overN,h3,h2];rfl
   rw[ho,ca,Ex.lvs_node hz,List.all_flatMap,dD,aZ,aZ]
   constructor
   ·intro h k hk;rw[←ih k (jc hd hk)];exact h k hk
   ·intro h k hk;rw[ih k (jc hd hk)];exact h k hk
theorem re(l:Nat):∀e:Ex,e.deep l=true→∀n∈e.lvs,(n.op=1∨n.op=2∨n.op=3)∧n.fits=true:=by
 induction l with
 |zero=>intro e h;simp [Ex.deep]at h
 |succ l ih=>
  intro e hd n hn
  have hf:e.fits=true:=by rw[xL,aB]at hd;exact hd.1
  by_cases hz:e.kids=[]
  ·rw[Ex.lvs_leaf hz]at hn
   obtain rfl:n=e:=by simpa using hn
   have f1:=((nE n).1 hf).1.1
   rw[hz]at f1
   have:=(pN n.op).1
   exact⟨this.1 f1,hf⟩
  ·rw[Ex.lvs_node hz]at hn
   obtain⟨k,hk,hn⟩:=gJ.1 hn
   exact ih k (jc hd hk) n hn
theorem ro(cells:List Cel)(p:Bool){ig:Nat}:∀(l:List Ex) (s:St) (b:Bool),s[ig]? =some (some (.cells [db b]))→
  l.foldl (λ s n=>if n.overN cells p then s else s.set ig (some (.cells [db false]))) s=s.set ig (some (.cells [db (b&&l.all λ n=>n.overN cells p)]))
 |[],s,b,h=>by
  rw[List.foldl_nil,List.all_nil,dJ]
  apply cz
  intro i
  rw[aR]
  by_cases e:ig=i
  ·subst e;rw[if_pos rfl,if_pos (aL h)];exact h
  ·rw[if_neg e]
 |n::l,s,b,h=>by
  rw[cc,dH]
  cases ho:n.overN cells p
  ·rw[if_neg cX,ro cells p l _ false (iR h),dT];simp
  ·rw[if_pos rfl,ro cells p l s b h];simp
theorem ng(e:Ex)(hok:e.Ok)(hn:e.nodes≤600)(cells:List Cel)(pair:Bool)(Z:St)(G:Glob)(hG:G.g 0=some cB)(R:A→St→Prop)(h:R (db (e.deep 40&&e.over cells pair)) Z):AC Tryz.prog G 93 [.d e.d,.d (aY cells),db pair] Z R:=by
 rw[Ex.d_eq]
 refine bM a9 Tryz.func93 rfl Tryz.ntmps93 (by simp only[go_sem]) λ hbd=> ?_
 simp only[ae,aj,Nat.reduceAdd,Nat.reduceSub,af,ag,ah,ak]
 simp only[go_sem]
 rw[←Ex.d_eq e]
 refine bH (nC e hok hn _ _ hG _ ?_)
 rw[Ex.d_eq e]
 simp only[go_sem,aY]
 refine⟨λ q=>aQ hbd ?_,λ q=> ?_⟩
 ·have q':e.deep 40=false:=by simpa using q
  rw[q',Ew]at h;exact h
 have hd:e.deep 40=true:=by simpa using q
 have hl:=re 40 e hd
 rw[hd,ca,za cells pair 40 e hd]at h
 refine bH (xR 0 [iD e.op,iD e.w,iD e.n,.sl 4 (e.kids.map Ex.d)] rfl (by intro d hd;simp at hd;rcases hd with rfl|rfl|rfl|rfl<;> rfl) ?_)
 have hm:List.map (tE (Z.length+0) [iD e.op,iD e.w,iD e.n,.sl 4 (e.kids.map Ex.d)]) [A.ref Z.length 0,A.fn (.func 125) [] [.ref (Z.length+1) 0,.ref (Z.length+2) 0,.ref (Z.length+3) 0]]=[.ea e.d 0,.fn (.func 125) [] [.ref (Z.length+1) 0,.ref (Z.length+2) 0,.ref (Z.length+3) 0]]:=by
  simp [tE,Ex.d_eq]
 rw[hm]
 simp only[List.set]
 refine vX 125 _ (λ n s=>if n.overN cells pair then s else s.set (Z.length+3) (some (.cells [db false]))) (λ s=>s[Z.length+1]? =some (some (.cells [.d (aY cells)]))∧s[Z.length+2]? =some (some (.cells [db pair]))∧∃b,s[Z.length+3]? =some (some (.cells [db b]))) G e hok _ ⟨by simp [aY],by simp,true,by simp⟩ ?_ ?_ _ λ r=> ?_
 ·rintro n _ s ⟨s1,s2,b,s3⟩
  split
  ·exact⟨s1,s2,b,s3⟩
  ·exact⟨by rw[fM (by omega)];exact s1,by rw[fM (by omega)];exact s2,false,iR s3⟩
 ·rintro n hn s ⟨s1,s2,b,s3⟩ R hR
  exact Cz n cells pair (hl n hn).1 (uj (hl n hn).2) s s1 s2 s3 G R hR
 ·rw[ro cells pair e.lvs _ true (by simp),ca]
  simp only[go_sem,ff,fQ]
  exact aQ hbd h
theorem getD_set{α:Type}{l:List α}{i j:Nat}{a d:α}:(l.set i a).getD j d=if i=j∧j<l.length then a else l.getD j d:=by
 simp only[au,aR]
 by_cases h:i=j
 ·subst h
  by_cases h2:i<l.length
  ·simp [h2]
  ·simp [h2,bm (Nat.le_of_not_lt h2)]
 ·simp [h]
def Ce(i k:Nat)(s:St):St:=match s[i]? with
 |some (some (.cells cs))=>s.set i (some (.cells (cs.set k (db true))))
 |_=>s
def mc(io inw:Nat)(n:Ex)(s:St):St:=if n.op=3 then Ce io n.n.toNat s else if n.op=2 then Ce inw n.n.toNat s else s
theorem ma{i k:Nat}{s:St}{cs:List A}(h:s[i]? =some (some (.cells cs))):Ce i k s=s.set i (some (.cells (cs.set k (db true)))):=by simp only[Ce,h]
theorem my{l:List A}{k:Nat}(h:k<l.length)(x:A):l.take (k*1)++x::l.drop (k*1+1)=l.set k x:=by
 rw[br,da,if_pos h]
theorem markC_ac (n:Ex) (hop:n.op=1∨n.op=2∨n.op=3) (hn:n.op≠1→0≤n.n∧n.n<32) {io inw:Nat} (Z:St) (co cn:List A) (ho:Z[io]? =some (some (.cells co))) (hw:Z[inw]? =some (some (.cells cn))) (h1:co.length=32) (h2:cn.length=32)
  (G:Glob) (R:A→St→Prop) (h:∀r,R r (mc io inw n Z)):AC Tryz.prog G 174 [.ea n.d 0,.ref io 0,.ref inw 0] Z R:=by
 rw[Ex.d_eq]
 refine bM a9 Tryz.func174 rfl Tryz.ntmps174 (by simp only[go_sem]) λ hbd=> ?_
 simp only[ae,aj,Nat.reduceAdd,Nat.reduceSub,af,ag,ah,ak]
 rcases hop with o|o|o
 ·have b3:(n.op==3)=false:=by simp [o]
  have b2:(n.op==2)=false:=by simp [o]
  simp only[go_sem,b3,b2]
  have:=h (.tup [])
  rw[mc,if_neg (by omega),if_neg (by omega)]at this
  exact⟨_,_,bw.refl _ _ _ _,this⟩
 ·have b3:(n.op==3)=false:=by simp [o]
  have b2:(n.op==2)=true:=by simp [o]
  simp only[go_sem,b3,b2,aO hw,aX hw]
  have hb:=hn (by omega)
  have hl:n.n.toNat<cn.length:=by omega
  rw[my hl]
  have:=h (.tup [])
  rw[mc,if_neg (by omega),if_pos (by omega),ma hw]at this
  exact⟨⟨by omega,by omega⟩,by omega,_,_,bw.refl _ _ _ _,this⟩
 ·have b3:(n.op==3)=true:=by simp [o]
  simp only[go_sem,b3,aO ho,aX ho]
  have hb:=hn (by omega)
  have hl:n.n.toNat<co.length:=by omega
  rw[my hl]
  have:=h (.tup [])
  rw[mc,if_pos (by omega),ma ho]at this
  exact⟨⟨by omega,by omega⟩,by omega,_,_,bw.refl _ _ _ _,this⟩
theorem gV{α:Type}(f:α→D)(hf:∀x,(f x).cells=[f x]∧(f x).one=true)(l:List α):mQ (l.map λ x=>A.d (f x)) 1 0 (l.map f):=by
 have e:bU (l.map f)=l.map λ x=>A.d (f x):=by
  induction l with
  |nil=>rfl
  |cons x l ih=>rw[aM,wd,ih,(hf x).1];rfl
 rw[←e]
 refine lx λ x hx=> ?_
 obtain⟨y,_,rfl⟩:=aI.1 hx
 rw[(hf y).1]
 exact⟨rfl,λ z hz=>by simp at hz;rw[hz];exact(hf y).2⟩
theorem cJ(l:List Int):mQ (l.map λ x=>A.d (iD x)) 1 0 (l.map iD):=gV iD (λ _=>⟨rfl,rfl⟩) l
def bY(l:List Int):Option Ob:=some (.cells (l.map λ x=>A.d (iD x)))
def kq(bs:List Bool)(j:Nat):List Int:=((List.range j).filter λ i=>bs.getD i false).map Int.ofNat
theorem v8(bs:List Bool)(j:Nat):kq bs (j+1)=kq bs j++if bs.getD j false=true then [(j:Int)]else []:=by
 simp only[kq,eY,du,aJ]
 congr 1
 cases h:bs.getD j false
 ·rw[List.filter_cons_of_neg (by rw[h];simp)];rfl
 ·simp only[List.filter,h];rfl
theorem ug(bs:List Bool)(j:Nat):(kq bs j).length≤j:=by
 simp only[kq,ac]
 exact Es (ez _ _) (by simp)
theorem pU:∀l:List D,fC (l.map .d)=some l
 |[]=>rfl
 |x::l=>by simp only[aM,fC,pU l];rfl
theorem tX(bs:List Bool)(hb:bs.length=32)(Z:St)(G:Glob)(R:A→St→Prop)(h:R (.d (bu (kq bs 32))) Z):AC Tryz.prog G 175 [.d (.agg (bs.map D.bool))] Z R:=by
 refine bg a9 Tryz.func175 rfl Tryz.ntmps175 (by simp only[go_sem]) λ hbd=> ?_
 simp only[ae,aj,Nat.reduceAdd,Nat.reduceSub,af,ag,ah,ak]
 have htk:List.take 32 (List.map A.d (List.map D.bool bs))=List.map A.d (List.map D.bool bs):=aK (by simp [hb])
 simp only[go_sem,htk,pU]
 refine⟨by simp [hb],?_⟩
 refine aS (λ m fr st=>∃j:Nat,j≤32∧m=32 - j∧fr=%[.o,.o,.o,.rs Z.length 1 0 (kq bs j).length (some 3),.o,.o,.d (.agg (bs.map D.bool)),dn j|D4 [.o,.o]]∧st=Z++[bY (kq bs j)]) 32 _ ?_ ?_
 ·exact⟨_,_,(bw.mask [3,6,7]).trans ((bw.cut (aE _) hbd rfl).trans (bw.empty 3 1 (some 3) rfl)),0,by omega,rfl,by simp [iX,kq],by simp [bY,kq]⟩
 rintro m fr st ⟨j,hj,hm,rfl,rfl⟩
 rcases aC j 32 with hlt|hge
 ·have hd:decide ((j:Int)<32)=true:=by simp;omega
  have e1:List.getD (List.map D.bool bs) j default= .bool (bs.getD j false):=dQ (by omega)
  have w2:=bC j (by omega)
  have hs:=v8 bs j
  have hln:=ug bs j
  cases hq:bs.getD j false with
  |true=>
   rw[hq]at e1 hs
   simp only[if_true]at hs
   simp only[go_sem,bY,hd,br,e1,w2,ac]
   refine⟨⟨by omega,by omega,by omega⟩,⟨by simp only[maxLen];omega,by omega⟩,Wk.keep [3,6,7] [2] (by decide) (aE _) hbd ⟨32 - (j+1),by omega,j+1,hlt,rfl,?_,?_⟩⟩
   ·rw[hs];simp only[go_sem,aF,ae,aj]
   ·rw[hs];simp only[go_sem,bY,aJ,aM,bq]
  |false=>
   rw[hq]at e1 hs
   simp only[eG,if_false,bt]at hs
   simp only[go_sem,hd,br,e1,w2,ac]
   refine⟨⟨by omega,by omega,by omega⟩,Wk.mask [3,6,7] ⟨32 - (j+1),by omega,j+1,hlt,rfl,by rw[hs];rfl,by rw[hs]⟩⟩
 ·have hd:decide ((j:Int)<32)=false:=by simp;omega
  simp only[go_sem,hd]
  obtain rfl:j=32:=by omega
  refine de 0 1 0 ((kq bs 32).map iD) rfl (cJ _) ?_
  simp only[go_sem,ac]
  exact aQ hbd h
def fJ(o:Int)(l:List Ex)(bs:List Bool):List Bool:=l.foldl (λ bs n=>if n.op=o then bs.set n.n.toNat true else bs) bs
theorem ol(o:Int):∀(l:List Ex) (bs:List Bool),(fJ o l bs).length=bs.length
 |[],bs=>rfl
 |n::l,bs=>by
  have:=ol o l (if n.op=o then bs.set n.n.toNat true else bs)
  simp only[fJ,cc]at this ⊢
  rw[this];split<;> simp
theorem zp(o:Int)(i:Nat):∀(l:List Ex) (bs:List Bool),i<bs.length→(fJ o l bs).getD i false=(bs.getD i false||l.any λ n=>n.op==o&&n.n.toNat==i)
 |[],bs,hi=>by simp [fJ]
 |n::l,bs,hi=>by
  have:=zp o i l (if n.op=o then bs.set n.n.toNat true else bs) (by split<;> simpa using hi)
  simp only[fJ,cc,List.any_cons]at this ⊢
  rw[this]
  by_cases ho:n.op=o
  ·rw[if_pos ho,getD_set]
   by_cases hn:n.n.toNat=i
   ·rw[if_pos ⟨hn,hi⟩];simp [ho,hn]
   ·have hb:(n.n.toNat==i)=false:=by simp [hn]
    rw[if_neg (λ h=>hn h.1),hb,gL,fj]
  ·rw[if_neg ho]
   have:(n.op==o)=false:=by simp [ho]
   rw[this];simp
def lh(o:Int)(e:Ex):List Bool:=fJ o e.lvs (List.replicate 32 false)
theorem jX(o:Int)(e:Ex):(lh o e).length=32:=by simp [lh,ol]
theorem BU(o:Int)(e:Ex){i:Nat}(hi:i<32):(lh o e).getD i false=e.lvs.any λ n=>n.op==o&&n.n.toNat==i:=by
 rw[lh,zp o i _ _ (by simpa using hi)]
 rw[au,gK,if_pos hi];simp
def dk(bs:List Bool):Option Ob:=some (.cells (bs.map λ b=> .d (.bool b)))
theorem DO(bs:List Bool)(k:Nat):(bs.map λ b=>A.d (.bool b)).set k (db true)=(bs.set k true).map λ b=>A.d (.bool b):=by
 rw[fF]
theorem oh{io inw:Nat}(hne:io≠inw):∀(l:List Ex) (s:St) (bo bn:List Bool),s[io]? =some (dk bo)→s[inw]? =some (dk bn)→
  l.foldl (λ s n=>mc io inw n s) s=(s.set io (dk (fJ 3 l bo))).set inw (dk (fJ 2 l bn))
 |[],s,bo,bn,h1,h2=>by
  simp only[List.foldl_nil,fJ]
  apply cz
  intro i
  rw[aR,aR]
  by_cases e1:inw=i
  ·subst e1;rw[if_pos rfl,aH,if_pos (aL h2)];exact h2
  ·rw[if_neg e1]
   by_cases e2:io=i
   ·subst e2;rw[if_pos rfl,if_pos (aL h1)];exact h1
   ·rw[if_neg e2]
 |n::l,s,bo,bn,h1,h2=>by
  simp only[cc,fJ]
  by_cases o3:n.op=3
  ·have e:mc io inw n s=s.set io (dk (bo.set n.n.toNat true)):=by
    rw[mc,if_pos o3,ma h1,DO];rfl
   rw[e,if_pos o3,if_neg (by omega)]
   rw[oh hne l _ (bo.set n.n.toNat true) bn (iR h1) (by rw[fM hne];exact h2),dT];rfl
  ·by_cases o2:n.op=2
   ·have e:mc io inw n s=s.set inw (dk (bn.set n.n.toNat true)):=by
     rw[mc,if_neg o3,if_pos o2,ma h2,DO];rfl
    rw[e,if_neg o3,if_pos o2]
    rw[oh hne l _ bo (bn.set n.n.toNat true) (by rw[fM (Ne.symm hne)];exact h1) (iR h2)]
    rw[EC _ _ (Ne.symm hne),dT];rfl
   ·have e:mc io inw n s=s:=by rw[mc,if_neg o3,if_neg o2]
    rw[e,if_neg o3,if_neg o2]
    exact oh hne l s bo bn h1 h2
theorem AG(e:Ex)(hok:e.Ok)(hn:e.nodes≤600)(hd:e.deep 40=true)(Z:St)(G:Glob)(hG:G.g 0=some cB)(R:A→St→Prop)(h:R (.tup [.d (bu (kq (lh 3 e) 32)),.d (bu (kq (lh 2 e) 32))]) Z):AC Tryz.prog G 156 [.d e.d] Z R:=by
 have hl:=re 40 e hd
 rw[Ex.d_eq]
 refine bM a9 Tryz.func156 rfl Tryz.ntmps156 (by simp only[go_sem]) λ hbd=> ?_
 simp only[ae,aj,Nat.reduceAdd,Nat.reduceSub,af,ag,ah,ak]
 simp only[go_sem]
 rw[←Ex.d_eq e]
 refine bH (nC e hok hn _ _ hG _ ?_)
 rw[Ex.d_eq e,hd]
 simp only[go_sem]
 refine bH (xR 0 [iD e.op,iD e.w,iD e.n,.sl 4 (e.kids.map Ex.d)] rfl (by intro d hd;simp at hd;rcases hd with rfl|rfl|rfl|rfl<;> rfl) ?_)
 have hm:List.map (tE (Z.length+0) [iD e.op,iD e.w,iD e.n,.sl 4 (e.kids.map Ex.d)]) [A.ref Z.length 0,A.fn (.func 174) [] [.ref (Z.length+1) 0,.ref (Z.length+2) 0]]=[.ea e.d 0,.fn (.func 174) [] [.ref (Z.length+1) 0,.ref (Z.length+2) 0]]:=by
  simp [tE,Ex.d_eq]
 rw[hm]
 simp only[List.set]
 refine vX 174 _ (mc (Z.length+1) (Z.length+2)) (λ s=>∃bo bn:List Bool,s[Z.length+1]? =some (dk bo)∧s[Z.length+2]? =some (dk bn)∧bo.length=32∧bn.length=32) G e hok _
  ⟨List.replicate 32 false,List.replicate 32 false,by simp [dk,List.replicate],by simp [dk,List.replicate],by simp,by simp⟩ ?_ ?_ _ λ r=> ?_
 ·rintro n hn s ⟨bo,bn,h1,h2,h3,h4⟩
  refine⟨if n.op=3 then bo.set n.n.toNat true else bo,if n.op=3 then bn else if n.op=2 then bn.set n.n.toNat true else bn,?_⟩
  unfold mc
  by_cases o3:n.op=3
  ·rw[if_pos o3,if_pos o3,if_pos o3,ma h1,DO]
   exact⟨iR h1,by rw[fM (by omega)];exact h2,by simpa using h3,h4⟩
  ·rw[if_neg o3,if_neg o3,if_neg o3]
   by_cases o2:n.op=2
   ·rw[if_pos o2,if_pos o2,ma h2,DO]
    exact⟨by rw[fM (by omega)];exact h1,iR h2,h3,by simpa using h4⟩
   ·rw[if_neg o2,if_neg o2]
    exact⟨h1,h2,h3,h4⟩
 ·rintro n hn s ⟨bo,bn,h1,h2,h3,h4⟩ R hR
  obtain⟨q2,q3⟩:=hl n hn
  refine markC_ac n q2 (λ hne=> ?_) s _ _ h1 h2 (by simpa using h3) (by simpa using h4) G R hR
  have f:=((nE n).1 q3).2
  rw[if_neg hne,if_pos (by omega)]at f
  exact f
 ·have hfold:=oh (io:=Z.length+1) (inw:=Z.length+2) (by omega) e.lvs (Z++[none,dk (List.replicate 32 false),dk (List.replicate 32 false)]) (List.replicate 32 false) (List.replicate 32 false) (by simp) (by simp)
  have e0:(some (Ob.cells [A.d (D.bool false),A.d (D.bool false),A.d (D.bool false),A.d (D.bool false),A.d (D.bool false),A.d (D.bool false),A.d (D.bool false),A.d (D.bool false),A.d (D.bool false),A.d (D.bool false),A.d (D.bool false),A.d (D.bool false),A.d (D.bool false),A.d (D.bool false),A.d (D.bool false),A.d (D.bool false),
   A.d (D.bool false),A.d (D.bool false),A.d (D.bool false),A.d (D.bool false),A.d (D.bool false),A.d (D.bool false),A.d (D.bool false),A.d (D.bool false),A.d (D.bool false),A.d (D.bool false),A.d (D.bool false),A.d (D.bool false),A.d (D.bool false),A.d (D.bool false),A.d (D.bool false),A.d (D.bool false)]))=dk (List.replicate 32 false):=rfl
  rw[e0,hfold]
  rw[show fJ 3 e.lvs (List.replicate 32 false)=lh 3 e from rfl,show fJ 2 e.lvs (List.replicate 32 false)=lh 2 e from rfl]
  have l3:=jX 3 e
  have l2:=jX 2 e
  generalize lh 3 e=bo at*
  generalize lh 2 e=bn at*
  have t3:(bo.map λ b=>A.d (.bool b)).take 32=(bo.map D.bool).map A.d:=by rw[aK (by simp [l3]),dZ];rfl
  have t2:(bn.map λ b=>A.d (.bool b)).take 32=(bn.map D.bool).map A.d:=by rw[aK (by simp [l2]),dZ];rfl
  simp only[go_sem,ff,fQ,dk]
  refine bb (.take 0<| .pure 1<| .take 2<| .pure 3<| .tk 2 4<| .done) (by kernel_rfl) ?_
  simp only[go_sem,t3,t2,pU]
  refine⟨by simp [l3],mN (.d (bu (kq bo 32))) ⟨λ Z'=>bH (tX bo l3 _ _ _ ⟨rfl,rfl⟩),?_⟩⟩
  simp only[go_sem,t3,t2,pU]
  refine⟨by simp [l2],mN (.d (bu (kq bn 32))) ⟨λ Z'=>bH (tX bn l2 _ _ _ ⟨rfl,rfl⟩),?_⟩⟩
  simp only[go_sem]
  exact dq hbd rfl h
theorem vV(bs:List Bool)(hb:bs.length≤1000)(Z:St)(G:Glob)(R:A→St→Prop)(h:R (.d (bu (kq bs bs.length))) Z):AC Tryz.prog G 161 [.d (bsD bs)] Z R:=by
 refine bg a9 Tryz.func161 rfl Tryz.ntmps161 (by simp only[go_sem]) λ hbd=> ?_
 simp only[ae,aj,Nat.reduceAdd,Nat.reduceSub,af,ag,ah,ak]
 simp only[bsD,go_sem]
 refine aS (λ m fr st=>∃j:Nat,j≤bs.length∧m=bs.length - j∧fr=%[.d (.sl 1 (bs.map D.bool)),.o,.o,.rs Z.length 1 0 (kq bs j).length (some 3),dn j|D4 [.o,.o,.o,.o,.o,.o,.o]]∧st=Z++[bY (kq bs j)]) bs.length _ ?_ ?_
 ·exact⟨_,_,(bw.mask [0,3,4]).trans (bw.empty 3 1 (some 3) rfl),0,by omega,rfl,by simp [iX,kq],by simp [bY,kq]⟩
 rintro m fr st ⟨j,hj,hm,rfl,rfl⟩
 rcases aC j bs.length with hlt|hge
 ·have hd:decide ((j:Int)<(bs.length:Int))=true:=by simp;omega
  have e1:List.getD (List.map D.bool bs) j default= .bool (bs.getD j false):=dQ (by omega)
  have w2:=bC j (by omega)
  have hs:=v8 bs j
  have hln:=ug bs j
  cases hq:bs.getD j false with
  |true=>
   rw[hq]at e1 hs
   simp only[if_true]at hs
   simp only[go_sem,bY,hd,e1,w2,ac]
   refine⟨⟨by omega,by omega⟩,⟨by first|rfl|(simp only[maxLen];omega)|simp,by simp only[maxLen];omega,by omega⟩,Wk.keep [0,3,4] [2] (by decide) (aE _) hbd ⟨bs.length - (j+1),by omega,j+1,hlt,rfl,?_,?_⟩⟩
   ·rw[hs];simp only[go_sem,aF,ae,aj]
   ·rw[hs];simp only[go_sem,bY,aJ,aM,bq]
  |false=>
   rw[hq]at e1 hs
   simp only[eG,if_false,bt]at hs
   simp only[go_sem,hd,e1,w2,ac]
   refine⟨⟨by omega,by omega⟩,Wk.mask [0,3,4] ⟨bs.length - (j+1),by omega,j+1,hlt,rfl,by rw[hs];rfl,by rw[hs]⟩⟩
 ·have hd:decide ((j:Int)<(bs.length:Int))=false:=by simp;omega
  simp only[go_sem,hd,ac]
  obtain rfl:j=bs.length:=by omega
  refine de 0 1 0 ((kq bs bs.length).map iD) rfl (cJ _) ?_
  simp only[go_sem,ac]
  exact aQ hbd h
end
section
open Go Go.Ab
abbrev dL(r:List Int):A:= .d (bu r)
section
variable {old now:List Int}
end
theorem bG{α:Type}{l:List α}{j:Nat}(d:α)(h:j<l.length):l.take (j+1)=l.take j++[l.getD j d]:=by
 rw[gp,ap h,au,ap h];rfl
theorem Fw{l:List Int}{k:Nat}(h:k<l.length):(l.map λ x=>A.d (iD x)).getD k .o=A.d (iD (l.getD k 0)):=by
 simp only[au,aN,ap h];rfl
theorem kH{l:List Int}{j:Nat}(x:Int)(h:j<l.length):(l.map λ x=>A.d (iD x)).take j++A.d (iD x)::(l.map λ x=>A.d (iD x)).drop (j+1)=(l.set j x).map λ x=>A.d (iD x):=by
 rw[fF,da,if_pos (by simpa using h)]
theorem bW{l:List Int}{j:Nat}(h:j<l.length):List.getD (List.map iD l) j default=iD (l.getD j 0):=dQ h
theorem uw(l:List Int)(n:Int)(hn:0≤n)(hl:l.length≤reachBytes)(Z:St)(G:Glob)(R:A→St→Prop)(h:R (di (l.getD n.toNat 0)) Z):AC Tryz.prog G 148 [dL l,di n] Z R:=by
 refine bM a9 Tryz.func148 rfl Tryz.ntmps148 (by simp only[go_sem]) λ hbd=> ?_
 simp only[ae,aj,Nat.reduceAdd,Nat.reduceSub,af,ag,ah,ak]
 simp only[dL,bu,go_sem,ac]
 refine⟨λ q=> ?_,λ q=> ?_⟩
 ·have q:n<l.length:=by simpa using q
  have e1:=bW (l:=l) (j:=n.toNat) (by omega)
  simp only[go_sem,e1,ac]
  exact⟨⟨by omega,by omega⟩,cw h⟩
 ·have q:¬n<l.length:=by simpa using q
  have e:l.getD n.toNat 0=0:=by rw[au,bm (by omega)];rfl
  rw[e]at h
  exact cw h
theorem tc(b:Bool)(Z:St)(G:Glob)(R:A→St→Prop)(h:R (dn (b2n b)) Z):AC Tryz.prog G 164 [db b] Z R:=by
 refine bM a9 Tryz.func164 rfl Tryz.ntmps164 (by simp only[go_sem]) λ hbd=> ?_
 simp only[ae,aj,Nat.reduceAdd,Nat.reduceSub,af,ag,ah,ak]
 cases b
 ·simp only[go_sem]
  exact cw h
 ·simp only[go_sem]
  exact cw h
def BI(o:Int)(a b c:Nat):Int:=
 if o=4 then -1 - (a:Int)else if o=5 then(a &&& b:Nat)else if o=6 then(a ||| b:Nat)else if o=7 then(a ^^^ b:Nat)else if o=8 then(a:Int)+b else if o=9 then(a:Int) - b else if o=10 then(a:Int)*b
 else if o=11 then(b2n (a==b):Nat)else if o=12 then(b2n (decide (a<b)):Nat)else if o=13 then(b2n (decide (a≤b)):Nat)else if a=1 then b else c
theorem vR{a b:Nat}(ha:a<256)(hb:b<256):a*b<65536:=by
 have:=Nat.mul_lt_mul'' ha hb
 omega
theorem app_ac(o:Int)(ho:4≤o∧o≤14)(a b c:Nat)(ha:a<256)(hb:b<256)(hc:c<256)(Z:St)(G:Glob)(R:A→St→Prop)(h:R (di (BI o a b c)) Z):AC Tryz.prog G 149 [di o,.d (.agg [iD (a:Nat),iD (b:Nat),iD (c:Nat)])] Z R:=by
 have ho':o=4∨o=5∨o=6∨o=7∨o=8∨o=9∨o=10∨o=11∨o=12∨o=13∨o=14:=by omega
 have wa:IntKind.i64.wrap ((a:Int)+b)=(a:Int)+b:=cq _ (by omega) (by omega)
 have wn:IntKind.i64.wrap (0 - (b:Int))= -(b:Int):=by rw[cq _ (by omega) (by omega)];omega
 have ws:IntKind.i64.wrap ((a:Int)+ -(b:Int))=(a:Int) - b:=by rw[cq _ (by omega) (by omega)];omega
 have hml:=vR ha hb
 have wm:IntKind.i64.wrap ((a:Int)*b)=(a:Int)*b:=by
  have:(a:Int)*b=((a*b:Nat):Int):=by simp
  rw[this];exact cq _ (by omega) (by omega)
 have b1:=bNot_nat ha
 have b2:=An (a:=a) (b:=b) (by omega) (by omega)
 have b3:=Cw (a:=a) (b:=b) (by omega) (by omega)
 have b4:=Am (a:=a) (b:=b) (by omega) (by omega)
 have t1:((a:Int)==(b:Int))=(a==b):=by rw[dD,cg,cg];omega
 have t2:decide ((a:Int)<(b:Int))=decide (a<b):=by apply decide_eq_decide.2;omega
 have t3:((a:Int)==1)=(a==1):=by rw[dD,cg,cg];omega
 refine bM a9 Tryz.func149 rfl Tryz.ntmps149 (by simp only[go_sem]) λ hbd=> ?_
 simp only[ae,aj,Nat.reduceAdd,Nat.reduceSub,af,ag,ah,ak]
 simp only[go_sem]
 refine bb (.tk 6 0<| .done) (by kernel_rfl) ?_
 rcases ho' with rfl|rfl|rfl|rfl|rfl|rfl|rfl|rfl|rfl|rfl|rfl<;> simp only[BI,Int.reduceEq,if_true,if_false]at h<;> simp only[go_sem,bZ,dI,show Int.toNat 2=2 from rfl,Nat.one_mul,Nat.zero_mul,br,ae,aj,Int.reduceBEq,wa,wn,ws,wm,b1,b2,b3,b4,t1,t2,t3]
 ·exact⟨⟨by omega,by omega⟩,⟨by omega,by omega⟩,aQ hbd h⟩
 ·exact⟨⟨by omega,by omega⟩,⟨by omega,by omega⟩,aQ hbd h⟩
 ·exact⟨⟨by omega,by omega⟩,⟨by omega,by omega⟩,aQ hbd h⟩
 ·exact⟨⟨by omega,by omega⟩,⟨by omega,by omega⟩,aQ hbd h⟩
 ·exact⟨⟨by omega,by omega⟩,⟨by omega,by omega⟩,aQ hbd h⟩
 ·exact⟨⟨by omega,by omega⟩,⟨by omega,by omega⟩,aQ hbd h⟩
 ·exact⟨⟨by omega,by omega⟩,⟨by omega,by omega⟩,aQ hbd h⟩
 ·refine⟨⟨by omega,by omega⟩,⟨by omega,by omega⟩,bH (tc _ _ _ _ ?_)⟩
  simp only[go_sem]
  exact aQ hbd h
 ·refine⟨⟨by omega,by omega⟩,⟨by omega,by omega⟩,bH (tc _ _ _ _ ?_)⟩
  simp only[go_sem]
  exact aQ hbd h
 ·refine⟨⟨by omega,by omega⟩,⟨by omega,by omega⟩,λ q=> ?_,λ q=> ?_⟩
  ·have q:a=b:=by simpa using q
   rw[show decide (a≤b)=true by simp;omega]at h
   exact aQ hbd h
  ·have q:a≠b:=by simpa using q
   rw[show decide (a≤b)=decide (a<b)by apply decide_eq_decide.2;omega]at h
   refine bH (tc _ _ _ _ ?_)
   simp only[go_sem]
   exact aQ hbd h
 ·refine⟨⟨by omega,by omega⟩,⟨by omega,by omega⟩,λ q=> ?_,λ q=>⟨⟨by omega,by omega⟩,?_⟩⟩
  ·have q:a=1:=by simpa using q
   rw[if_pos q]at h
   exact aQ hbd h
  ·have q:¬a=1:=by simpa using q
   rw[if_neg q]at h
   exact aQ hbd h
theorem kh(n w:Nat):lowb (n:Int) w=n % 2^w:=by
 simp only[lowb]
 have:((n:Int) % ((2^w:Nat):Int))=((n % 2^w:Nat):Int):=by simp
 rw[this];omega
theorem app_low(old now:List Int)(o:Int)(ho:4≤o∧o≤14)(W:Nat)(h1:1≤W)(h8:W≤8)(n:Int)(a b c:Nat)(k:List Nat)(k0:k.getD 0 0=a)(k1:k.getD 1 0=b)(k2:k.getD 2 0=c)(h4:o=4→a<2^W)(h5:5≤o→o≤10→a<2^W∧b<2^W)(h14:o=14→b<2^W∧c<2^W):
  lowb (BI o a b c) W=ss old now o W n k:=by
 have h2:2≤2^W:=by have:=gn (n:=2) (i:=1) (j:=W) (by omega) (by omega);omega
 have hb2:∀t,b2n t<2^W:=λ t=>cQ (BG t) h2
 have hW:W=1∨W=2∨W=3∨W=4∨W=5∨W=6∨W=7∨W=8:=by omega
 have ho':o=4∨o=5∨o=6∨o=7∨o=8∨o=9∨o=10∨o=11∨o=12∨o=13∨o=14:=by omega
 rcases ho' with rfl|rfl|rfl|rfl|rfl|rfl|rfl|rfl|rfl|rfl|rfl<;> simp only[BI,ss,Int.reduceEq,if_true,if_false,k0,k1,k2]
 ·have:=h4 rfl
  rcases hW with rfl|rfl|rfl|rfl|rfl|rfl|rfl|rfl<;> simp only[lowb,Nat.reducePow,Int.cast_ofNat_Int]at this ⊢<;> omega
 ·obtain⟨q1,q2⟩:=h5 (by omega) (by omega)
  exact ki (Nat.and_lt_two_pow _ q2)
 ·obtain⟨q1,q2⟩:=h5 (by omega) (by omega)
  exact ki (Nat.or_lt_two_pow q1 q2)
 ·obtain⟨q1,q2⟩:=h5 (by omega) (by omega)
  exact ki (Nat.xor_lt_two_pow q1 q2)
 ·rw[show(a:Int)+b=((a+b:Nat):Int)by simp,kh]
 ·obtain⟨q1,q2⟩:=h5 (by omega) (by omega)
  rcases hW with rfl|rfl|rfl|rfl|rfl|rfl|rfl|rfl<;> simp only[lowb,Nat.reducePow,Int.cast_ofNat_Int]at q1 q2 ⊢<;> omega
 ·rw[show(a:Int)*b=((a*b:Nat):Int)by simp,kh]
 ·exact ki (hb2 _)
 ·exact ki (hb2 _)
 ·exact ki (hb2 _)
 ·obtain⟨q1,q2⟩:=h14 rfl
  split
  ·exact ki q1
  ·exact ki q2
def v3(k:List Nat):List Int:=[(k.getD 0 0:Nat),(k.getD 1 0:Nat),(k.getD 2 0:Nat)]
theorem v3_snoc{k:List Nat}{x:Nat}(h:k.length<3):(v3 k).set k.length (x:Int)=v3 (k++[x]):=by
 match k,h with
 |[],_=>rfl
 |[a],_=>rfl
 |[a,b],_=>rfl
theorem val_ac(old now:List Int)(ho:old.length≤reachBytes)(hn:now.length≤reachBytes)(l:Nat):∀(e:Ex) (hok:e.Ok) (hd:e.deep l=true) (Z:St) (G:Glob) (hG:G.g 0=some cB) (R:A→St→Prop) (h:R (dn (kF old now e)) Z),AC Tryz.prog G 121 [.ea e.d 0,dL old,dL now] Z R:=by
 induction l with
 |zero=>intro e hok hd;simp [Ex.deep]at hd
 |succ l ih=>
  intro e hok hdp Z G hG R h
  obtain⟨hk,hks⟩:=hok
  have hkd:∀k∈e.kids,k.deep l=true:=λ k hk=>jc hdp hk
  have hf:e.fits=true:=by simp only[Ex.deep,aB]at hdp;exact hdp.1
  have hev:∀fr,ev G fr (.global 0)= .ea cB 0:=λ fr=>wh hG
  have hn0:=uj hf
  simp only[Ex.fits,aB,av]at hf
  obtain⟨⟨ha,w1,w8⟩,hf⟩:=hf
  have hL:e.kids.length=(Ex.arity e.op).toNat:=by omega
  obtain⟨W,hW⟩:∃W:Nat,e.w=W:=⟨e.w.toNat,by omega⟩
  have hWn:e.w.toNat=W:=by omega
  rw[Bn,hWn]at h
  have hm:=zo (W:=W) (by omega)
  rw[br]at hm
  rw[Ex.d_eq]
  by_cases o1:e.op=1
  ·simp only[ss,if_pos o1]at h
   rw[show dn e.n.toNat=di ((e.n.toNat:Nat):Int)from rfl,show((e.n.toNat:Nat):Int)=e.n by omega]at h
   refine bM a9 Tryz.func121 rfl Tryz.ntmps121 (by simp only[go_sem]) λ hbd=> ?_
   simp only[ae,aj,Nat.reduceAdd,Nat.reduceSub,af,ag,ah,ak]
   simp only[go_sem,o1,Int.reduceBEq]
   exact cw h
  by_cases o2:e.op=2
  ·simp only[ss,if_neg o1,if_pos o2]at h
   refine bM a9 Tryz.func121 rfl Tryz.ntmps121 (by simp only[go_sem]) λ hbd=> ?_
   simp only[ae,aj,Nat.reduceAdd,Nat.reduceSub,af,ag,ah,ak]
   simp only[go_sem,o2,Int.reduceBEq]
   refine bb (.tk 5 0<| .take 6<| .pure 5<| .tk 7 7<| .done) (by kernel_rfl) ?_
   simp only[go_sem]
   refine mN (di (now.getD e.n.toNat 0)) ⟨λ Z'=>bH (uw now e.n hn0 hn _ _ _ ⟨rfl,rfl⟩),?_⟩
   have hbm:=oB (now.getD e.n.toNat 0) (w:=W) (by omega)
   simp only[go_sem,hev,cB,hW,hm,hbm,ad,br,ae,aj]
   exact⟨⟨by omega,by omega⟩,by omega,cw h⟩
  by_cases o3:e.op=3
  ·simp only[ss,if_neg o1,if_neg o2,if_pos o3]at h
   refine bM a9 Tryz.func121 rfl Tryz.ntmps121 (by simp only[go_sem]) λ hbd=> ?_
   simp only[ae,aj,Nat.reduceAdd,Nat.reduceSub,af,ag,ah,ak]
   simp only[go_sem,o3,Int.reduceBEq]
   refine bb (.tk 5 0<| .take 6<| .pure 5<| .tk 7 7<| .done) (by kernel_rfl) ?_
   simp only[go_sem]
   refine mN (di (old.getD e.n.toNat 0)) ⟨λ Z'=>bH (uw old e.n hn0 ho _ _ _ ⟨rfl,rfl⟩),?_⟩
   have hbm:=oB (old.getD e.n.toNat 0) (w:=W) (by omega)
   simp only[go_sem,hev,cB,hW,hm,hbm,ad,br,ae,aj]
   exact⟨⟨by omega,by omega⟩,by omega,cw h⟩
  have hop:4≤e.op∧e.op≤14∧e.kids.length≤3:=by
   unfold Ex.arity at ha
   split at ha
   ·omega
   ·split at ha
    ·omega
    ·split at ha
     ·omega
     ·split at ha<;> omega
  have b1:(e.op==1)=false:=by simp [o1]
  have b2:(e.op==2)=false:=by simp [o2]
  have b3:(e.op==3)=false:=by simp [o3]
  have hlt8:∀k∈e.kids,kF old now k<256:=λ k hk=>by
   have h1:=uv (old:=old) (now:=now) l k (hkd k hk)
   have h2:k.w≤8:=by
    cases l with
    |zero=>have:=hkd k hk;simp [Ex.deep]at this
    |succ l=>
     have:=hkd k hk
     simp only[Ex.deep,aB,Ex.fits,av]at this
     exact this.1.1.2.2
   have:=qb (w:=k.w.toNat) (by omega)
   omega
  obtain⟨kv,hkv⟩:∃kv,e.kids.map (kF old now)=kv:=⟨_,rfl⟩
  rw[hkv]at h
  have hkvl:kv.length=e.kids.length:=by rw[←hkv];simp
  have hkvb:∀i,kv.getD i 0<256:=λ i=>by
   rw[←hkv,au,aN]
   cases hq:e.kids[i]? with
   |none=>simp
   |some k=>exact hlt8 k (bh hq)
  have hlow:lowb (BI e.op (kv.getD 0 0) (kv.getD 1 0) (kv.getD 2 0)) W=ss old now e.op W e.n kv:=by
   have hkw:∀i,i<e.kids.length→kv.getD i 0<2^(e.kw i).toNat:=λ i hi=>by
    rw[←hkv,au,aN,ap hi]
    have:=uv (old:=old) (now:=now) l e.kids[i] (hkd _ (bI hi))
    simp only[bJ,b9,Ex.kw]
    rw[au,ap hi]
    exact this
   rw[if_neg o1,if_neg (by omega)]at hf
   refine app_low old now e.op ⟨hop.1,hop.2.1⟩ W (by omega) (by omega) e.n _ _ _ kv rfl rfl rfl (λ o=> ?_) (λ g1 g2=> ?_) (λ o=> ?_)
   ·rw[if_pos o,av]at hf
    have:=hkw 0 (by rw[hL,o];decide)
    rwa [hf.2,hWn]at this
   ·rw[if_neg (by omega),if_neg (by omega),if_neg (by omega),av]at hf
    have hl2:e.kids.length=2:=by rw[hL,Ex.arity,if_neg (by omega),if_neg (by omega),if_pos (by omega)];rfl
    have h0:=hkw 0 (by omega)
    have h1:=hkw 1 (by omega)
    rw[hf.2.1,hWn]at h0;rw[hf.2.2,hWn]at h1
    exact⟨h0,h1⟩
   ·rw[if_neg (by omega),if_neg (by omega),if_pos o,av]at hf
    have hl3:e.kids.length=3:=by rw[hL,o];rfl
    have h1:=hkw 1 (by omega)
    have h2:=hkw 2 (by omega)
    rw[hf.2.2.1,hWn]at h1;rw[hf.2.2.2,hWn]at h2
    exact⟨h1,h2⟩
  refine bM a9 Tryz.func121 rfl Tryz.ntmps121 (by simp only[go_sem]) λ hbd=> ?_
  simp only[ae,aj,Nat.reduceAdd,Nat.reduceSub,af,ag,ah,ak]
  simp only[go_sem,b1,b2,b3,ac]
  refine aS (λ m fr st=>∃j:Nat,j≤e.kids.length∧m=e.kids.length - j∧fr=%[.ea (.agg [iD e.op,iD e.w,iD e.n,.sl 4 (e.kids.map Ex.d)]) 0,dL old,dL now,.o,.o,.o,.o,.ref Z.length 0|D6 (D4 %[.o,.o,.o,.o,.o,dn e.kids.length,dn j|D5 (D4 [.o,.o,.o])])]∧st=Z++[some (.cells ((v3 (kv.take j)).map λ x=> .d (iD x)))]) e.kids.length _ (Wk.mask [0,1,2,7,53,54] ⟨0,by omega,rfl,rfl,rfl⟩) ?_
  rintro m fr st ⟨j,hj,hm2,rfl,rfl⟩
  rcases aC j e.kids.length with hlt|hge
  ·have hdd:decide ((j:Int)<(e.kids.length:Int))=true:=by simp;omega
   obtain⟨k,hkk⟩:∃k,e.kids.getD j (.mk 0 0 0 [])=k:=⟨_,rfl⟩
   have hmem:k∈e.kids:=hkk▸mK hlt
   have e1:=pu hlt hkk
   have w2:=bC j (by omega)
   have hkj:kv.take (j+1)=kv.take j++[kF old now k]:=by
    rw[bG 0 (by omega),←hkv,←hkk]
    congr 2
    rw[au,aN,au,ap hlt];rfl
   have hset:=kH (l:=v3 (kv.take j)) (j:=j) ((kF old now k:Nat):Int) (by simp [v3];omega)
   have hvl:(v3 (kv.take j)).length=3:=rfl
   have hv3:=v3_snoc (k:=kv.take j) (x:=kF old now k) (by rw[aP];omega)
   rw[show(kv.take j).length=j by rw[aP];omega]at hv3
   rw[hv3,←hkj]at hset
   simp only[go_sem,hdd,ac,e1,ad]
   rw[←Ex.d_eq k]
   refine⟨⟨by omega,by omega⟩,bH (ih k (hks k hmem) (hkd k hmem) _ _ hG _ ?_)⟩
   simp only[go_sem,w2,ac,ad,br,ci,hset,hvl]
   exact⟨⟨by omega,by omega⟩,by omega,Wk.mask [0,1,2,7,53,54] ⟨e.kids.length - (j+1),by omega,j+1,hlt,rfl,rfl,rfl⟩⟩
  ·have hdd:decide ((j:Int)<(e.kids.length:Int))=false:=by simp;omega
   rw[aK (by omega)]
   have hbm:=oB (BI e.op (kv.getD 0 0) (kv.getD 1 0) (kv.getD 2 0)) (w:=W) (by omega)
   rw[hlow]at hbm
   simp only[go_sem,hdd]
   refine bb (.tk 5 0<| .take 6<| .pure 5<| .tk 7 7<| .done) (by kernel_rfl) ?_
   simp only[go_sem,v3,aM,bq,ae,aj]
   refine mN (di (BI e.op (kv.getD 0 0) (kv.getD 1 0) (kv.getD 2 0))) ⟨λ Z'=> ?_,?_⟩
   ·simp only[go_sem]
    exact bH (app_ac e.op ⟨hop.1,hop.2.1⟩ _ _ _ (hkvb 0) (hkvb 1) (hkvb 2) _ _ _ ⟨rfl,rfl⟩)
   simp only[go_sem,hev,cB,hW,hm,hbm,ad,br,ae,aj]
   exact⟨⟨by omega,by omega⟩,by omega,aQ hbd h⟩
theorem xG(e:Ex)(hok:e.Ok)(hn6:e.nodes≤600)(hd:e.deep 40=true)(old now:List Int)(ho:old.length≤reachBytes)(hn:now.length≤reachBytes)(Z:St)(G:Glob)(hG:G.g 0=some cB)(R:A→St→Prop)(h:R (dn (kF old now e)) Z):AC Tryz.prog G 85 [.d e.d,dL old,dL now] Z R:=by
 rw[Ex.d_eq]
 refine bM a9 Tryz.func85 rfl Tryz.ntmps85 (by simp only[go_sem]) λ hbd=> ?_
 simp only[ae,aj,Nat.reduceAdd,Nat.reduceSub,af,ag,ah,ak]
 simp only[go_sem]
 rw[←Ex.d_eq e]
 refine bH (nC e hok hn6 _ _ hG _ ?_)
 rw[hd]
 simp only[go_sem]
 refine bH (xR 0 [iD e.op,iD e.w,iD e.n,.sl 4 (e.kids.map Ex.d)] rfl (by intro d hd;simp at hd;rcases hd with rfl|rfl|rfl|rfl<;> rfl) ?_)
 have hm:List.map (tE (Z.length+0) [iD e.op,iD e.w,iD e.n,.sl 4 (e.kids.map Ex.d)]) [A.ref Z.length 0,dL old,dL now]=[.ea e.d 0,dL old,dL now]:=by
  simp [tE,Ex.d_eq]
 rw[hm]
 simp only[List.set]
 refine val_ac old now ho hn 40 e hok hd _ _ hG _ ?_
 simp only[go_sem]
 exact aQ hbd h
end
end Go.Proofs.YtdpdbokicanpoaaGreatDoor
