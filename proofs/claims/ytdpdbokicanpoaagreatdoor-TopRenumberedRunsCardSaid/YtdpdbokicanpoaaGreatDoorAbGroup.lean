import Derived.Test.YtdpdbokicanpoaaGreatDoorAbK
import Derived.Test.YtdpdbokicanpoaaGreatDoorAbDraw
set_option linter.unusedSimpArgs false
set_option linter.unusedVariables false
set_option maxHeartbeats 64000000
namespace Go.Ab
open Go Go.RowKit

mutual
def A.bdg(n:Nat):A→Bool
 | .d _=>true
 | .ea _ _=>true
 | .ref id _=>decide (id<n)
 | .rs id _ _ _ _=>decide (id<n)
 | .mapr id=>decide (id<n)
 | .agg cs=>BD n cs
 | .tup cs=>BD n cs
 | .fn _ cs ds=>BD n cs&&BD n ds
 | .ifc _ a=>a.bdg n
 | .grd _ a=>a.bdg n
 | .o=>true
def BD(n:Nat):List A→Bool
 |[]=>true
 |a::r=>a.bdg n&&BD n r
end
theorem mn{n:Nat}:∀{l:List A},BD n l=true→∀(i:Nat) (x:A),l[i]? =some x→x.bdg n=true
 |[],_,i,x,h=>by simp at h
 |a::l,h,i,x,hx=>by
  simp only[BD,aB]at h
  match i with
  |0=>simp at hx;subst hx;exact h.1
  |i+1=>exact mn h.2 i x (by simpa using hx)
theorem RepD.cutG{U U':gM}{w:World}(hm:∀b,M U' b→M U b){y:D}{u:Value}(h:RepD w (M U) y u):RepD w (M U') y u:=by
 induction h with
 |int k n=>exact .int k n
 |bool b=>exact .bool b
 |str s=>exact .str s
 |nilp=>exact .nilp
 |nilf=>exact .nilf
 |nili=>exact .nili
 |nilm=>exact .nilm
 |nils=>exact .nils
 |sl0 sz a c=>exact .sl0 sz a c
 |sl sz xs b o c vs hm' hb hc len one cell rep ih=>exact .sl sz xs b o c vs (λ h=>hm' (hm b h)) hb hc len one cell ih
 |agg cs vs len one rep ih=>exact .agg cs vs len one ih
theorem RepA.cutG{U U':gM}{w:World}{x:A}{v:Value}{n:Nat}(h:RepA U w x v)(hn:∀i,i<n→U'[i]? =U[i]?)(hm:∀b,M U' b→M U b):x.bdg n=true→RepA U' w x v:=by
 have hd:∀{y:D} {u:Value},RepD w (M U) y u→RepD w (M U') y u:=λ h=>h.cutG hm
 induction h with
 |d h=>exactλ _=> .d (hd h)
 |ea x off b o vs hm' hb one cell rep=>exactλ _=> .ea x off b o vs (λ h=>hm' (hm b h)) hb one cell (λ j y h1=>hd (rep j y h1))
 |ref off h=>intro hb;simp only[A.bdg,av]at hb;exact .ref off ((hn _ hb).trans h)
 |refDead off v h=>intro hb;simp only[A.bdg,av]at hb;exact .refDead off v ((hn _ hb).trans h)
 |rs h hb hc hs ho=>intro hb';simp only[A.bdg,av]at hb';exact .rs ((hn _ hb').trans h) hb hc hs ho
 |rsEmpty sz ow h=>intro hb;simp only[A.bdg,av]at hb;exact .rsEmpty sz ow ((hn _ hb).trans h)
 |rsDead sz off len ow v h=>intro hb;simp only[A.bdg,av]at hb;exact .rsDead sz off len ow v ((hn _ hb).trans h)
 |mapr h=>intro hb;simp only[A.bdg,av]at hb;exact .mapr ((hn _ hb).trans h)
 |mapDead v h=>intro hb;simp only[A.bdg,av]at hb;exact .mapDead v ((hn _ hb).trans h)
 |agg cs vs len one rep ih=>intro hb;simp only[A.bdg]at hb;exact .agg cs vs len one λ i x v h1 h2=>ih i x v h1 h2 (mn hb i x h1)
 |tup cs vs len rep ih=>intro hb;simp only[A.bdg]at hb;exact .tup cs vs len λ i x v h1 h2=>ih i x v h1 h2 (mn hb i x h1)
 |fn f cs ds vs us len len' rep rep' ih ih'=>
  intro hb;simp only[A.bdg,aB]at hb
  exact .fn f cs ds vs us len len' (λ i x v h1 h2=>ih i x v h1 h2 (mn hb.1 i x h1)) (λ i x v h1 h2=>ih' i x v h1 h2 (mn hb.2 i x h1))
 |ifc t h ih=>intro hb;simp only[A.bdg]at hb;exact .ifc t (ih hb)
 |grd c h h' ih=>intro hb;simp only[A.bdg]at hb;exact .grd c (λ e=>ih e hb) h'
 |o v=>exactλ _=> .o v
theorem mP.cutG{U U':gM}{w:World}{o:Ob}{b n:Nat}(h:mP U w o b)(hn:∀i,i<n→U'[i]? =U[i]?)(hm:∀b,M U' b→M U b)(hb:o.bd n=true):mP U' w o b:=by
 cases o with
 |cells cs=>
  obtain⟨vs,e,h1,h2,h3⟩:=h
  refine⟨vs,e,h1,h2,λ i x hx=> ?_⟩
  obtain⟨v,k1,k2,k3⟩:=h3 i x hx
  exact⟨v,k1,k2,k3.cut hn hm (gl hb i x hx)⟩
 |map es=>
  obtain⟨ms,clock,h1,h2,h3⟩:=h
  refine⟨ms,clock,h1,h2,λ i x m hx hm'=> ?_⟩
  obtain⟨k1,k2⟩:=h3 i x m hx hm'
  simp only[Ob.bd,aZ]at hb
  exact⟨k1.cutG hm,k2.cut hn hm (hb x (bh hx))⟩
 |lp l r fr=>
  obtain⟨h1,h2,h3⟩:=h
  exact⟨h1,h2,h3.1,λ i x v hx hv=>(h3.2 i x v hx hv).cut hn hm (gl hb i x hx)⟩

section
variable {P:Program} {U U':gM} {w w':World} {Z:St} {G:Glob} {rn:Option Nat}
theorem rT{ops:Array Oper}{o:Oper}{fr fr':Fr}{k:A→St→Prop}(h:∀t∈o.looksAt ops,List.getD fr t .o=List.getD fr' t .o):fN P G ops o k fr Z→fN P G ops o k fr' Z:=by
 have he:∀x∈o.op.operands.toList,ev G fr x=ev G fr' x:=λ x hx=>by
  cases x with
  |tmp t=>
   refine h t ?_
   simp only[Oper.looksAt,aW,List.mem_filterMap]
   exact .inl ⟨_,hx,rfl⟩
  |_=>rfl
 unfold fN
 cases hg:o.guard with
 |none=>exact mG he
 |some q=>
  obtain⟨j,b⟩:=q
  have e:fW ops fr j b=fW ops fr' j b:=by
   unfold fW
   split
   ·rename_i t ht
    have:=h t (by simp only[Oper.looksAt,aW,hg,ht];exact .inr (by simp))
    simp only[this]
   ·rfl
  simp only[e]
  cases fW ops fr' j b with
  |none=>exact id
  |some c=>exact qW he

inductive Sh where
 |ref (off:Nat)
 |rs (sz off len:Nat) (o:Option TypeId)
 |mapr
def Sh.at:Sh→Nat→A
 | .ref off,n=> .ref n off
 | .rs sz off len o,n=> .rs n sz off len o
 | .mapr,n=> .mapr n
theorem Sh.move{s:Sh}{e c:Nat}{v:Value}(he:U'[c]? =U[e]?)(h:RepA U w (s.at e) v):RepA U' w (s.at c) v:=by
 cases s with
 |ref off=>
  cases h with
  |ref _ h=>exact .ref off (he.trans h)
  |refDead _ _ h=>exact .refDead off _ (he.trans h)
 |rs sz off len o=>
  cases h with
  |rs h h1 h2 h3 h4=>exact .rs (he.trans h) h1 h2 h3 h4
  |rsEmpty _ _ h=>exact .rsEmpty _ _ (he.trans h)
  |rsDead _ _ _ _ _ h=>exact .rsDead _ _ _ _ _ (he.trans h)
 |mapr=>
  cases h with
  |mapr h=>exact .mapr (he.trans h)
  |mapDead _ h=>exact .mapDead _ (he.trans h)
inductive Mb where
 |rd (i:Nat) (dst:Tmp) (x:A)
 |mk (i:Nat) (dst:Tmp) (s:Sh) (ob:Ob)
def Mb.i:Mb→Nat
 | .rd i _ _=>i
 | .mk i _ _ _=>i
def Mb.dst:Mb→Tmp
 | .rd _ d _=>d
 | .mk _ d _ _=>d
def Mb.val:Mb→Nat→A
 | .rd _ _ x,_=>x
 | .mk _ _ s _,n=>s.at n
def Mb.obs:Mb→St
 | .rd _ _ _=>[]
 | .mk _ _ _ ob=>[some ob]
def mks:List Mb→List (Nat×Ob)
 |[]=>[]
 | .rd _ _ _::r=>mks r
 | .mk i _ _ ob::r=>(i,ob)::mks r
def lV(l:List Mb):St:=(mks l).map λ p=>some p.2
def off:List Mb→Nat→Nat
 |[],_=>0
 | .rd _ _ _::r,i=>off r i
 | .mk j _ _ _::r,i=>if j=i then 0 else 1+off r i
def eI:List Mb→Nat→Fr→Fr
 |[],_,fr=>fr
 | .rd _ d x::r,n,fr=>eI r n (kE fr (some d) x)
 | .mk _ d s _::r,n,fr=>eI r (n+1) (kE fr (some d) (s.at n))
theorem tW(l r:List Mb):mks (l++r)=mks l++mks r:=by
 induction l with
 |nil=>rfl
 |cons q l ih=>cases q<;> simp [mks,ih]
theorem pj(q:Mb):∀(l:List Mb) (n:Nat) (fr:Fr),eI (l++[q]) n fr=kE (eI l n fr) (some q.dst) (q.val (n+(mks l).length))
 |[],n,fr=>by cases q<;> rfl
 | .rd i d x::l,n,fr=>by simp only[ah,eI,mks,pj q l]
 | .mk i d s ob::l,n,fr=>by simp only[ah,eI,mks,pj q l,ae];congr 2;omega
theorem kM:∀(l:List Mb) (n:Nat) (fr:Fr),(eI l n fr).length=fr.length
 |[],n,fr=>rfl
 | .rd i d x::l,n,fr=>by simp [eI,kM l,kE]
 | .mk i d s ob::l,n,fr=>by simp [eI,kM l,kE]
theorem js{t:Nat}:∀(l:List Mb) (n:Nat) (fr:Fr),t∉l.map Mb.dst→(eI l n fr)[t]? =fr[t]?
 |[],n,fr,_=>rfl
 | .rd i d x::l,n,fr,h=>by
  simp only[aM,aV,Mb.dst,not_or]at h
  rw[eI,js l _ _ h.2,kE,aD (Ne.symm h.1)]
 | .mk i d s ob::l,n,fr,h=>by
  simp only[aM,aV,Mb.dst,not_or]at h
  rw[eI,js l _ _ h.2,kE,aD (Ne.symm h.1)]
theorem lU{q:Mb}:∀(l:List Mb) (n:Nat) (fr:Fr),(l.map Mb.dst).Nodup→(l.map Mb.i).Nodup→q∈l→q.dst<fr.length→(eI l n fr)[q.dst]? =some (q.val (n+off l q.i))
 |[],n,fr,_,_,h,_=>by cases h
 |p::l,n,fr,hd,hi,h,hl=>by
  simp only[aM,cR]at hd hi
  rcases aV.1 h with rfl|h1
  ·cases q with
   |rd i d x=>
    have hl':d<fr.length:=hl
    rw[eI,js l _ _ hd.1]
    simp only[kE,Mb.dst,aT hl'];rfl
   |mk i d s ob=>
    have hl':d<fr.length:=hl
    rw[eI,js l _ _ hd.1]
    simp [kE,Mb.dst,aT hl',Mb.val,off,Mb.i]
  ·cases p with
   |rd i d x=>rw[eI,lU l _ _ hd.2 hi.2 h1 (by simpa [kE]using hl)];rfl
   |mk i d s ob=>
    rw[eI,lU l _ _ hd.2 hi.2 h1 (by simpa [kE]using hl)]
    have:¬i=q.i:=λ e=>hi.1 (aI.2 ⟨q,h1,e.symm⟩)
    simp only[off,if_neg this]
    congr 2;omega
theorem mH{i d:Nat}{s:Sh}{ob:Ob}:∀(l:List Mb),(l.map Mb.i).Nodup→Mb.mk i d s ob∈l→(mks l)[off l i]? =some (i,ob)
 |[],_,h=>by cases h
 |p::l,hi,h=>by
  simp only[aM,cR]at hi
  rcases aV.1 h with rfl|h1
  ·simp [mks,off]
  ·cases p with
   |rd j e x=>exact mH l hi.2 h1
   |mk j e t o=>
    have:¬j=i:=λ e'=>hi.1 (aI.2 ⟨_,h1,e'.symm⟩)
    simp only[mks,off,if_neg this]
    rw[Nat.add_comm,cN]
    exact mH l hi.2 h1
theorem od{i:Nat}{ob:Ob}:∀(l:List Mb),(i,ob)∈mks l→∃d s,Mb.mk i d s ob∈l
 |[],h=>by cases h
 | .rd j e x::l,h=>let ⟨d,s,h⟩:=od l h;⟨d,s,bR _ h⟩
 | .mk j e t o::l,h=>by
  simp only[mks,aV,Prod.mk.injEq]at h
  rcases h with⟨rfl,rfl⟩|h
  ·exact⟨e,t,cy⟩
  ·obtain⟨d,s,h⟩:=od l h
   exact⟨d,s,bR _ h⟩
theorem sI{k i:Nat}{ob:Ob}:∀(l:List Mb) (k:Nat),(l.map Mb.i).Nodup→(mks l)[k]? =some (i,ob)→off l i=k
 |[],k,_,h=>by simp [mks]at h
 | .rd j e x::l,k,hi,h=>by
  simp only[aM,cR]at hi
  exact sI (k:=k) l k hi.2 h
 | .mk j e t o::l,k,hi,h=>by
  simp only[aM,cR]at hi
  cases k with
  |zero=>simp [mks]at h;simp [off,h.1]
  |succ k=>
   simp only[mks,cN]at h
   obtain⟨d,s,hm⟩:=od l (bh h)
   have:¬j=i:=λ e'=>hi.1 (aI.2 ⟨_,hm,e'.symm⟩)
   simp only[off,if_neg this]
   have:=sI (k:=k) l k hi.2 h
   omega
theorem xm{l r:List Mb}(h:l.Perm r):(mks l).length=(mks r).length:=by
 induction h with
 |nil=>rfl
 |cons x _ ih=>cases x<;> simp [mks,ih]
 |swap x y l=>cases x<;> cases y<;> simp [mks]
 |trans _ _ h1 h2=>exact h1.trans h2

def ue(ts:List Nat)(a:Act):List (Nat×Value):=((List.range a.tmps.size).filter λ t=> !ts.contains t).map λ t=>(t,a.tmps.getD t undef)
theorem kept_mem{ts:List Nat}{a:Act}{t:Nat}(h:t<a.tmps.size)(h':t∉ts):(t,a.tmps.getD t undef)∈ue ts a:=by
 refine aI.2 ⟨t,eZ.2 ⟨eT.2 h,?_⟩,rfl⟩
 simpa using h'
theorem zA{ts:List Nat}{a:Act}{p:Nat×Value}(h:p∈ue ts a):p.1∉ts∧a.tmps[p.1]? =some p.2:=by
 obtain⟨t,h1,rfl⟩:=aI.1 h
 obtain⟨h1,h2⟩:=eZ.1 h1
 have h1:=eT.1 h1
 refine⟨by simpa using h2,?_⟩
 simp [Array.getD,h1]
theorem canon {b:Df} {U0:gM} {w0:World} {fr:Fr} {a0 a:Act} {dn mb:List Mb} {ts:List Nat} (hts:∀t∈ts,t∉mb.map Mb.dst→∀x,fr[t]? =some x→x= .o) (hp:dn.Perm mb) (hi:(mb.map Mb.i).Nodup) (hd:(mb.map Mb.dst).Nodup)
  (hI0:Inv G U0 Z w0) (hF0:dl b U0 w0 fr a0) (hx:Ext U0 w0 U w) (hI:Inv G U (Z++lV dn) w)
  (hF:dl { b with ks:=b.ks++ue ts a0} U w (eI dn Z.length fr) a)
  (hbr:∀i d x,Mb.rd i d x∈mb→d<fr.length→x.bdg Z.length=true) (hbo:∀i d s ob,Mb.mk i d s ob∈mb→ob.bd Z.length=true):
  ∃U',Ext U0 w0 U' w∧Inv G U' (Z++lV mb) w∧dl b U' w (eI mb Z.length fr) a:=by
 have hi':(dn.map Mb.i).Nodup:=(hp.map _).nodup_iff.2 hi
 have hd':(dn.map Mb.dst).Nodup:=(hp.map _).nodup_iff.2 hd
 have hln:(mks dn).length=(mks mb).length:=xm hp
 have hlen:U.length=Z.length+(mks dn).length:=by have:=hI.len;simpa [lV]using this
 have hl0:U0.length=Z.length:=hI0.len
 let U':gM:=U.take Z.length++(mks mb).map λ p=>U.getD (Z.length+off dn p.1) .dead
 have hlen':U'.length=Z.length+(mks mb).length:=by
  show(U.take Z.length++_).length=_
  simp;omega
 have hold:∀i,i<Z.length→U'[i]? =U[i]? :=λ i h=>by
  show(U.take Z.length++_)[i]? =_
  rw[aq (by simp;omega),bL h]
 have hlt:∀{i d s ob},Mb.mk i d s ob∈mb→off dn i<(mks dn).length:=λ h=>(aA.1 (mH dn hi' (hp.mem_iff.2 h))).1
 have hnew:∀{i d s ob},Mb.mk i d s ob∈mb→U'[Z.length+off mb i]? =U[Z.length+off dn i]? :=λ {i d s ob} h=>by
  show(U.take Z.length++_)[_]? =_
  have h1:(U.take Z.length).length=Z.length:=by simp;omega
  rw[az (by omega),h1,bk,aN,mH mb hi h]
  have:=hlt h
  simp only[bJ]
  exact(fv (by omega)).symm
 have hfrom:∀k,Z.length≤k→k<U'.length→∃i d s ob,Mb.mk i d s ob∈mb∧k=Z.length+off mb i:=λ k h1 h2=>by
  obtain⟨p,hp'⟩:∃p,(mks mb)[k - Z.length]? =some p:=⟨_,ap (by omega)⟩
  obtain⟨i,ob⟩:=p
  obtain⟨d,s,hm⟩:=od mb (bh hp')
  refine⟨i,d,s,ob,hm,?_⟩
  rw[sI (k:=0) mb _ hi hp'];omega
 have hsrc:∀k r,U'[k]? =some r→∃j,U[j]? =some r∧(k<Z.length∧j=k∨∃i d s ob,Mb.mk i d s ob∈mb∧k=Z.length+off mb i∧j=Z.length+off dn i):=λ k r h=>by
  by_cases hk:k<Z.length
  ·exact⟨k,by rw[←hold k hk];exact h,.inl ⟨hk,rfl⟩⟩
  ·obtain⟨i,d,s,ob,h1,h2⟩:=hfrom k (by omega) (aA.1 h).1
   refine⟨Z.length+off dn i,?_,.inr ⟨i,d,s,ob,h1,h2,rfl⟩⟩
   rw[←hnew h1,←h2];exact h
 have hM:∀b,M U' b→M U b:=λ b ⟨k,h⟩=>let ⟨j,h1,_⟩:=hsrc k _ h;⟨j,h1⟩
 have hx':Ext U0 w0 U' w:=⟨hx.os,hx.tape,hx.output,hx.size,by omega,λ id r h=>by
   rw[hold id (by have:=(aA.1 h).1;omega)];exact hx.ids id r h,λ b h hb=>hx.fresh b (hM b h) hb,hx.block,hx.shape⟩
 refine⟨U',hx',⟨by rw[hlen'];simp [lV],λ i j b h1 h2=> ?_,λ i b h=>let ⟨j,h1,_⟩:=hsrc i _ h;hI.lt j b h1,λ id o h=> ?_,λ g x h=>(hI.glob g x h).cut (n:=0) (λ i hi=>by omega) hM rfl,?_,λ b h=>hI.own b (hM b h)⟩,⟨hF.1.1,λ p hp=>hF.1.2 p (cV _ hp)⟩,?_⟩
 ·obtain⟨i',a1,a2⟩:=hsrc i _ h1
  obtain⟨j',b1,b2⟩:=hsrc j _ h2
  have e:=hI.inj _ _ _ a1 b1
  subst e
  rcases a2 with⟨a2,a3⟩|⟨x,d,s,ob,a2,a3,a4⟩<;> rcases b2 with⟨b2,b3⟩|⟨y,d',s',ob',b2,b3,b4⟩
  ·omega
  ·omega
  ·omega
  ·have e:off dn x=off dn y:=by omega
   have q1:=mH dn hi' (hp.mem_iff.2 a2)
   have q2:=mH dn hi' (hp.mem_iff.2 b2)
   rw[e,q2]at q1
   simp only[Option.some.injEq,Prod.mk.injEq]at q1
   rw[a3,b3,q1.1]
 ·by_cases hid:id<Z.length
  ·rw[aq hid]at h
   have hb:=hI0.bd id o h
   rcases hI.obj id o (by rw[aq hid];exact h)with⟨b,h1,h2⟩|⟨h1,h2⟩
   ·exact .inl ⟨b,by rw[hold id hid];exact h1,h2.cutG hold hM hb⟩
   ·exact .inr ⟨by rw[hold id hid];exact h1,h2⟩
  ·rw[az (by omega)]at h
   simp only[lV,aN,bj,Option.some.injEq]at h
   obtain⟨⟨i,ob⟩,h1,rfl⟩:=h
   obtain⟨d,s,hm⟩:=od mb (bh h1)
   have e:=sI (k:=0) mb _ hi h1
   have hid':id=Z.length+off mb i:=by omega
   subst hid'
   have hg:=mH dn hi' (hp.mem_iff.2 hm)
   rcases hI.obj (Z.length+off dn i) ob (by rw[az (by omega),bk];simp only[lV,aN,hg,bJ])with⟨b,k1,k2⟩|⟨k1,k2⟩
   ·exact .inl ⟨b,by rw[hnew hm];exact k1,k2.cutG hold hM (hbo i d s ob hm)⟩
   ·exact .inr ⟨by rw[hnew hm];exact k1,k2⟩
 ·intro id o h
  by_cases hid:id<Z.length
  ·rw[aq hid]at h
   exact Ob.bd_mono (by simp) _ (hI0.bd id o h)
  ·rw[az (by omega)]at h
   simp only[lV,aN,bj,Option.some.injEq]at h
   obtain⟨⟨i,ob⟩,h1,rfl⟩:=h
   obtain⟨d,s,hm⟩:=od mb (bh h1)
   exact Ob.bd_mono (by simp) _ (hbo i d s ob hm)
 ·have hfl:(eI mb Z.length fr).length=a.tmps.toList.length:=by
   have:=hF.2.1
   rw[kM]at this ⊢
   exact this
  refine⟨hfl,λ t x v hx1 hv=> ?_⟩
  have hsz:t<fr.length:=by have:=(aA.1 hx1).1;rwa [kM]at this
  by_cases ht:t∈mb.map Mb.dst
  ·obtain⟨q,hq,rfl⟩:=aI.1 ht
   rw[lU mb _ _ hd hi hq hsz]at hx1
   injection hx1 with hx1
   subst hx1
   have hq':=hp.mem_iff.2 hq
   have:=hF.2.2 q.dst _ v (lU dn Z.length fr hd' hi' hq' hsz) hv
   cases q with
   |rd i d x=>exact this.cutG hold hM (hbr i d x hq hsz)
   |mk i d s ob=>exact Sh.move (hnew hq) this
  ·rw[js _ _ _ ht]at hx1
   by_cases htt:t∈ts
   ·rw[hts t htt ht x hx1];exact .o _
   have hs0:t<a0.tmps.size:=by have:=hF0.2.1;simp at this;omega
   have hk:=hF.1.2 _ (dS _ (kept_mem hs0 htt))
   have e:v=a0.tmps.getD t undef:=by
    rw[bP]at hv
    simp only at hk
    rw[hk]at hv
    injection hv with hv
    exact hv.symm
   have h0:=hF0.2.2 t x (a0.tmps.getD t undef) hx1 (by simp [Array.getD,hs0])
   rw[e]
   exact h0.ext hx'
structure Grp (P:Program) (G:Glob) (ops:Array Oper) (opt:Option Nat) (mb:List Mb) (m Mf:Nat) (fr F:Fr) (Z:St):Prop where
 nd:(mb.map Mb.i).Nodup
 ndd:(mb.map Mb.dst).Nodup
 ok:∀q∈mb,∃o,ops[q.i]? =some o∧o.dst=some q.dst∧∀(l:St) (k:A→St→Prop),k (q.val (Z.length+l.length)) (Z++l++q.obs)→fN P G ops o k F (Z++l)
 looks:∀q∈mb,∀o,ops[q.i]? =some o→∀r∈mb,r.dst∈o.looksAt ops→(∃i d x,r= .rd i d x)∧(ir ops o).edges.testBit r.i=true
 fit:∀q∈mb,m.testBit q.i=false
 all:∀j,Mf.testBit j=(m.testBit j||decide (j∈mb.map Mb.i))
 alone:∀q∈mb,opt≠some q.i→∃L:Nat,(∀b,m.testBit b=true→L.testBit b=true)∧(∀j oj,ops[j]? =some oj→j≠q.i→jL (ir ops oj).edges L=true→L.testBit j=true)∧∀b,L.testBit b=true→Mf.testBit b=true
 topo:∀mS q post,mb=mS++q::post→∀o,ops[q.i]? =some o→∀j,(ir ops o).edges.testBit j=true→m.testBit j=true∨j∈mS.map Mb.i
 last:∀o,opt=some o→∃mb0 x,mb=mb0++[x]∧x.i=o∧∀y,fr[x.dst]? =some y→y= .o
 bdr:∀i d x,Mb.rd i d x∈mb→d<fr.length→x.bdg Z.length=true
 bdo:∀i d s ob,Mb.mk i d s ob∈mb→ob.bd Z.length=true
 len:F.length=fr.length
 frd:∀i d x,Mb.rd i d x∈mb→d<fr.length→F[d]? =some x
 old:∀t,(∀i x,Mb.rd i t x∉mb)→F[t]? =fr[t]?
theorem mM{l r:List A}{t:Nat}(h:l[t]? =r[t]?):List.getD l t .o=List.getD r t .o:=by simp [List.getD,h]
theorem v9 {b:Df} {ops:Array Oper} {opt:Option Nat} {mb:List Mb} {m Mf d:Nat} {fr F:Fr} {U0:gM} {w0:World} {a0:Act} {Q:Exit→Act→World→Prop} (g:Grp P G ops opt mb m Mf fr F Z) (hd:∀o∈ops.toList,mT b o.dst)
  (hI0:Inv G U0 Z w0) (hF0:dl b U0 w0 fr a0) (hP:∀U' Z' a' w',Ext U0 w0 U' w'→Inv G U' Z' w'→xV b w' a'→PQ G U' w' a' Q)
  (hend:∀fuel listed U' a' w',d≤fuel→lm ops listed Mf→Ext U0 w0 U' w'→Inv G U' (Z++lV mb) w'→dl b U' w' (eI mb Z.length fr) a'→wpAnyIn (RF rn) 0 P .any ops Q fuel listed a' w')
  (hend2:∀o mb0 x,opt=some o→mb=mb0++[x]→x.i=o→∀fuel listed mD U' a' w',d+1≤fuel→lm ops listed mD→(∀j,mD.testBit j=(m.testBit j||decide (j∈mb0.map Mb.i)))→Ext U0 w0 U' w'→Inv G U' (Z++lV mb0) w'→dl b U' w' (eI mb0 Z.length fr) a'→wpAnyIn (RF rn) 0 P .any ops Q fuel listed a' w'):
  ∀(n:Nat) (dn rem:List Mb),rem.length=n→(dn++rem).Perm mb→∀(fuel mD:Nat) (listed:Array Bool) (U:gM) (a:Act) (w:World),n+d≤fuel→lm ops listed mD→(∀j,mD.testBit j=(m.testBit j||decide (j∈dn.map Mb.i)))→
   (∀q∈rem,opt≠some q.i→∀L:Nat,(∀b,m.testBit b=true→L.testBit b=true)→(∀j oj,ops[j]? =some oj→j≠q.i→jL (ir ops oj).edges L=true→L.testBit j=true)→∀b,mD.testBit b=true→L.testBit b=true)→
   Ext U0 w0 U w→Inv G U (Z++lV dn) w→dl { b with ks:=b.ks++ue (mb.map Mb.dst) a0} U w (eI dn Z.length fr) a→wpAnyIn (RF rn) 0 P .any ops Q fuel listed a w
 |0,dn,rem,hn,hp,fuel,mD,listed,U,a,w,hf,ht,hM,hL,hx,hI,hF=>by
  obtain rfl:=bz hn
  rw[bt]at hp
  have hm:Mf=mD:=Nat.eq_of_testBit_eq λ j=>by
   rw[g.all,hM]
   congr 1
   exact decide_eq_decide.2 (hp.map Mb.i).mem_iff.symm
  subst hm
  obtain⟨U',h1,h2,h3⟩:=canon (λ t ht hn=>absurd ht hn) hp g.nd g.ndd hI0 hF0 hx hI hF g.bdr g.bdo
  exact hend fuel listed U' a w (by omega) ht h1 h2 h3
 |n+1,dn,rem,hn,hp,fuel,mD,listed,U,a,w,hf,ht,hM,hL,hx,hI,hF=>by
  obtain⟨f,rfl⟩:∃f,fuel=f+1:=⟨fuel - 1,by omega⟩
  have hi':((dn++rem).map Mb.i).Nodup:=(hp.map _).nodup_iff.2 g.nd
  have hd':((dn++rem).map Mb.dst).Nodup:=(hp.map _).nodup_iff.2 g.ndd
  have hinj:∀p∈mb,∀r∈mb,p.i=r.i→p=r:=λ p hp r hr e=>by
   obtain⟨k1,hk1,e1⟩:=dm.1 hp
   obtain⟨k2,hk2,e2⟩:=dm.1 hr
   have:k1=k2:=by
    refine(List.getElem_inj (h₀:=by simpa using hk1) (h₁:=by simpa using hk2) g.nd).1 ?_
    rw[List.getElem_map,List.getElem_map,e1,e2];exact e
   subst this
   rw[←e1,←e2]
  by_cases hstop:∃x,rem=[x]∧opt=some x.i
  ·obtain⟨x,rfl,hox⟩:=hstop
   obtain⟨mb0,x',hmb,hxi,hany⟩:=g.last _ hox
   have hxm:x∈mb:=hp.mem_iff.1 (by simp)
   have hxm':x'∈mb:=by rw[hmb];simp
   have exx:x'=x:=hinj _ hxm' _ hxm hxi
   subst exx
   have hp0:dn.Perm mb0:=by
    rw[hmb]at hp
    exact(List.perm_append_right_iff _).1 hp
   have hnd0:=g.nd
   have hndd0:=g.ndd
   rw[hmb,aJ]at hnd0 hndd0
   have hsub:∀q∈mb0,q∈mb:=λ q hq=>by rw[hmb];exact cV _ hq
   obtain⟨U',h1,h2,h3⟩:=canon (mb:=mb0) (λ t ht hn y hy=>by
    obtain⟨q,hq,e⟩:=aI.1 ht
    rw[hmb]at hq
    rcases aW.1 hq with h|h
    ·exact absurd (aI.2 ⟨q,h,e⟩) hn
    ·rw[cm]at h
     subst h
     subst e
     exact hany y hy) hp0 (cW.1 hnd0).1 (cW.1 hndd0).1 hI0 hF0 hx hI hF (λ i d y h=>g.bdr i d y (hsub _ h)) (λ i d s ob h=>g.bdo i d s ob (hsub _ h))
   exact hend2 _ mb0 x' hox hmb rfl (f+1) listed mD U' a w (by omega) ht (λ j=>by
    rw[hM]
    congr 1
    exact decide_eq_decide.2 (hp0.map Mb.i).mem_iff) h1 h2 h3
  have hrem:∃q0∈rem,opt≠some q0.i:=by
   cases rem with
   |nil=>simp at hn
   |cons q r=>
    by_cases hq:opt=some q.i
    ·cases r with
     |nil=>exact absurd ⟨q,rfl,hq⟩ hstop
     |cons q' r=>
      refine⟨q',by simp,λ e=> ?_⟩
      rw[hq]at e
      injection e with e
      rw[aJ,aM,aM]at hi'
      have h5:=(cW.1 hi').2.1
      rw[cR]at h5
      exact h5.1 (by rw[e];exact cy)
    ·exact⟨q,cy,hq⟩
  -- who is ready
  have hmem:∀j∈Region.ready .any ops listed,∃q∈rem,q.i=j:=λ j hj=>by
   obtain⟨-,oj,hoj,-⟩:=mem_ready.1 hj
   have hrj:=(ht.ready hoj).1 hj
   rw[aB,bQ]at hrj
   have hnd:j∉dn.map Mb.i:=λ h=>by
    have:=hM j
    rw[hrj.1,dU h,Bool.or_true]at this;cases this
   by_cases hjm:j∈mb.map Mb.i
   ·obtain⟨q,hq,rfl⟩:=aI.1 hjm
    rcases aW.1 (hp.mem_iff.2 hq)with h|h
    ·exact absurd (aI.2 ⟨q,h,rfl⟩) hnd
    ·exact⟨q,h,rfl⟩
   ·exfalso
    obtain⟨q0,hq0,hqo⟩:=hrem
    have hq0m:q0∈mb:=hp.mem_iff.1 (dS _ hq0)
    have hne:q0.i≠j:=λ e=>hjm (aI.2 ⟨q0,hq0m,e⟩)
    have hjM:Mf.testBit j=false:=by
     rw[g.all,decide_eq_false hjm,Bool.or_false]
     have:=hM j
     rw[hrj.1]at this
     cases hmj:m.testBit j with
     |false=>rfl
     |true=>rw[hmj]at this;simp at this
    obtain⟨L,l1,l2,l3⟩:=g.alone q0 hq0m hqo
    have:=l3 j (l2 j oj hoj (Ne.symm hne) (nV λ b hb=>hL q0 hq0 hqo L l1 l2 b (iJ hrj.2 b hb)))
    rw[hjM]at this;cases this
  -- the first that is left is ready
  have hfirst:∃j,j∈Region.ready .any ops listed:=by
   obtain⟨mS,q,post,hmb,hpre,hq⟩:∃mS q post,mb=mS++q::post∧(∀p∈mS,p.i∈dn.map Mb.i)∧q.i∉dn.map Mb.i:=by
    have:∀(l:List Mb),(∃q∈l,q.i∉dn.map Mb.i)→∃mS q post,l=mS++q::post∧(∀p∈mS,p.i∈dn.map Mb.i)∧q.i∉dn.map Mb.i:=by
     intro l
     induction l with
     |nil=>rintro⟨q,h,_⟩;cases h
     |cons x l ih=>
      intro⟨q,hq,hnq⟩
      by_cases hxx:x.i∈dn.map Mb.i
      ·rcases aV.1 hq with rfl|h
       ·exact absurd hxx hnq
       ·obtain⟨mS,q',post,e,h1,h2⟩:=ih ⟨q,h,hnq⟩
        exact⟨x::mS,q',post,by rw[e];rfl,λ p hp'=>by rcases aV.1 hp' with rfl|h';exact hxx;exact h1 p h',h2⟩
      ·exact⟨[],x,l,rfl,λ p hp'=>(by cases hp'),hxx⟩
    refine this mb ?_
    obtain⟨q0,hq0⟩:∃q0,q0∈rem:=by
     cases rem with
     |nil=>simp at hn
     |cons q _=>exact⟨q,cy⟩
    refine⟨q0,hp.mem_iff.1 (dS _ hq0),λ h=> ?_⟩
    rw[aJ,cW]at hi'
    exact hi'.2.2 _ h _ (aI.2 ⟨q0,hq0,rfl⟩) rfl
   have hqm:q∈mb:=by rw[hmb];simp
   obtain⟨o,ho,-⟩:=g.ok q hqm
   refine⟨q.i,(ht.ready ho).2 ?_⟩
   rw[aB,bQ,hM,g.fit q hqm,decide_eq_false hq]
   refine⟨rfl,nV λ j hj=> ?_⟩
   rw[hM]
   rcases g.topo mS q post hmb o ho j hj with h|h
   ·rw[h];rfl
   ·obtain⟨p,hp1,rfl⟩:=aI.1 h
    rw[dU (hpre p hp1),Bool.or_true]
  refine⟨λ h0=>(by obtain⟨j,hj⟩:=hfirst;rw[h0]at hj;cases hj),λ j hj=> ?_⟩
  obtain⟨q,hq,rfl⟩:=hmem j hj
  obtain⟨s,t,rfl⟩:=List.append_of_mem hq
  have hqm:q∈mb:=hp.mem_iff.1 (dS _ hq)
  obtain⟨o,ho,hdst,hst⟩:=g.ok q hqm
  have hrq:=(ht.ready ho).1 hj
  rw[aB]at hrq
  have hp':((dn++[q])++(s++t)).Perm mb:=by
   refine List.Perm.trans ?_ hp
   rw[aU]
   exact List.Perm.append_left dn (List.perm_middle (a:=q) (l₁:=s) (l₂:=t)).symm
  -- what it sees
  have hag:∀u∈o.looksAt ops,List.getD F u .o=List.getD (eI dn Z.length fr) u .o:=λ u hu=>by
   by_cases hum:u∈mb.map Mb.dst
   ·obtain⟨r,hr,rfl⟩:=aI.1 hum
    obtain⟨⟨i,dd,x,rfl⟩,he⟩:=g.looks q hqm o ho r hr hu
    have hrl:=iJ hrq.2 _ he
    rw[hM,g.fit _ hr,fj,av]at hrl
    obtain⟨r',hr',e⟩:=aI.1 hrl
    have hr'm:r'∈dn++(s++q::t):=cV _ hr'
    have hrm:Mb.rd i dd x∈dn++(s++q::t):=hp.mem_iff.2 hr
    have er:r'= .rd i dd x:=by
     obtain⟨k1,hk1,e1⟩:=dm.1 hr'm
     obtain⟨k2,hk2,e2⟩:=dm.1 hrm
     have:k1=k2:=by
      refine(List.getElem_inj (h₀:=by simpa using hk1) (h₁:=by simpa using hk2) hi').1 ?_
      rw[List.getElem_map,List.getElem_map,e1,e2];exact e
     subst this
     rw[←e1,←e2]
    subst er
    by_cases hl:dd<fr.length
    ·refine mM ?_
     have:=lU dn Z.length fr (by rw[aJ]at hd';exact(cW.1 hd').1) (by rw[aJ]at hi';exact(cW.1 hi').1) hr' hl
     show F[dd]? =(eI dn Z.length fr)[dd]?
     rw[g.frd i dd x hr hl]
     exact this.symm
    ·refine mM ?_
     show F[dd]? =(eI dn Z.length fr)[dd]?
     rw[bm (by rw[g.len];exact Nat.le_of_not_lt hl),bm (by rw[kM];exact Nat.le_of_not_lt hl)]
   ·refine mM ?_
    rw[g.old u λ i x h=>hum (aI.2 ⟨_,h,rfl⟩),js]
    intro h
    obtain⟨r,h1,h2⟩:=aI.1 h
    exact hum (aI.2 ⟨r,hp.mem_iff.1 (cV _ h1),h2⟩)
  have hok':mT { b with ks:=b.ks++ue (mb.map Mb.dst) a0} o.dst:=λ dd hdd p hpp e=>by
   rcases aW.1 hpp with h|h
   ·exact hd o (by rw[←bP]at ho;exact bh ho) dd hdd p h e
   ·rw[hdst]at hdd
    injection hdd with hdd
    exact(zA h).1 (by rw[e,←hdd];exact aI.2 ⟨q,hqm,rfl⟩)
  have hlo:(lV dn).length=(mks dn).length:=by simp [lV]
  refine ni (K:=λ f s=>f=eI (dn++[q]) Z.length fr∧s=Z++lV (dn++[q])) ho hok' hI hF ?_ (hP _ _ _ _ hx hI ⟨hF.1.1,λ p hp=>hF.1.2 p (cV _ hp)⟩) λ fr' Z' U' a' w' h1 h2 h3 h4=> ?_
  ·unfold jZ
   refine rT hag (hst (lV dn) _ ⟨?_,?_⟩)
   ·rw[pj,hdst,hlo]
   ·rw[show lV (dn++[q])=lV dn++q.obs by unfold lV;rw[tW,aJ];cases q<;> rfl,aU]
  ·obtain⟨rfl,rfl⟩:=h4
   exact v9 (d:=d) g hd hI0 hF0 hP hend hend2 n (dn++[q]) (s++t) (by simp at hn ⊢;omega) hp' f _ _ U' a' w' (by omega) (ht.next ho) (λ j=>by
    rw[fP,eS,eo,hM,Bool.or_assoc]
    congr 1
    rw[dD]
    simp only[av,cd,aJ,aM,bq,aW,aV,bi,or_false]
    exact⟨λ h=>h.imp id λ e=>e.symm,λ h=>h.imp id λ e=>e.symm⟩) (λ r hr hro L l1 l2 b hb=>by
    have hrm:r∈s++q::t:=by
     rcases aW.1 hr with h|h
     ·exact cV _ h
     ·exact dS _ (bR _ h)
    rw[fP,eS,eo,cd,av]at hb
    rcases hb with hb|hb
    ·exact hL r hrm hro L l1 l2 b hb
    ·subst hb
     refine l2 q.i o ho (λ e=> ?_) (nV λ b hb=>hL r hrm hro L l1 l2 b (iJ hrq.2 b hb))
     rw[aJ]at hi'
     have h5:=(cW.1 hi').2.1
     rw[aJ,aM]at h5
     have h6:=(List.perm_middle (a:=q.i) (l₁:=s.map Mb.i) (l₂:=t.map Mb.i)).nodup_iff.1 h5
     rw[cR]at h6
     exact h6.1 (by rw[e,←aJ];exact aI.2 ⟨r,hr,rfl⟩)) (hx.trans h1) h2 h3
end

inductive GPlan where
 |plain (p:Plan)
 |one (i:Nat) (q:GPlan)
 |grp (rs ms:List Nat) (q:GPlan)
 |gro (rs ms:List Nat) (o:Nat) (q1 q2:GPlan)
def GPlan.depth:GPlan→Nat
 | .plain p=>p.depth
 | .one _ q=>q.depth+1
 | .grp rs ms q=>(rs++ms).length+q.depth
 | .gro rs ms o q1 q2=>(rs++(ms++[o])).length+max q1.depth (q2.depth - 1)
def BT(is:List Inf):List Nat→Nat→Bool
 |[],_=>true
 |i::r,m=>jL (fX is i).edges m&&BT is r (m ||| (1 <<< i))
def ndM:List Nat→Bool
 |[]=>true
 |i::r=> !r.contains i&&ndM r
def sepM(is:List Inf)(rs l:List Nat):Bool:=l.all λ i=>l.all λ j=>(i==j||((fX is i).dst &&& (fX is j).dst==0))&&(((fX is i).looks &&& (fX is j).dst==0)||(rs.contains j&&(fX is i).edges.testBit j))
def Ct(i L:Nat):List Inf→Nat→Bool
 |[],_=>true
 |x::r,j=>(j==i||L.testBit j|| !jL x.edges L)&&Ct i L r (j+1)
def onlyM(is:List Inf)(i m Mf:Nat):Bool:=jL m (lw i is 0 m)&&Ct i (lw i is 0 m) is 0&&jL (lw i is 0 m) Mf
def grpM(is:List Inf)(rs ms ms':List Nat)(m:Nat):Bool:=
 ndM (rs++ms')&&BT is (rs++ms') m&&sepM is rs (rs++ms')&&(rs.all λ i=>(fX is i).reads)&&((rs++ms').all λ i=>decide (i<is.length)&& !m.testBit i)&&(rs++ms).all λ i=>onlyM is i m (kW (rs++ms') m)
def GPlan.check(is:List Inf):GPlan→Nat→Bool
 | .plain p,m=>p.check is false m
 | .one i q,m=>(match is[i]? with|some x=> !m.testBit i&&jL x.edges m|none=>false)&&lK [i] m is 0&&q.check is (m ||| (1 <<< i))
 | .grp rs ms q,m=>grpM is rs ms ms m&&q.check is (kW (rs++ms) m)
 | .gro rs ms o q1 q2,m=>grpM is rs ms (ms++[o]) m&&q1.check is (kW (rs++(ms++[o])) m)&&q2.check is (kW (rs++ms) m)
structure Mk where
 i:Nat
 dst:Tmp
 s:Sh
 ob:Ob
def Mk.ok(P:Program)(G:Glob)(ops:Array Oper)(fr:Fr)(q:Mk):Prop:=∃o,ops[q.i]? =some o∧o.dst=some q.dst∧∀(Z:St) (k:A→St→Prop),k (q.s.at Z.length) (Z++[some q.ob])→fN P G ops o k fr Z
def iV:List Mk→Nat→Fr→Fr
 |[],_,fr=>fr
 |q::r,n,fr=>iV r (n+1) (kE fr (some q.dst) (q.s.at n))
def bdAt(n:Nat)(fr:Fr):Option Tmp→Prop
 |some d=>(List.getD fr d .o).bdg n=true
 |none=>False
def qC(P:Program)(G:Glob)(ops:Array Oper)(n:Nat)(K:Fr→Prop):List Nat→Fr→St→Prop
 |[],fr,_=>K fr
 |i::r,fr,Z=>match ops[i]? with
  |some o=>jZ P G ops o (λ fr' Z'=>bdAt n fr' o.dst∧qC P G ops n K r fr' Z') fr Z
  |none=>False
def sS(P:Program)(G:Glob)(ops:Array Oper)(K:Fr→St→Prop):GPlan→Fr→St→Prop
 | .plain p,fr,Z=>dP P G ops K p fr Z
 | .one i q,fr,Z=>match ops[i]? with
  |some o=>jZ P G ops o (sS P G ops K q) fr Z
  |none=>False
 | .grp rs ms q,fr,Z=>qC P G ops Z.length (λ fr'=>∃sp:List Mk,sp.map Mk.i=ms∧(∀q∈sp,q.ok P G ops fr'∧q.ob.bd Z.length=true)∧sS P G ops K q (iV sp Z.length fr') (Z++sp.map λ q=>some q.ob)) rs fr Z
 | .gro rs ms o q1 q2,fr,Z=>qC P G ops Z.length (λ fr'=>∃(sp:List Mk) (po:Mk),sp.map Mk.i=ms∧po.i=o∧(∀q∈sp++[po],q.ok P G ops fr'∧q.ob.bd Z.length=true)∧List.getD fr po.dst .o= .o∧
   sS P G ops K q1 (iV (sp++[po]) Z.length fr') (Z++(sp++[po]).map λ q=>some q.ob)∧sS P G ops K q2 (iV sp Z.length fr') (Z++sp.map λ q=>some q.ob)) rs fr Z

theorem uD{i L:Nat}:∀{l:List Inf} {j:Nat},Ct i L l j=true→∀(k:Nat) (x:Inf),l[k]? =some x→j+k≠i→jL x.edges L=true→L.testBit (j+k)=true
 |[],_,_,k,x,hk,_,_=>by simp at hk
 |y::r,j,h,k,x,hk,hne,he=>by
  simp only[Ct,aB,cd,cg,bQ]at h
  match k with
  |0=>
   simp only[cA,Option.some.injEq]at hk
   subst hk
   rcases h.1 with(h1|h1)|h1
   ·exact absurd h1 hne
   ·exact h1
   ·rw[he]at h1;cases h1
  |k+1=>
   have:=uD h.2 k x (by simpa using hk) (by omega) he
   rwa [show j+1+k=j+(k+1)by omega]at this
theorem tV:∀{l:List Nat},ndM l=true→l.Nodup
 |[],_=>List.nodup_nil
 |i::r,h=>by
  simp only[ndM,aB,bQ,List.contains_eq_mem,ay]at h
  exact cR.2 ⟨h.1,tV h.2⟩
theorem td{is:List Inf}:∀{l:List Nat} {m:Nat},BT is l m=true→∀mS i post,l=mS++i::post→∀j,(fX is i).edges.testBit j=true→m.testBit j=true∨j∈mS
 |[],m,_,mS,i,post,e,j,_=>by simp at e
 |x::l,m,h,mS,i,post,e,j,hj=>by
  simp only[BT,aB]at h
  cases mS with
  |nil=>
   simp only[ak,List.cons.injEq]at e
   obtain⟨rfl,rfl⟩:=e
   exact .inl (iJ h.1 j hj)
  |cons y mS=>
   simp only[ah,List.cons.injEq]at e
   obtain⟨rfl,rfl⟩:=e
   rcases td h.2 mS i post rfl j hj with h1|h1
   ·rw[fP,eS,eo,cd,av]at h1
    rcases h1 with h1|h1
    ·exact .inl h1
    ·exact .inr (by rw[h1];exact cy)
   ·exact .inr (bR _ h1)

section
variable {P:Program} {U U':gM} {w w':World} {Z:St} {G:Glob} {rn:Option Nat}
theorem mC:∀(l r:List Mb) (n:Nat) (fr:Fr),(∀q∈l,∃i d x,q=Mb.rd i d x)→eI (l++r) n fr=eI r n (eI l n fr)
 |[],r,n,fr,_=>rfl
 | .rd i d x::l,r,n,fr,h=>by simp only[ah,eI];exact mC l r n _ λ q hq=>h q (bR _ hq)
 | .mk i d s ob::l,r,n,fr,h=>by obtain⟨_,_,_,e⟩:=h _ cy;cases e
def Mk.mb(q:Mk):Mb:= .mk q.i q.dst q.s q.ob
theorem vL:∀(sp:List Mk) (n:Nat) (fr:Fr),eI (sp.map Mk.mb) n fr=iV sp n fr
 |[],n,fr=>rfl
 |q::sp,n,fr=>by simp only[aM,Mk.mb,eI,iV,vL sp]
theorem Cb:∀(sp:List Mk),mks (sp.map Mk.mb)=sp.map λ q=>(q.i,q.ob)
 |[]=>rfl
 |q::sp=>by simp only[aM,Mk.mb,mks];rw[←Cb sp]
theorem Ca:∀(l:List Mb),(∀q∈l,∃i d x,q=Mb.rd i d x)→mks l=[]
 |[],_=>rfl
 | .rd i d x::l,h=>Ca l λ q hq=>h q (bR _ hq)
 | .mk i d s ob::l,h=>by obtain⟨_,_,_,e⟩:=h _ cy;cases e
theorem rds_of{ops:Array Oper}{K:Fr→Prop}{n:Nat}:∀(rs:List Nat) {fr:Fr},(∀i∈rs,∀o,ops[i]? =some o→ij o.op=true)→qC P G ops n K rs fr Z→
  ∃rl:List Mb,(∀q∈rl,∃i d x,q=Mb.rd i d x)∧rl.map Mb.i=rs∧K (eI rl n fr)∧(∀i d x,Mb.rd i d x∈rl→d<fr.length→x.bdg n=true)∧
   ∀mS q post,rl=mS++q::post→∃o,ops[q.i]? =some o∧o.dst=some q.dst∧rM P G ops o Z (eI mS n fr) (q.val n)
 |[],fr,_,h=>⟨[],λ q hq=>(by cases hq),rfl,h,λ i d x hx=>(by cases hx),λ mS q post e=>(by simp at e)⟩
 |i::rs,fr,hr,h=>by
  simp only[qC]at h
  split at h
  ·rename_i o ho
   obtain⟨x,h1,h2,h3⟩:=kS (hr i cy o ho) h
   cases hd:o.dst with
   |none=>rw[hd]at h2;exact h2.elim
   |some d=>
    rw[hd]at h2 h3
    obtain⟨rl,k1,k2,k3,k4,k5⟩:=rds_of rs (λ j hj=>hr j (bR _ hj)) h3
    refine⟨.rd i d x::rl,λ q hq=> ?_,by rw[aM,k2];rfl,k3,λ j e y hy hl=> ?_,λ mS q post e=> ?_⟩
    ·rcases aV.1 hq with rfl|hq
     ·exact⟨_,_,_,rfl⟩
     ·exact k1 q hq
    ·rcases aV.1 hy with e'|hy
     ·injection e' with _ e1 e2
      subst e1;subst e2
      simp only[bdAt,kE,List.getD,aT hl,b9]at h2
      exact h2
     ·exact k4 j e y hy (by simpa [kE]using hl)
    ·cases mS with
     |nil=>
      simp only[ak,List.cons.injEq]at e
      obtain⟨rfl,rfl⟩:=e
      exact⟨o,ho,hd,h1⟩
     |cons p mS=>
      simp only[ah,List.cons.injEq]at e
      obtain⟨rfl,rfl⟩:=e
      exact k5 mS q post rfl
  ·exact h.elim
theorem Ck {b:Df} {ops:Array Oper} {Q:Exit→Act→World→Prop} (hd:∀o∈ops.toList,mT b o.dst) {rs ms ms':List Nat} {opt:Option Nat} {m fuel d:Nat} {listed:Array Bool} {fr:Fr} {a:Act} {K:Fr→Prop} {W:List Mk→Fr→Prop}
  (hmo:(opt=none∧ms'=ms)∨∃o,opt=some o∧ms'=ms++[o]) (ht:lm ops listed m) (hf:(rs++ms').length+d≤fuel) (hc:grpM (eg ops) rs ms ms' m=true) (h:qC P G ops Z.length K rs fr Z)
  (hK:∀fr',K fr'→∃sp:List Mk,sp.map Mk.i=ms'∧(∀q∈sp,q.ok P G ops fr'∧q.ob.bd Z.length=true)∧(∀o,opt=some o→∃sp0 po,sp=sp0++[po]∧List.getD fr po.dst .o= .o)∧W sp fr')
  (hI:Inv G U Z w) (hF:dl b U w fr a) (hP:∀U' Z' a' w',Ext U w U' w'→Inv G U' Z' w'→xV b w' a'→PQ G U' w' a' Q)
  (he1:∀fr' sp,W sp fr'→∀f' l' U' a' w',d≤f'→lm ops l' (kW (rs++ms') m)→Ext U w U' w'→Inv G U' (Z++sp.map λ q=>some q.ob) w'→dl b U' w' (iV sp Z.length fr') a'→wpAnyIn (RF rn) 0 P .any ops Q f' l' a' w')
  (he2:∀fr' sp po,opt≠none→W (sp++[po]) fr'→∀f' l' U' a' w',d+1≤f'→lm ops l' (kW (rs++ms) m)→Ext U w U' w'→Inv G U' (Z++sp.map λ q=>some q.ob) w'→dl b U' w' (iV sp Z.length fr') a'→wpAnyIn (RF rn) 0 P .any ops Q f' l' a' w'):
  wpAnyIn (RF rn) 0 P .any ops Q fuel listed a w:=by
  simp only[grpM,aB]at hc
  obtain⟨⟨⟨⟨⟨c1,c2⟩,c3⟩,c4⟩,c5⟩,c6⟩:=hc
  have hgi:∀i o,ops[i]? =some o→fX (eg ops) i=ir ops o:=λ i o ho=>by
   unfold fX;rw[au,gE ho];rfl
  rw[aZ]at c4 c5 c6
  obtain⟨rl,r1,r2,hKf,r4,r5⟩:=rds_of rs (λ i hi o ho=>by have:=c4 i hi;rw[hgi i o ho]at this;exact this) h
  obtain⟨sp,s1,s2,s3,s4⟩:=hK _ hKf
  let mb:List Mb:=rl++sp.map Mk.mb
  have hmi:mb.map Mb.i=rs++ms':=by
   show(rl++sp.map Mk.mb).map Mb.i=_
   rw[aJ,r2,←s1,dZ];rfl
  have hnd:(mb.map Mb.i).Nodup:=by rw[hmi];exact tV c1
  have hmk:∀p∈sp.map Mk.mb,∃q∈sp,p=q.mb:=λ p hp=>let ⟨q,h1,h2⟩:=aI.1 hp;⟨q,h1,h2.symm⟩
  have hop:∀p∈mb,∃o,ops[p.i]? =some o∧o.dst=some p.dst:=λ p hp=>by
   rcases aW.1 hp with h|h
   ·obtain⟨s,t,e⟩:=List.append_of_mem h
    obtain⟨o,h1,h2,-⟩:=r5 s p t e
    exact⟨o,h1,h2⟩
   ·obtain⟨q,hq,rfl⟩:=hmk p h
    obtain⟨⟨o,h1,h2,-⟩,-⟩:=s2 q hq
    exact⟨o,h1,h2⟩
  have hmem:∀p∈mb,p.i∈rs++ms':=λ p hp=>by rw[←hmi];exact aI.2 ⟨p,hp,rfl⟩
  have hrs:∀p∈mb,p.i∈rs→∃i d x,p= .rd i d x:=λ p hp hi=>by
   rcases aW.1 hp with h|h
   ·exact r1 p h
   ·exfalso
    have h1:=tV c1
    rw[cW]at h1
    refine h1.2.2 _ hi _ ?_ rfl
    obtain⟨q,hq,rfl⟩:=hmk p h
    rw[←s1]
    exact aI.2 ⟨q,hq,rfl⟩
  have hsep:∀p∈mb,∀o,ops[p.i]? =some o→∀r∈mb,(p.i≠r.i→p.dst≠r.dst)∧(r.dst∈o.looksAt ops→r.i∈rs∧(ir ops o).edges.testBit r.i=true):=λ p hp o ho r hr=>by
   simp only[sepM,aZ]at c3
   have:=c3 p.i (hmem p hp) r.i (hmem r hr)
   obtain⟨o',ho',hd'⟩:=hop r hr
   obtain⟨o2,ho2,hd2⟩:=hop p hp
   rw[ho]at ho2;injection ho2 with ho2;subst ho2
   rw[hgi _ _ ho,hgi _ _ ho']at this
   simp only[aB,cd,cg (a:=p.i),dv]at this
   have hb:(ir ops o').dst.testBit r.dst=true:=by simp only[ir,hd',fI];simp
   refine⟨λ hne e=> ?_,λ hl=> ?_⟩
   ·rcases this.1 with h1|h1
    ·exact hne h1
    ·have h2:=nN h1 p.dst (by simp only[ir,hd2,fI];simp)
     rw[e,hb]at h2;cases h2
   ·rcases this.2 with h1|h1
    ·have h2:=nN h1 r.dst (by simp only[ir,fI];exact dU hl)
     rw[hb]at h2;cases h2
    ·exact h1
  have hfit:∀p∈mb,m.testBit p.i=false∧(opt≠some p.i→onlyM (eg ops) p.i m (kW (rs++ms') m)=true):=λ p hp=>by
   have:=c5 p.i (hmem p hp)
   simp only[aB,bQ]at this
   refine⟨this.2,λ hne=>c6 p.i ?_⟩
   have h1:=hmem p hp
   rcases hmo with⟨_,rfl⟩|⟨o,ho,rfl⟩
   ·exact h1
   ·rw[←aU]at h1
    rcases aW.1 h1 with h1|h1
    ·exact h1
    ·rw[cm]at h1
     exact absurd (by rw[ho,h1]) hne
  have htopo:∀mS p post,mb=mS++p::post→∀o,ops[p.i]? =some o→∀j,(ir ops o).edges.testBit j=true→m.testBit j=true∨j∈mS.map Mb.i:=λ mS p post e o ho j hj=>
   td c2 (mS.map Mb.i) p.i (post.map Mb.i) (by rw[←hmi,e,aJ,aM]) j (by rw[hgi _ _ ho];exact hj)
  have hinj:∀p∈mb,∀r∈mb,p.i=r.i→p=r:=λ p hp r hr e=>by
   obtain⟨k1,hk1,e1⟩:=dm.1 hp
   obtain⟨k2,hk2,e2⟩:=dm.1 hr
   have:k1=k2:=by
    refine(List.getElem_inj (h₀:=by simpa using hk1) (h₁:=by simpa using hk2) hnd).1 ?_
    rw[List.getElem_map,List.getElem_map,e1,e2];exact e
   subst this
   rw[←e1,←e2]
  have hndd:(mb.map Mb.dst).Nodup:=by
   have h1:=List.pairwise_map.1 hnd
   refine List.pairwise_map.2 (h1.imp_of_mem λ {p r} hp hr hne=> ?_)
   obtain⟨o,ho,-⟩:=hop p hp
   exact(hsep p hp o ho r hr).1 hne
  have hrd:∀p∈rl,p∈mb:=λ p hp=>cV _ hp
  have hndr:(rl.map Mb.dst).Nodup∧(rl.map Mb.i).Nodup:=by
   have e:mb=rl++sp.map Mk.mb:=rfl
   rw[e,aJ]at hndd hnd
   exact⟨(cW.1 hndd).1,(cW.1 hnd).1⟩
  have g:Grp P G ops opt mb m (kW (rs++ms') m) fr (eI rl Z.length fr) Z:=by
   refine⟨hnd,hndd,λ p hp=> ?_,λ p hp o ho r hr hl=> ?_,λ p hp=>(hfit p hp).1,λ j=>by rw[mF,hmi],λ p hp hne=> ?_,htopo,λ o ho=> ?_,λ i d x hx=> ?_,λ i d s ob hx=> ?_,kM _ _ _,λ i d x hx hl=> ?_,λ t hn=> ?_⟩
   ·rcases aW.1 hp with h|h
    ·obtain⟨s,t,e⟩:=List.append_of_mem h
     obtain⟨o,ho,hdst,hy⟩:=r5 s p t e
     refine⟨o,ho,hdst,λ l k hk=> ?_⟩
     have hro:ij o.op=true:=by
      have:=c4 p.i (by rw[←r2];exact aI.2 ⟨p,h,rfl⟩)
      rw[hgi _ _ ho]at this;exact this
     obtain⟨i,d,x,rfl⟩:=r1 p h
     refine rT (fr:=eI s Z.length fr) (λ u hu=>mM ?_) (hy.later (vY Z l) hro k (by rw[show Z++l++(Mb.rd i d x).obs=Z++l from bt _]at hk;exact hk))
     rw[e,mC s _ _ _ λ q hq=>r1 q (by rw[e];exact cV _ hq)]
     refine(js _ _ _ λ hm=> ?_).symm
     obtain⟨r,hr,rfl⟩:=aI.1 hm
     have hrm:r∈mb:=hrd r (by rw[e];exact dS _ hr)
     have h1:=((hsep _ hp o ho r hrm).2 hu).2
     rcases htopo s _ (t++sp.map Mk.mb) (by show rl++_=_;rw[e];simp) o ho r.i h1 with h2|h2
     ·rw[(hfit r hrm).1]at h2;cases h2
     ·have h3:=hndr.2
      rw[e,aJ]at h3
      exact(cW.1 h3).2.2 _ h2 _ (aI.2 ⟨r,hr,rfl⟩) rfl
    ·obtain⟨q,hq,rfl⟩:=hmk p h
     obtain⟨⟨o,ho,hdst,hst⟩,-⟩:=s2 q hq
     refine⟨o,ho,hdst,λ l k hk=>hst _ k ?_⟩
     rw[aF];exact hk
   ·obtain⟨h1,h2⟩:=(hsep p hp o ho r hr).2 hl
    exact⟨hrs r hr h1,h2⟩
   ·have h1:=(hfit p hp).2 hne
    simp only[onlyM,aB]at h1
    refine⟨lw p.i (eg ops) 0 m,iJ h1.1.1,λ j oj hoj hne he=> ?_,iJ h1.2⟩
    have:=uD h1.1.2 j _ (gE hoj) (by omega) he
    rwa [ci]at this
   ·obtain⟨sp0,po,rfl,hany⟩:=s3 o ho
    refine⟨rl++sp0.map Mk.mb,po.mb,?_,?_,λ y hy=> ?_⟩
    ·show rl++(sp0++[po]).map Mk.mb=_
     rw[aJ,aU];rfl
    ·rcases hmo with⟨h0,_⟩|⟨o',ho',rfl⟩
     ·rw[h0]at ho;cases ho
     ·rw[ho]at ho'
      injection ho' with ho'
      rw[aJ]at s1
      have:=List.append_inj_right' s1 rfl
      simp only[aM,bq,List.cons.injEq,and_true]at this
      rw[ho'];exact this
    ·change fr[po.dst]? =some y at hy
     simpa [List.getD,hy]using hany
   ·rcases aW.1 hx with h|h
    ·exact r4 i d x h
    ·obtain⟨q,hq,e⟩:=hmk _ h;cases e
   ·rcases aW.1 hx with h|h
    ·obtain⟨_,_,_,e⟩:=r1 _ h;cases e
    ·obtain⟨q,hq,e⟩:=hmk _ h
     injection e with _ _ _ e4
     rw[e4];exact(s2 q hq).2
   ·rcases aW.1 hx with h|h
    ·have:=lU (q:= .rd i d x) rl Z.length fr hndr.1 hndr.2 h hl
     exact this
    ·obtain⟨q,hq,e⟩:=hmk _ h;cases e
   ·refine js _ _ _ λ hm=> ?_
    obtain⟨r,hr,e⟩:=aI.1 hm
    obtain⟨i,d,x,rfl⟩:=r1 r hr
    cases e
    exact hn i x (hrd _ hr)
  have hob:∀sp:List Mk,Z++lV (rl++sp.map Mk.mb)=Z++sp.map λ q=>some q.ob:=λ sp=>by
   show Z++(mks (rl++sp.map Mk.mb)).map _=_
   rw[tW,Ca rl r1,Cb,ak,dZ];rfl
  have hpu:∀sp:List Mk,eI (rl++sp.map Mk.mb) Z.length fr=iV sp Z.length (eI rl Z.length fr):=λ sp=>by rw[mC _ _ _ _ r1,vL]
  refine v9 (d:=d) g hd hI hF hP (λ f' l' U' a' w' e1 e2 e3 e4 e5=> ?_) (λ o mb0 x ho hmb hxi f' l' mD U' a' w' e1 e2 eM e3 e4 e5=> ?_) mb.length [] mb rfl (List.Perm.refl _) fuel m listed U a w ?_ ht (λ j=>by simp) (λ _ _ _ L l1 _ b hb=>l1 b hb) (Ext.refl _ _) (by simpa [lV,mks]using hI) ?_
  ·rw[show Z++lV mb=Z++sp.map λ q=>some q.ob from hob sp]at e4
   rw[show eI mb Z.length fr=iV sp Z.length (eI rl Z.length fr)from hpu sp]at e5
   exact he1 _ sp s4 f' l' U' a' w' e1 e2 e3 e4 e5
  ·obtain⟨sp0,po,rfl,hany⟩:=s3 o ho
   have hm0:mb0=rl++sp0.map Mk.mb:=by
    have e0:rl++(sp0++[po]).map Mk.mb=mb0++[x]:=hmb
    rw[aJ,←aU]at e0
    exact(List.append_inj_left' e0 rfl).symm
   subst hm0
   rw[hob]at e4
   rw[hpu]at e5
   refine he2 _ sp0 po (by rw[ho];exactλ q=>by cases q) s4 f' l' U' a' w' e1 ?_ e3 e4 e5
   have:mD=kW (rs++ms) m:=Nat.eq_of_testBit_eq λ j=>by
    rw[eM,mF]
    congr 1
    refine decide_eq_decide.2 ?_
    have e6:(rl++sp0.map Mk.mb).map Mb.i=rs++ms:=by
     rw[aJ,r2,dZ]
     congr 1
     rcases hmo with⟨h0,_⟩|⟨o',ho',rfl⟩
     ·rw[h0]at ho;cases ho
     ·rw[aJ]at s1
      exact List.append_inj_left' s1 rfl
    rw[e6]
   rw[←this];exact e2
  ·have:mb.length=(rs++ms').length:=by rw[←hmi,ac]
   omega
  ·refine⟨⟨hF.1.1,λ p hp=> ?_⟩,hF.2⟩
   rcases aW.1 hp with h|h
   ·exact hF.1.2 p h
   ·exact(zA h).2
theorem mq{b:Df}{ops:Array Oper}{K:Fr→St→Prop}{Q:Exit→Act→World→Prop}(hd:∀o∈ops.toList,mT b o.dst):∀(g:GPlan) (fuel m:Nat) (listed:Array Bool) {fr:Fr} {Z:St} {U:gM} {w:World} {a:Act},g.depth≤fuel→lm ops listed m→g.check (eg ops) m=true→
  sS P G ops K g fr Z→Inv G U Z w→dl b U w fr a→(∀U' Z' a' w',Ext U w U' w'→Inv G U' Z' w'→xV b w' a'→PQ G U' w' a' Q)→
  (∀fr' Z' U' a' w',Ext U w U' w'→Inv G U' Z' w'→dl b U' w' fr' a'→K fr' Z'→Q .normal a' w')→wpAnyIn (RF rn) 0 P .any ops Q fuel listed a w
 | .plain p,fuel,m,listed,fr,Z,U,w,a,hf,ht,hc,h,hI,hF,hP,hQ=>nL hd fuel listed hI hF ((ji p fuel m listed hf ht).1 hc h) hP hQ
 | .one i q,fuel,m,listed,fr,Z,U,w,a,hf,ht,hc,h,hI,hF,hP,hQ=>by
  simp only[GPlan.depth]at hf
  obtain⟨f,rfl⟩:∃f,fuel=f+1:=⟨fuel - 1,by omega⟩
  simp only[GPlan.check,aB]at hc
  simp only[sS]at h
  split at h
  ·rename_i o ho
   obtain⟨⟨h1,h2⟩,h3⟩:=hc
   rw[gE ho]at h1
   have hr:=(ht.ready ho).2 h1
   refine⟨λ h0=>(by rw[h0]at hr;cases hr),λ j hj=> ?_⟩
   have:=ht.alone h2 j hj
   obtain rfl:j=i:=by simpa using this
   refine ni ho (hd o (by rw[←bP]at ho;exact bh ho)) hI hF h (hP _ _ _ _ (Ext.refl _ _) hI hF.1) λ fr' Z' U' a' w' k1 k2 k3 k4=> ?_
   exact mq hd q f _ _ (by omega) (ht.next ho) h3 k4 k2 k3 (λ U'' Z'' a'' w'' e1 e2 e3=>hP _ _ _ _ (k1.trans e1) e2 e3) λ fr'' Z'' U'' a'' w'' e1 e2 e3 e4=>hQ _ _ _ _ _ (k1.trans e1) e2 e3 e4
  ·exact h.elim
 | .grp rs ms q,fuel,m,listed,fr,Z,U,w,a,hf,ht,hc,h,hI,hF,hP,hQ=>by
  simp only[GPlan.depth]at hf
  simp only[GPlan.check,aB]at hc
  obtain⟨hc,hcq⟩:=hc
  simp only[sS]at h
  refine Ck (d:=q.depth) (opt:=none) (W:=λ sp fr'=>sS P G ops K q (iV sp Z.length fr') (Z++sp.map λ q=>some q.ob)) hd (.inl ⟨rfl,rfl⟩) ht hf hc h (λ fr' ⟨sp,s1,s2,s3⟩=>⟨sp,s1,s2,λ o ho=>(by cases ho),s3⟩) hI hF hP (λ fr' sp hw f' l' U' a' w' e1 e2 e3 e4 e5=> ?_) λ fr' sp po ho=>absurd rfl ho
  exact mq hd q f' _ l' e1 e2 hcq hw e4 e5 (λ U'' Z'' a'' w'' k1 k2 k3=>hP _ _ _ _ (e3.trans k1) k2 k3) λ fr'' Z'' U'' a'' w'' k1 k2 k3 k4=>hQ _ _ _ _ _ (e3.trans k1) k2 k3 k4
 | .gro rs ms o q1 q2,fuel,m,listed,fr,Z,U,w,a,hf,ht,hc,h,hI,hF,hP,hQ=>by
  simp only[GPlan.depth]at hf
  simp only[GPlan.check,aB]at hc
  obtain⟨⟨hc,hc1⟩,hc2⟩:=hc
  simp only[sS]at h
  refine Ck (d:=max q1.depth (q2.depth - 1)) (opt:=some o) (W:=λ sp fr'=>sS P G ops K q1 (iV sp Z.length fr') (Z++sp.map λ q=>some q.ob)∧∀sp0 po,sp=sp0++[po]→sS P G ops K q2 (iV sp0 Z.length fr') (Z++sp0.map λ q=>some q.ob)) hd (.inr ⟨o,rfl,rfl⟩) ht hf hc h (λ fr' ⟨sp,po,s1,s2,s3,s4,s5,s6⟩=>⟨sp++[po],by rw[aJ,s1,aM,bq,s2],s3,λ _ _=>⟨sp,po,rfl,s4⟩,s5,λ sp0 po0 e=>by
    have:=List.append_inj_left' e rfl
    subst this;exact s6⟩) hI hF hP (λ fr' sp hw f' l' U' a' w' e1 e2 e3 e4 e5=> ?_) λ fr' sp po _ hw f' l' U' a' w' e1 e2 e3 e4 e5=> ?_
  ·exact mq hd q1 f' _ l' (by omega) e2 hc1 hw.1 e4 e5 (λ U'' Z'' a'' w'' k1 k2 k3=>hP _ _ _ _ (e3.trans k1) k2 k3) λ fr'' Z'' U'' a'' w'' k1 k2 k3 k4=>hQ _ _ _ _ _ (e3.trans k1) k2 k3 k4
  ·exact mq hd q2 f' _ l' (by omega) e2 hc2 (hw.2 sp po rfl) e4 e5 (λ U'' Z'' a'' w'' k1 k2 k3=>hP _ _ _ _ (e3.trans k1) k2 k3) λ fr'' Z'' U'' a'' w'' k1 k2 k3 k4=>hQ _ _ _ _ _ (e3.trans k1) k2 k3 k4
theorem zG {b:Df} (hm:P.follows .mixedOrders=true) {id:Nat} {ops:Array Oper} (ho:∀o∈ops.toList,mT b o.dst) (g:GPlan) (hd:g.depth≤ops.size) (hc:g.check (eg ops) 0=true) {K:Fr→St→Prop} {Q:Exit→Act→World→Prop} {fr:Fr} {a:Act}
  (hI:Inv G U Z w) (hF:dl b U w fr a) (h:sS P G ops K g fr Z) (hP:∀U' Z' a' w',Ext U w U' w'→Inv G U' Z' w'→xV b w' a'→PQ G U' w' a' Q) (hQ:∀fr' Z' U' a' w',Ext U w U' w'→Inv G U' Z' w'→dl b U' w' fr' a'→K fr' Z'→Q .normal a' w'):(Code.region id ops true).wpIn (RF rn) 0 P Q a w:=by
 have hd':=Ext.drew U w
 exact wpIn_region_any hm (mq ho g ops.size 0 _ hd (te ops) hc h (w:=w.drew) (hI.ext_same hd' rfl) (hF.ext hI hd') (λ U' Z' a' w' h1 h2 h3=>hP _ _ _ _ (hd'.trans h1) h2 h3) λ fr' Z' U' a' w' h1 h2 h3 h4=>hQ _ _ _ _ _ (hd'.trans h1) h2 h3 h4)
end
end Go.Ab
