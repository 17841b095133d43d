import Derived.Test.YtdpdbokicanpoaaGreatDoorAbK
import Derived.Test.YtdpdbokicanpoaaGreatDoorAbSimp
set_option linter.unusedSimpArgs false
set_option linter.unusedVariables false
set_option maxHeartbeats 64000000
namespace Go.Ab
open Go

mutual
def A.frz(id sz off:Nat)(xs:List D):A→A
 | .rs i s o l w=>if i=id∧s=sz∧o=off∧l=xs.length then .d (.sl sz xs)else .rs i s o l w
 | .agg cs=>mU (jP id sz off xs cs)
 | .tup cs=> .tup (jP id sz off xs cs)
 | .ifc t a=> .ifc t (a.frz id sz off xs)
 | .d x=> .d x
 | .ea x o=> .ea x o
 | .ref i o=> .ref i o
 | .fn f cs ds=> .fn f cs ds
 | .mapr i=> .mapr i
 | .grd c a=> .grd c a
 | .o=> .o
def jP(id sz off:Nat)(xs:List D):List A→List A
 |[]=>[]
 |a::r=>a.frz id sz off xs::jP id sz off xs r
end
theorem oq(id sz off:Nat)(xs:List D):∀(l:List A),jP id sz off xs l=l.map (A.frz id sz off xs)
 |[]=>rfl
 |a::r=>by simp [jP,oq id sz off xs r]

def Ci:List Nat→Nat→Option Nat
 |[],_=>none
 |a::r,j=>if a=j then some 0 else(Ci r j).map (· +1)
theorem xy:∀{p:List Nat} {j k:Nat},Ci p j=some k→p[k]? =some j
 |[],j,k,h=>by simp [Ci]at h
 |a::r,j,k,h=>by
  unfold Ci at h
  split at h
  ·rename_i e;cases h;simp [e]
  ·cases hr:Ci r j with
   |none=>simp [hr]at h
   |some k'=>simp [hr]at h;subst h;simp;exact xy hr
def iW(n0:Nat)(p:List Nat)(id:Nat):Option Nat:=if id<n0 then some id else(Ci p (id - n0)).map (n0+ ·)
mutual
def A.ren(n0:Nat)(p:List Nat):A→A
 | .ref id off=>match iW n0 p id with|some k=> .ref k off|none=> .o
 | .rs id sz off l w=>match iW n0 p id with|some k=> .rs k sz off l w|none=> .o
 | .mapr id=>match iW n0 p id with|some k=> .mapr k|none=> .o
 | .agg cs=> .agg (ix n0 p cs)
 | .tup cs=> .tup (ix n0 p cs)
 | .fn f cs ds=> .fn f (ix n0 p cs) (ix n0 p ds)
 | .ifc t a=> .ifc t (a.ren n0 p)
 | .d x=> .d x
 | .ea x o=> .ea x o
 | .grd _ _=> .o
 | .o=> .o
def ix(n0:Nat)(p:List Nat):List A→List A
 |[]=>[]
 |a::r=>a.ren n0 p::ix n0 p r
end
theorem pX(n0:Nat)(p:List Nat):∀(l:List A),ix n0 p l=l.map (A.ren n0 p)
 |[]=>rfl
 |a::r=>by simp [ix,pX n0 p r]
def Ob.ren(n0:Nat)(p:List Nat):Ob→Ob
 | .cells cs=> .cells (ix n0 p cs)
 | .map es=> .map (es.map λ e=>(e.1,e.2.ren n0 p))
 | .lp l r fr=> .lp l r (ix n0 p fr)
def lD(n0:Nat)(p:List Nat)(l:St)(j:Nat):Option Ob:=(l.getD j none).map (Ob.ren n0 p)
def iC(n0:Nat)(p:List Nat)(l:St):St:=p.map (lD n0 p l)

section
variable {U U':gM} {w w':World} {Z:St} {G:Glob}

mutual
theorem xf{id sz off:Nat}{xs:List D}(hx:Ext U w U' w)(hs:∀ow v,RepA U w (.rs id sz off xs.length ow) v→RepA U' w (.d (.sl sz xs)) v):∀(a:A) (v:Value),RepA U w a v→RepA U' w (a.frz id sz off xs) v
 | .rs i s o l ow,v,h=>by
  unfold A.frz
  split
  ·rename_i e;obtain⟨rfl,rfl,rfl,rfl⟩:=e;exact hs ow v h
  ·exact h.ext hx
 | .agg cs,v,h=>by
  unfold A.frz
  cases h with
  |agg _ vs len one rep=>
   have:=np hx hs cs vs ⟨len,rep⟩
   exact lS this.1 one this.2
 | .tup cs,v,h=>by
  unfold A.frz
  cases h with
  |tup _ vs len rep=>
   have:=np hx hs cs vs ⟨len,rep⟩
   exact .tup _ vs this.1 this.2
 | .ifc t a,v,h=>by
  unfold A.frz
  cases h with
  |ifc _ h=>exact .ifc t (xf hx hs a _ h)
 | .d x,v,h=>h.ext hx
 | .ea x o,v,h=>h.ext hx
 | .ref i o,v,h=>h.ext hx
 | .fn f cs ds,v,h=>h.ext hx
 | .mapr i,v,h=>h.ext hx
 | .grd c a,v,h=>h.ext hx
 | .o,v,h=>h.ext hx
theorem np{id sz off:Nat}{xs:List D}(hx:Ext U w U' w)(hs:∀ow v,RepA U w (.rs id sz off xs.length ow) v→RepA U' w (.d (.sl sz xs)) v):∀(l:List A) (vs:List Value),fy U w l vs→fy U' w (jP id sz off xs l) vs
 |[],vs,h=>⟨h.1,λ i x v hi=>by simp [jP]at hi⟩
 |a::l,[],h=>by have:=h.1;simp at this
 |a::l,v::vs,h=>by
  have ht:=np hx hs l vs ⟨by simpa using h.1,λ i x u h1 h2=>h.2 (i+1) x u (by simpa using h1) (by simpa using h2)⟩
  refine⟨by simp [jP,ht.1],λ i x u h1 h2=> ?_⟩
  match i with
  |0=>simp [jP]at h1 h2;subst h1 h2;exact xf hx hs a v (h.2 0 a v rfl rfl)
  |i+1=>exact ht.2 i x u (by simpa [jP]using h1) (by simpa using h2)
end

def mQ(cs:List A)(sz off:Nat)(xs:List D):Prop:=
 (∀(i:Nat) (x:D),xs[i]? =some x→x.cells.length=sz)∧
 ∀(i:Nat) (x:D) (j:Nat) (y:D),xs[i]? =some x→x.cells[j]? =some y→cs[off+i*sz+j]? =some (.d y)∧y.one=true

theorem bw.freeze{n0:Nat}{fr:Fr}{Z:St}(id sz off:Nat)(xs:List D){cs:List A}(hσ:Z[id]? =some (some (.cells cs)))(hl:mQ cs sz off xs):
  bw G n0 fr Z (jP id sz off xs fr) (Z.set id none):=λ U0 w0 U w vs h0 hx hI hr=>by
 obtain⟨hk,hI'⟩:=hI.kill id
 refine⟨U.set id .dead,hx.trans hk,hI',np hk (λ ow v hv=> ?_) fr vs hr⟩
 rcases kB hI (aO hσ) hv with⟨b,cap,us,e,z,h1,rfl,h3,h4,h5,-⟩|⟨h1,h2,h3,rfl⟩
 ·cases xs with
  |nil=>exact .d (.sl0 sz _ cap)
  |cons x0 xt=>
   rcases hI.obj id _ hσ with⟨b',g1,us',e',g2,g3,g4⟩|⟨g1,g2⟩
   ·rw[h1]at g1;injection g1 with g1;injection g1 with g1;subst g1
    rw[h3]at g2;injection g2 with g2;injection g2 with g2 g2' g2'';subst g2
    have hnm:¬M (U.set id .dead) b:=λ ⟨i,hi⟩=>by
     rw[aR]at hi
     split at hi
     ·split at hi
      ·injection hi with hi;cases hi
      ·cases hi
     ·rename_i hne;exact hne (hI.inj id i b h1 hi)
    refine .d (.sl sz _ b off cap (λ i j=>us.toList.getD (off+i*sz+j) undef) hnm (hI.lt id b h1) h4 hl.1 (λ i x j y a1 a2=>(hl.2 i x j y a1 a2).2) (λ i x j y a1 a2=> ?_) (λ i x j y a1 a2=> ?_))
    ·obtain⟨u,b1,b2,b3⟩:=g4 _ _ (hl.2 i x j y a1 a2).1
     rw[eR h3,b1]
     simp [List.getD,b1]
    ·obtain⟨u,b1,b2,b3⟩:=g4 _ _ (hl.2 i x j y a1 a2).1
     cases b3 with
     |d b3=>
      have:=b3.ext hk
      simp only[List.getD,bP,b1,b9]
      exact this
   ·rw[h1]at g1;cases g1
 ·cases xs with
  |nil=>exact .d (.sl0 sz none 0)
  |cons=>simp at h3

theorem newId_M{n0:Nat}{p:List Nat}(hn:n0≤U.length){id k:Nat}(h:iW n0 p id=some k):(U.take n0++p.map λ j=>U.getD (n0+j) .dead)[k]? =some (U.getD id .dead):=by
 unfold iW at h
 split at h
 ·rename_i hlt
  cases h
  rw[aq (by simp;omega),bL hlt]
  exact fv (by omega)
 ·rename_i hge
  cases hi:Ci p (id - n0)with
  |none=>simp [hi]at h
  |some q=>
   simp [hi]at h
   subst h
   rw[az (by simp;omega)]
   simp only[aP,cC hn,bk,aN,xy hi,bJ]
   rw[show n0+(id - n0)=id by omega]

mutual
theorem RepA.ren{n0:Nat}{p:List Nat}(hk:∀id k r,iW n0 p id=some k→U[id]? =some r→U'[k]? =some r)(hm:∀b,M U' b→M U b):∀(a:A) (v:Value),RepA U w a v→RepA U' w (a.ren n0 p) v
 | .ref id off,v,h=>by
  unfold A.ren
  split
  ·rename_i k e
   cases h with
   |ref _ h=>exact .ref off (hk _ _ _ e h)
   |refDead _ _ h=>exact .refDead off _ (hk _ _ _ e h)
  ·exact .o _
 | .rs id sz off l ow,v,h=>by
  unfold A.ren
  split
  ·rename_i k e
   cases h with
   |rs h h1 h2 h3 h4=>exact .rs (hk _ _ _ e h) h1 h2 h3 h4
   |rsEmpty _ _ h=>exact .rsEmpty _ _ (hk _ _ _ e h)
   |rsDead _ _ _ _ _ h=>exact .rsDead _ _ _ _ _ (hk _ _ _ e h)
  ·exact .o _
 | .mapr id,v,h=>by
  unfold A.ren
  split
  ·rename_i k e
   cases h with
   |mapr h=>exact .mapr (hk _ _ _ e h)
   |mapDead _ h=>exact .mapDead _ (hk _ _ _ e h)
  ·exact .o _
 | .agg cs,v,h=>by
  unfold A.ren
  cases h with
  |agg _ vs len one rep=>have:=fy.ren hk hm cs vs ⟨len,rep⟩;exact .agg _ vs this.1 one this.2
 | .tup cs,v,h=>by
  unfold A.ren
  cases h with
  |tup _ vs len rep=>have:=fy.ren hk hm cs vs ⟨len,rep⟩;exact .tup _ vs this.1 this.2
 | .fn f cs ds,v,h=>by
  unfold A.ren
  cases h with
  |fn _ _ _ vs us len len' rep rep'=>
   have h1:=fy.ren hk hm cs vs ⟨len,rep⟩
   have h2:=fy.ren hk hm ds us ⟨len',rep'⟩
   exact .fn f _ _ vs us h1.1 h2.1 h1.2 h2.2
 | .ifc t a,v,h=>by
  unfold A.ren
  cases h with
  |ifc _ h=>exact .ifc t (RepA.ren hk hm a _ h)
 | .d x,v,h=>by
  have:=h.cut (n:=0) (U':=U') (λ i hi=>by omega) hm rfl
  exact this
 | .ea x o,v,h=>by
  have:=h.cut (n:=0) (U':=U') (λ i hi=>by omega) hm rfl
  exact this
 | .grd c a,v,h=> .o _
 | .o,v,h=> .o _
theorem fy.ren{n0:Nat}{p:List Nat}(hk:∀id k r,iW n0 p id=some k→U[id]? =some r→U'[k]? =some r)(hm:∀b,M U' b→M U b):∀(l:List A) (vs:List Value),fy U w l vs→fy U' w (ix n0 p l) vs
 |[],vs,h=>⟨h.1,λ i x v hi=>by simp [ix]at hi⟩
 |a::l,[],h=>by have:=h.1;simp at this
 |a::l,v::vs,h=>by
  have ht:=fy.ren hk hm l vs ⟨by simpa using h.1,λ i x u h1 h2=>h.2 (i+1) x u (by simpa using h1) (by simpa using h2)⟩
  refine⟨by simp [ix,ht.1],λ i x u h1 h2=> ?_⟩
  match i with
  |0=>simp [ix]at h1 h2;subst h1 h2;exact RepA.ren hk hm a v (h.2 0 a v rfl rfl)
  |i+1=>exact ht.2 i x u (by simpa [ix]using h1) (by simpa using h2)
end
mutual
theorem A.ren_bd{n0 m:Nat}{p:List Nat}(hp:n0+p.length≤m):∀(a:A),(a.ren n0 p).bd m=true
 | .ref id off=>by
  unfold A.ren;split
  ·rename_i k e;simp only[A.bd,av];exact cQ (tU e) hp
  ·rfl
 | .rs id sz off l w=>by
  unfold A.ren;split
  ·rename_i k e;simp only[A.bd,av];exact cQ (tU e) hp
  ·rfl
 | .mapr id=>by
  unfold A.ren;split
  ·rename_i k e;simp only[A.bd,av];exact cQ (tU e) hp
  ·rfl
 | .agg cs=>by unfold A.ren;simp only[A.bd];exact mA hp cs
 | .tup cs=>by unfold A.ren;simp only[A.bd];exact mA hp cs
 | .fn f cs ds=>by unfold A.ren;simp only[A.bd,mA hp cs,mA hp ds,hH]
 | .ifc t a=>by unfold A.ren;simp only[A.bd];exact A.ren_bd hp a
 | .d x=>rfl
 | .ea x o=>rfl
 | .grd _ _=>rfl
 | .o=>rfl
theorem mA{n0 m:Nat}{p:List Nat}(hp:n0+p.length≤m):∀(l:List A),jo m (ix n0 p l)=true
 |[]=>rfl
 |a::l=>by simp only[ix,jo,A.ren_bd hp a,mA hp l,hH]
theorem tU{n0:Nat}{p:List Nat}{id k:Nat}(h:iW n0 p id=some k):k<n0+p.length:=by
 unfold iW at h
 split at h
 ·cases h;omega
 ·cases hi:Ci p (id - n0)with
  |none=>simp [hi]at h
  |some q=>
   simp [hi]at h
   subst h
   have:=(aA.1 (xy hi)).1
   omega
end

theorem qp{α:Type}{l:List α}{i:Nat}{d x:α}(h:l[i]? =some x):l.getD i d=x:=by simp [List.getD,h]
theorem Bd.keep{n0:Nat}{Z l:St}{p:List Nat}(hn:n0=Z.length)(hbd:Bd Z.length Z):Bd (Z++iC n0 p l).length (Z++iC n0 p l):=by
 refine Bd.append (hbd.mono (by simp)) λ o ho=> ?_
 simp only[iC,aI,lD]at ho
 obtain⟨j,_,hj⟩:=ho
 cases hg:l.getD j none with
 |none=>rw[hg]at hj;cases hj
 |some o'=>
  rw[hg]at hj
  cases hj
  have hp:n0+p.length≤(Z++iC n0 p l).length:=by simp [iC,hn]
  cases o' with
  |cells cs=>exact mA hp cs
  |map es=>
   simp only[Ob.ren,Ob.bd,List.all_map,aZ]
   exactλ e _=>A.ren_bd hp _
  |lp l r fr=>exact mA hp fr
theorem bw.keep{n0:Nat}{fr:Fr}{Z l:St}(p:List Nat)(hp:p.Nodup)(hn:n0≤Z.length)(hbd:Bd Z.length Z):bw G n0 fr (Z++l) (ix Z.length p fr) (Z++iC Z.length p l):=λ U0 w0 U w vs h0 hx hI hr=>by
 have hlen:U.length=Z.length+l.length:=by have:=hI.len;simpa using this
 have hn1:Z.length≤U.length:=by omega
 let U':gM:=U.take Z.length++p.map λ j=>U.getD (Z.length+j) .dead
 have hk:∀id k r,iW Z.length p id=some k→U[id]? =some r→U'[k]? =some r:=λ id k r h1 h2=>by
  have:=newId_M (U:=U) hn1 h1
  rw[this,qp h2]
 have hold:∀i,i<Z.length→U'[i]? =U[i]? :=λ i hi=>by
  show(U.take Z.length++_)[i]? =_
  rw[aq (by simp;omega),bL hi]
 have hnew:∀k,Z.length≤k→∀r,U'[k]? =some r→∃j,p[k - Z.length]? =some j∧r=U.getD (Z.length+j) .dead:=λ k hk r h=>by
  change (U.take Z.length++_)[k]? =_ at h
  rw[az (by simp;omega)]at h
  simp only[aP,cC hn1,aN,bj]at h
  obtain⟨j,h1,h2⟩:=h
  exact⟨j,h1,h2.symm⟩
 have hsrc:∀k b,U'[k]? =some (.live b)→∃i,U[i]? =some (.live b)∧(k<Z.length∧i=k∨Z.length≤k∧Z.length≤i∧p[k - Z.length]? =some (i - Z.length)):=λ k b h=>by
  by_cases hlt:k<Z.length
  ·exact⟨k,by rw[←hold k hlt];exact h,.inl ⟨hlt,rfl⟩⟩
  ·obtain⟨j,h1,h2⟩:=hnew k (by omega) _ h
   refine⟨Z.length+j,?_,.inr ⟨by omega,by omega,by rw[h1];congr 1;omega⟩⟩
   cases hg:U[Z.length+j]? with
   |none=>simp [List.getD,hg]at h2
   |some r=>rw[qp hg]at h2;rw[h2]
 have hM:∀b,M U' b→M U b:=λ b ⟨k,h⟩=>let ⟨i,h1,_⟩:=hsrc k b h;⟨i,h1⟩
 have hreD:∀{y:D} {u:Value},RepD w (M U) y u→RepD w (M U') y u:=λ {y u} h=>by
  have:=(RepA.d h:RepA U w (.d y) u).ren (n0:=Z.length) (p:=p) hk hM
  cases this with|d h=>exact h
 refine⟨U',⟨hx.os,hx.tape,hx.output,hx.size,by show _≤(U.take Z.length++_).length;simp;omega,λ id r h=> ?_,λ b h hlt=>hx.fresh b (hM b h) hlt,hx.block,hx.shape⟩,⟨by show(U.take Z.length++_).length=_;simp [iC];omega,λ i j b h1 h2=> ?_,λ i b h=> ?_,λ id o h=> ?_,λ g x h=> ?_,Bd.keep rfl hbd,λ b hb=>hI.own b (hM b hb)⟩,fy.ren hk hM fr vs hr⟩
 ·have hid:id<U0.length:=(aA.1 h).1
  rw[hold id (by omega)]
  exact hx.ids id r h
 ·obtain⟨i',a1,a2⟩:=hsrc i b h1
  obtain⟨j',b1,b2⟩:=hsrc j b h2
  have e:=hI.inj _ _ _ a1 b1
  subst e
  rcases a2 with⟨a2,a3⟩|⟨a2,a3,a4⟩<;> rcases b2 with⟨b2,b3⟩|⟨b2,b3,b4⟩
  ·omega
  ·omega
  ·omega
  ·have:=(List.getElem?_inj (l:=p) (i:=i - Z.length) (j:=j - Z.length) (aA.1 a4).1 hp).1 (a4.trans b4.symm)
   omega
 ·obtain⟨i',a1,_⟩:=hsrc i b h
  exact hI.lt i' b a1
 ·by_cases hlt:id<Z.length
  ·rw[aq hlt]at h
   have hob:=hbd id o h
   rcases hI.obj id o (by rw[aq hlt];exact h)with⟨b,h1,h2⟩|⟨h1,h2⟩
   ·refine .inl ⟨b,by rw[hold id hlt];exact h1,?_⟩
    cases o with
    |cells cs=>
     obtain⟨us,e,a1,a2,a3⟩:=h2
     exact⟨us,e,a1,a2,λ i x hx'=>let ⟨v,b1,b2,b3⟩:=a3 i x hx';⟨v,b1,b2,b3.cut hold hM (gl hob i x hx')⟩⟩
    |map es=>
     obtain⟨ms,c,a1,a2,a3⟩:=h2
     refine⟨ms,c,a1,a2,λ i x m hx' hm=>⟨hreD (a3 i x m hx' hm).1,(a3 i x m hx' hm).2.cut hold hM ?_⟩⟩
     simp only[Ob.bd,aZ]at hob
     exact hob x (bh hx')
    |lp l r fr=>
     obtain⟨a0,a1,a2⟩:=h2
     exact⟨a0,a1,⟨a2.1,λ i x v h1 h2=>(a2.2 i x v h1 h2).cut hold hM (gl hob i x h1)⟩⟩
   ·exact .inr ⟨by rw[hold id hlt];exact h1,h2⟩
  ·rw[az (by omega)]at h
   simp only[iC,aN,bj,lD]at h
   obtain⟨j,g1,o',g2,rfl⟩:=h
   have g2':l[j]? =some (some o'):=by
    cases hl:l[j]? with
    |none=>simp [List.getD,hl]at g2
    |some r=>rw[qp hl]at g2;rw[g2]
   have hnewj:∀r,U[Z.length+j]? =some r→U'[id]? =some r:=λ r hr=>by
    show(U.take Z.length++_)[id]? =_
    rw[az (by simp;omega)]
    simp only[aP,cC hn1,aN,g1,bJ,qp hr]
   rcases hI.obj (Z.length+j) o' (by rw[az (by omega),bk];exact g2')with⟨b,h1,h2⟩|⟨h1,h2⟩
   ·refine .inl ⟨b,hnewj _ h1,?_⟩
    cases o' with
    |cells cs=>
     obtain⟨us,e,a1,a2,a3⟩:=h2
     refine⟨us,e,a1,by rw[pX,ac];exact a2,λ i x hx'=> ?_⟩
     rw[pX,aN,bj]at hx'
     obtain⟨y,c1,rfl⟩:=hx'
     obtain⟨v,b1,b2,b3⟩:=a3 i y c1
     exact⟨v,b1,b2,b3.ren hk hM⟩
    |map es=>
     obtain⟨ms,c,a1,a2,a3⟩:=h2
     refine⟨ms,c,a1,by simpa using a2,λ i x m hx' hm=> ?_⟩
     rw[aN,bj]at hx'
     obtain⟨y,c1,rfl⟩:=hx'
     exact⟨hreD (a3 i y m c1 hm).1,(a3 i y m c1 hm).2.ren hk hM⟩
    |lp l' r fr=>
     obtain⟨a0,a1,a2⟩:=h2
     exact⟨a0,a1,fy.ren hk hM fr _ a2⟩
   ·subst h2
    exact .inr ⟨hnewj _ h1,rfl⟩
 ·have:=(hI.glob g x h).ren (n0:=Z.length) (p:=p) hk hM
  exact this

theorem Wk.keep{n0:Nat}{fr:Fr}{Z l:St}{I:Fr→St→Prop}(live p:List Nat)(hp:p.Nodup)(hn:n0≤Z.length)(hbd:Bd Z.length Z)(h:I (ix Z.length p (iX live 0 fr)) (Z++iC Z.length p l)):Wk G n0 I fr (Z++l):=
 ⟨_,_,(bw.mask live).trans (bw.keep p hp hn hbd),h⟩
attribute [go_sem] A.frz jP
theorem dq{Z junk:St}{x:A}{R:A→St→Prop}(hbd:Bd Z.length Z)(hx:x.bd Z.length=true)(h:R x Z):∃r Z',bw G Z.length [x] (Z++junk) [r] Z'∧R r Z':=
 ⟨_,Z,bw.cut (aE _) hbd (by simp only[jo,hx,hH]),h⟩
theorem xd{Z:St}{x:A}{R:A→St→Prop}(h:R x Z):∃r Z',bw G Z.length [x] Z [r] Z'∧R r Z':=⟨_,Z,bw.refl _ _ _ _,h⟩
theorem nn{Z l:St}{a:A}{R:A→St→Prop}(p:List Nat)(hp:p.Nodup)(hbd:Bd Z.length Z)(h:R (a.ren Z.length p) (Z++iC Z.length p l)):∃r Z',bw G Z.length [a] (Z++l) [r] Z'∧R r Z':=
 ⟨_,_,bw.keep p hp (aE _) hbd,h⟩
theorem de {Z l:St} {a:A} {R:A→St→Prop} (j sz off:Nat) (xs:List D) {cs:List A} (hσ:l[j]? =some (some (.cells cs))) (hl:mQ cs sz off xs)
  (h:∃r Z',bw G Z.length [a.frz (Z.length+j) sz off xs] (Z++l.set j none) [r] Z'∧R r Z'):∃r Z',bw G Z.length [a] (Z++l) [r] Z'∧R r Z':=by
 obtain⟨r,Z',h1,h2⟩:=h
 have hk:(Z++l)[Z.length+j]? =some (some (.cells cs)):=by rw[az (by omega),bk];exact hσ
 have:=bw.freeze (G:=G) (n0:=Z.length) (fr:=[a]) (Z.length+j) sz off xs hk hl
 rw[jU]at this
 exact⟨r,Z',this.trans h1,h2⟩
theorem Wk.frz{n0:Nat}{fr:Fr}{Z l:St}{I:Fr→St→Prop}(j sz off:Nat)(xs:List D){cs:List A}(hσ:l[j]? =some (some (.cells cs)))(hl:mQ cs sz off xs)(h:Wk G n0 I (jP (Z.length+j) sz off xs fr) (Z++l.set j none)):Wk G n0 I fr (Z++l):=by
 obtain⟨r,Z',h1,h2⟩:=h
 have hk:(Z++l)[Z.length+j]? =some (some (.cells cs)):=by rw[az (by omega),bk];exact hσ
 have:=bw.freeze (G:=G) (n0:=n0) (fr:=fr) (Z.length+j) sz off xs hk hl
 rw[jU]at this
 exact⟨r,Z',this.trans h1,h2⟩
end
theorem wh{G:Glob}{g:Nat}{x:D}{fr:Fr}(h:G.g g=some x):ev G fr (.global g)= .ea x 0:=by simp only[ev,h]
section
variable {P:Program} {Z:St}
@[go_sem,go_sem ↓] theorem rdBuild_eq (t:TypeId) (ps:List (Nat×A)) (k:Prop→A→Prop):gh P Z t ps k=iy (eO P t) λ zs=>iy (eK P t) λ pl=>iy (fillA pl zs ps) λ cs=>
  k (zs.all (lk [])=true∧ps.all (λ p=>zi Z p.2)=true) (mU cs):=by
 simp only[gh]
 rcases eO P t with _|zs
 ·rfl
 ·rcases eK P t with _|pl
  ·rfl
  ·simp only[iy]
   rcases fillA pl zs ps with _|cs<;> rfl
@[go_sem] theorem fillA_nil (pl:Nat→Option (Nat×Nat)) (cs:List A):fillA pl cs []=some cs:=rfl
@[go_sem] theorem fillA_cons (pl:Nat→Option (Nat×Nat)) (cs:List A) (i:Nat) (a:A) (r:List (Nat×A)):fillA pl cs ((i,a)::r)=(pl i).bind λ q=>if a.cells.length=q.2∧q.1+q.2≤cs.length then fillA pl (cs.take q.1++a.cells++cs.drop (q.1+q.2)) r else none:=by
 simp only[fillA]
 rcases pl i with _|⟨_,_⟩<;> rfl
attribute [go_sem] Option.bind_some Option.bind_none cY cA cN List.getElem?_nil Nat.le_add_left Nat.add_le_add_iff_right Nat.zero_le cP List.flatMap_nil jV
end
-- evaluation
attribute [go_sem] dC Option.toArray_some Option.toArray_none bt hH bB true_imp_iff false_imp_iff Bool.true_eq_false eG eF
section
variable {n0:Nat} {p:List Nat}
@[go_sem] theorem newId_zero:iW n0 p n0=(Ci p 0).map (n0+ ·):=by simp [iW]
@[go_sem] theorem De (j:Nat):iW n0 p (n0+j)=(Ci p j).map (n0+ ·):=by rw[iW,if_neg (by omega),bk]
@[go_sem] theorem newId_add2 (j k:Nat):iW n0 p (n0+j+k)=(Ci p (j+k)).map (n0+ ·):=by rw[cf,De]
def rV(o:Option Nat)(k:Nat→A):A:=match o with|some i=>k i|none=> .o
@[go_sem] theorem refTo_some (i:Nat) (k:Nat→A):rV (some i) k=k i:=rfl
@[go_sem] theorem refTo_none (k:Nat→A):rV none k= .o:=rfl
@[go_sem] theorem ren_ref (id off:Nat):A.ren n0 p (.ref id off)=rV (iW n0 p id) (.ref · off):=by unfold A.ren rV;rfl
@[go_sem] theorem ren_rs (id sz off l:Nat) (w:Option TypeId):A.ren n0 p (.rs id sz off l w)=rV (iW n0 p id) (.rs · sz off l w):=by unfold A.ren rV;rfl
@[go_sem] theorem ren_mapr (id:Nat):A.ren n0 p (.mapr id)=rV (iW n0 p id) (.mapr ·):=by unfold A.ren rV;rfl
@[go_sem] theorem ren_agg (cs:List A):A.ren n0 p (.agg cs)= .agg (ix n0 p cs):=by rw[A.ren]
@[go_sem] theorem ren_fn (f:Fn) (cs ds:List A):A.ren n0 p (.fn f cs ds)= .fn f (ix n0 p cs) (ix n0 p ds):=by rw[A.ren]
@[go_sem] theorem ren_d (x:D):A.ren n0 p (.d x)= .d x:=rfl
@[go_sem] theorem ren_ea (x:D) (o:Nat):A.ren n0 p (.ea x o)= .ea x o:=rfl
@[go_sem] theorem ren_any:A.ren n0 p .o= .o:=rfl
@[go_sem] theorem ren_grd (c:Bool) (a:A):A.ren n0 p (.grd c a)= .o:=rfl
@[go_sem] theorem renL_nil:ix n0 p []=[]:=rfl
@[go_sem] theorem renL_cons (a:A) (r:List A):ix n0 p (a::r)=a.ren n0 p::ix n0 p r:=rfl
@[go_sem] theorem keepL_nil (l:St):iC n0 [] l=[]:=rfl
@[go_sem] theorem keepL_cons (l:St) (j:Nat) (r:List Nat):iC n0 (j::r) l=lD n0 (j::r) l j::r.map (lD n0 (j::r) l):=rfl
@[go_sem] theorem pickOb_eq (l:St) (j:Nat):lD n0 p l j=(l.getD j none).map (Ob.ren n0 p):=rfl
@[go_sem] theorem obren_cells (cs:List A):Ob.ren n0 p (.cells cs)= .cells (ix n0 p cs):=rfl
@[go_sem] theorem getD_st_zero (x:Option Ob) (l:St):List.getD (x::l) 0 none=x:=rfl
@[go_sem] theorem getD_st_succ (x:Option Ob) (l:St) (n:Nat):List.getD (x::l) (n+1) none=List.getD l n none:=rfl
@[go_sem,go_sem ↓] theorem objK_app2 {Z l:St} (j j':Nat) (k:List A→Prop):jz (Z++l) (Z.length+j+j') k=jz l (j+j') k:=by rw[cf,zj]
@[go_sem] theorem live_app2 {Z l:St} (j j':Nat):dr (Z++l) (Z.length+j+j')=dr l (j+j'):=by rw[cf,zt]
@[go_sem] theorem set_app2 {Z l:St} (j j':Nat) (x:Option Ob):List.set (Z++l) (Z.length+j+j') x=Z++List.set l (j+j') x:=by rw[cf,jU]
@[go_sem] theorem idx_nil (j:Nat):Ci [] j=none:=rfl
@[go_sem] theorem idx_cons (a j:Nat) (r:List Nat):Ci (a::r) j=if a=j then some 0 else(Ci r j).map (· +1):=rfl
@[go_sem] theorem yJ (l m:List A):ix n0 p (l++m)=ix n0 p l++ix n0 p m:=by simp [pX]
@[go_sem] theorem xg (ds:List D):ix n0 p (ds.map .d)=ds.map .d:=by simp [pX,A.ren,Function.comp_def]
@[go_sem] theorem cG {α:Type} (f:α→List D) (xs:List α):ix n0 p (xs.flatMap λ x=>(f x).map .d)=xs.flatMap λ x=>(f x).map .d:=by
 induction xs with
 |nil=>rfl
 |cons x xs ih=>simp [cP,yJ,xg,ih]
theorem Dk{sz:Nat}{xs:List D}(h:∀x∈xs,x.cells.length=sz∧∀y∈x.cells,y.one=true):mQ (xs.flatMap λ x=>x.cells.map .d) sz 0 xs:=by
 refine⟨λ i x hx=>(h x (bh hx)).1,λ i x j y hx hy=>⟨?_,(h x (bh hx)).2 y (bh hy)⟩⟩
 have key:∀(xs:List D),(∀x∈xs,x.cells.length=sz)→∀(i:Nat),xs[i]? =some x→(xs.flatMap λ x=>x.cells.map A.d)[i*sz+j]? =some (.d y):=by
  intro xs
  induction xs with
  |nil=>intro _ i hi;simp at hi
  |cons x0 xt ih=>
   intro hs i hi
   match i with
   |0=>
    simp at hi;subst hi
    have hj:=(aA.1 hy).1
    rw[cP,aq (by simp;omega)]
    simp [hy]
   |i+1=>
    rw[cP,az (by have:=hs x0 (by simp);simp [this,Nat.succ_mul];omega)]
    have:=ih (λ x hx=>hs x (by simp [hx])) i (by simpa using hi)
    rw[←this]
    congr 1
    have:=hs x0 (by simp)
    simp only[ac,this,Nat.succ_mul]
    omega
 have:=key xs (λ x hx=>(h x hx).1) i hx
 simpa using this
theorem cZ(xs ys:List D):bU (xs++ys)=bU xs++bU ys:=by simp [bU]
theorem mg{sz:Nat}{xs:List D}(h:∀x∈xs,x.cells.length=sz):(bU xs).length=xs.length*sz:=by
 induction xs with
 |nil=>simp [bU]
 |cons x xs ih=>
  have h1:=h x (by simp)
  have h2:=ih λ y hy=>h y (by simp [hy])
  simp only[bU,cP,aF,ac,ae]at h2 ⊢
  rw[h2,h1,Nat.succ_mul];omega
@[go_sem] theorem ren_flat (xs:List D):ix n0 p (bU xs)=bU xs:=cG D.cells xs
theorem lx{sz:Nat}{xs:List D}(h:∀x∈xs,x.cells.length=sz∧∀y∈x.cells,y.one=true):mQ (bU xs) sz 0 xs:=Dk h
end
section
variable {G:Glob} {Z:St}
theorem bw.empty{n0:Nat}{fr:Fr}{Z:St}(i sz:Nat)(ow:Option TypeId)(h:fr[i]? =some (.d .nils)):bw G n0 fr Z (fr.set i (.rs Z.length sz 0 0 ow)) (Z++[some (.cells [])]):=λ U0 w0 U w vs h0 hx hI hr=>by
 obtain⟨h1,h2⟩:=hI.pushEmpty
 refine⟨U++[.empty],hx.trans h1,h2,by simp [hr.1],λ k x v hk hv=> ?_⟩
 rw[aR]at hk
 split at hk
 ·rename_i e
  subst e
  split at hk
  ·injection hk with hk;subst hk
   have:=hr.2 i _ v h hv
   cases this with
   |d this=>
    cases this
    exact .rsEmpty sz ow (by rw[←hI.len];exact dF)
  ·cases hk
 ·exact(hr.2 k x v hk hv).ext h1
end
@[go_sem] theorem CR {α:Type} (n0:Nat) (p:List Nat) (f:α→D):∀(l:List α),ix n0 p (l.map λ x=>A.d (f x))=l.map λ x=>A.d (f x)
 |[]=>rfl
 |x::l=>by simp only[aM,ix,A.ren,CR n0 p f l]
theorem lz{P:Program}{G:Glob}{f:FuncId}{args args':List A}{Z Z':St}{R:A→St→Prop}(hw:bw G Z.length args Z args' Z')(h:AC P G f args' Z' R):AC P G f args Z R:=by
 refine⟨h.1,λ U w vs hI hL=> ?_⟩
 obtain⟨U1,h1,h2,h3⟩:=hw U w U w vs hI.len (Ext.refl U w) hI hL
 exact(h.2 U1 w vs h2 h3).mono λ _ _ k=>k.pre h1
theorem xS {P:Program} {G:Glob} {f:FuncId} {args:List A} {Z l:St} {R:A→St→Prop} (j sz off:Nat) (xs:List D) {cs:List A} (hσ:l[j]? =some (some (.cells cs))) (hl:mQ cs sz off xs)
  (h:AC P G f (jP (Z.length+j) sz off xs args) (Z++l.set j none) R):AC P G f args (Z++l) R:=by
 have hk:(Z++l)[Z.length+j]? =some (some (.cells cs)):=by rw[az (by omega),bk];exact hσ
 have:=bw.freeze (G:=G) (n0:=(Z++l).length) (fr:=args) (Z.length+j) sz off xs hk hl
 rw[jU]at this
 exact lz this h
end Go.Ab
