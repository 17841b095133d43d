import Derived.Test.YtdpdbokicanpoaaGreatDoorAbK
import Derived.Test.YtdpdbokicanpoaaGreatDoorAbRead2
import Derived.Maps.AppendAt
set_option linter.unusedSimpArgs false
set_option linter.unusedVariables false
set_option maxHeartbeats 64000000
namespace Go.Ab
open Go Go.RowKit

section
variable {P:Program} {U U':gM} {w w':World} {Z:St} {G:Glob}

theorem mP.keep{o:Ob}{b:Nat}(h:mP U w o b)(hx:Ext U w U' w')(hb:w'.heap[b]? =w.heap[b]?):mP U' w' o b:=by
 cases o with
 |cells cs=>
  obtain⟨vs,e,h1,h2,h3⟩:=h
  exact⟨vs,e,hb.trans h1,h2,λ i x hx'=>let ⟨v,a,b,c⟩:=h3 i x hx';⟨v,a,b,c.ext hx⟩⟩
 |map es=>
  obtain⟨ms,c,h1,h2,h3⟩:=h
  exact⟨ms,c,hb.trans h1,h2,λ i x m hx' hm=>⟨(h3 i x m hx' hm).1.ext hx,(h3 i x m hx' hm).2.ext hx⟩⟩
 |lp l r fr=>
  obtain⟨h0,h1,h2⟩:=h
  exact⟨h0,hb.trans h1,h2.ext hx⟩

theorem dh{α:Type}{l:List α}{x:α}{i:Nat}(h:i<l.length):(l++[x])[i]? =l[i]? :=aq h
theorem Bd.snoc{n:Nat}{Z:St}{x:Option Ob}(h:Bd n Z)(hx:∀o,x=some o→o.bd n=true):Bd n (Z++[x]):=λ id o ho=>by
 by_cases hid:id<Z.length
 ·rw[aq hid]at ho;exact h id o ho
 ·rw[az (by omega)]at ho
  have e0:id - Z.length=0:=by
   have:=(aA.1 ho).1
   simp at this;omega
  rw[e0]at ho
  exact hx o (by simpa using ho)
theorem Bd.mono{n m:Nat}{Z:St}(h:Bd n Z)(hm:n≤m):Bd m Z:=λ id o ho=>Ob.bd_mono hm o (h id o ho)
theorem Bd.set{n:Nat}{Z:St}{x:Option Ob}(h:Bd n Z)(id:Nat)(hx:∀o,x=some o→o.bd n=true):Bd n (Z.set id x):=λ i o ho=>by
 rw[aR]at ho
 split at ho
 ·split at ho
  ·injection ho with ho;exact hx o ho
  ·cases ho
 ·exact h i o ho
theorem dF{α:Type}{l:List α}{x:α}:(l++[x])[l.length]? =some x:=by simp

theorem Inv.push(hI:Inv G U Z w){ob:Obj}{o:Ob}(hbd:o.bd (Z.length+1)=true)(ho:∀U' w',Ext U w U' w'→w'.heap[w.heap.size]? =some ob→mP U' w' o w.heap.size)(hdf:∀ds,ob≠.deferred ds):
  Ext U w (U++[.live w.heap.size]) (w.alloc ob)∧Inv G (U++[.live w.heap.size]) (Z++[some o]) (w.alloc ob):=by
 have hnew:(w.alloc ob).heap[w.heap.size]? =some ob:=heap_alloc_new w _
 have hold:∀b,b<w.heap.size→(w.alloc ob).heap[b]? =w.heap[b]? :=λ b hb=>heap_alloc_old w _ hb
 have hx:Ext U w (U++[.live w.heap.size]) (w.alloc ob):=by
  refine⟨rfl,rfl,rfl,by simp,by simp,λ id r h=> .inl ?_,λ b ⟨id,h⟩ hlt=> ?_,λ b hb _=>hold b hb,λ b vs e z h=>⟨vs,?_,rfl⟩⟩
  ·rw[dh (aA.1 h).1];exact h
  ·by_cases hid:id<U.length
   ·rw[dh hid]at h;exact⟨id,h⟩
   ·rw[az (by omega)]at h
    have:id - U.length=0:=by
     have:=(aA.1 h).1
     simp at this;omega
    rw[this]at h
    simp at h
    omega
  ·rw[hold b (cL.1 h).1];exact h
 refine⟨hx,?_,λ i j b hi hj=> ?_,λ i b hi=> ?_,λ id o' h=> ?_,λ g x h=>(hI.glob g x h).ext hx,?_,λ b hb ds he=> ?_⟩
 ·simp [hI.len]
 ·have key:∀i,(U++[Rs.live w.heap.size])[i]? =some (.live b)→(i<U.length∧U[i]? =some (.live b))∨(i=U.length∧b=w.heap.size):=λ i h=>by
   by_cases hid:i<U.length
   ·rw[dh hid]at h;exact .inl ⟨hid,h⟩
   ·rw[az (by omega)]at h
    have e0:i - U.length=0:=by
     have:=(aA.1 h).1
     simp at this;omega
    rw[e0]at h
    simp at h
    exact .inr ⟨by omega,h.symm⟩
  rcases key i hi with⟨h1,h2⟩|⟨h1,h2⟩<;> rcases key j hj with⟨h3,h4⟩|⟨h3,h4⟩
  ·exact hI.inj i j b h2 h4
  ·have:=hI.lt i b h2;omega
  ·have:=hI.lt j b h4;omega
  ·omega
 ·by_cases hid:i<U.length
  ·rw[dh hid]at hi
   have:=hI.lt i b hi
   simp;omega
  ·rw[az (by omega)]at hi
   have e0:i - U.length=0:=by
    have:=(aA.1 hi).1
    simp at this;omega
   rw[e0]at hi
   simp at hi
   subst hi
   simp
 ·by_cases hid:id<Z.length
  ·rw[dh hid]at h
   rcases hI.obj id o' h with⟨b,h1,h2⟩|⟨h1,h2⟩
   ·exact .inl ⟨b,by rw[dh (by rw[hI.len];exact hid)];exact h1,h2.keep hx (hold b (hI.lt _ _ h1))⟩
   ·exact .inr ⟨by rw[dh (by rw[hI.len];exact hid)];exact h1,h2⟩
  ·rw[az (by omega)]at h
   have e0:id - Z.length=0:=by
    have:=(aA.1 h).1
    simp at this;omega
   rw[e0]at h
   simp at h
   subst h
   have e1:id=U.length:=by rw[hI.len];omega
   refine .inl ⟨w.heap.size,by rw[e1];exact dF,ho _ _ hx hnew⟩
 ·rw[aF]
  exact(hI.bd.mono (by simp)).snoc λ o' h=>by injection h with h;subst h;exact hbd
 ·rcases aC b w.heap.size with hlt|hge
  ·exact hI.own b (hx.fresh b hb hlt) ds (by rw[←hold b hlt];exact he)
  ·have hlt:=(cL.1 he).1
   have e0:b=w.heap.size:=by simp at hlt;omega
   subst e0
   rw[hnew]at he
   injection he with he
   exact hdf ds he

theorem Inv.write (hI:Inv G U Z w) {id b:Nat} {vs:Array Value} {e:TypeId} {z:Nat×Nat} {vs':Array Value} {cs:List A} (hid:U[id]? =some (.live b)) (hb:w.heap[b]? =some (.cells vs e z)) (hz:z=(0,0))
  (hsz:vs'.size=vs.size) (hbd:jo Z.length cs=true) (hl:cs.length≤vs'.size) (hcs:∀(i:Nat) (x:A),cs[i]? =some x→∃v,vs'[i]? =some v∧v.oneCell'=true∧RepA U w x v):
  Ext U w U (w.setRow b vs')∧Inv G U (Z.set id (some (.cells cs))) (w.setRow b vs'):=by
 have hnew:(w.setRow b vs').heap[b]? =some (.cells vs' e z):=setRow_heap w b vs vs' e z hb
 have hold:∀k,k≠b→(w.setRow b vs').heap[k]? =w.heap[k]? :=λ k hk=>setRow_other w b k _ hk
 have hsize:(w.setRow b vs').heap.size=w.heap.size:=by simp [World.setRow]
 have hx:Ext U w U (w.setRow b vs'):=by
  refine⟨rfl,rfl,rfl,by rw[hsize];exact aE _,aE _,λ _ _ h=> .inl h,λ _ h _=>h,λ k _ hm=>hold k (λ e=>hm ⟨id,by rw[e];exact hid⟩),λ k us e' z' h=> ?_⟩
  by_cases hk:k=b
  ·subst hk
   rw[hb]at h;injection h with h;injection h with h1 h2 h3;subst h1;subst h2;subst h3
   exact⟨vs',hnew,hsz⟩
  ·exact⟨us,by rw[hold k hk];exact h,rfl⟩
 refine⟨hx,by simp [hI.len],hI.inj,λ i k h=>by rw[hsize];exact hI.lt i k h,λ id' o h=> ?_,λ g x h=>(hI.glob g x h).ext hx,by rw[aH];exact hI.bd.set id (λ o h=>by injection h with h;subst h;exact hbd),λ k hk ds he=>by
  by_cases hkb:k=b
  ·subst hkb;rw[hnew]at he;cases he
  ·rw[hold k hkb]at he;exact hI.own k hk ds he⟩
 rw[aR]at h
 split at h
 ·rename_i he
  subst he
  split at h
  ·injection h with h;injection h with h;subst h
   refine .inl ⟨b,hid,vs',e,by rw[hnew,hz],hl,λ i x hx'=>let ⟨v,a1,a2,a3⟩:=hcs i x hx';⟨v,a1,a2,a3.ext hx⟩⟩
  ·cases h
 ·rename_i hne
  rcases hI.obj id' o h with⟨k,h1,h2⟩|⟨h1,h2⟩
  ·exact .inl ⟨k,h1,h2.keep hx (hold k (λ e=>hne (hI.inj id id' b hid (by rw[←e];exact h1))))⟩
  ·exact .inr ⟨h1,h2⟩

theorem Ext.drew(U:gM)(w:World):Ext U w U w.drew:=
 ⟨rfl,rfl,rfl,aE _,aE _,λ _ _ h=> .inl h,λ _ h _=>h,λ _ _ _=>rfl,λ _ vs _ _ h=>⟨vs,h,rfl⟩⟩
theorem Inv.ext_same(hI:Inv G U Z w)(hx:Ext U w U w')(hh:w'.heap=w.heap):Inv G U Z w':=
 ⟨hI.len,hI.inj,λ i b h=>by rw[hh];exact hI.lt i b h,λ id o h=>by
  rcases hI.obj id o h with⟨b,h1,h2⟩|h
  ·exact .inl ⟨b,h1,h2.keep hx (by rw[hh])⟩
  ·exact .inr h,λ g x h=>(hI.glob g x h).ext hx,hI.bd,λ b hb ds=>by rw[hh];exact hI.own b hb ds⟩

theorem Inv.kill(hI:Inv G U Z w)(id:Nat):Ext U w (U.set id .dead) w∧Inv G (U.set id .dead) (Z.set id none) w:=by
 have hget:∀(i:Nat) (b:Nat),(U.set id .dead)[i]? =some (.live b)→i≠id∧U[i]? =some (.live b):=λ i b h=>by
  rw[aR]at h
  split at h
  ·split at h
   ·injection h with h;cases h
   ·cases h
  ·rename_i hne;exact⟨λ e=>hne e.symm,h⟩
 have hx:Ext U w (U.set id .dead) w:=by
  refine⟨rfl,rfl,rfl,aE _,by simp,λ i r h=> ?_,λ b ⟨i,h⟩ _=>⟨i,(hget i b h).2⟩,λ _ _ _=>rfl,λ _ vs _ _ h=>⟨vs,h,rfl⟩⟩
  rw[aR]
  split
  ·rename_i e;subst e
   rw[if_pos (aA.1 h).1];exact .inr rfl
  ·exact .inl h
 refine⟨hx,by simp [hI.len],λ i j b h1 h2=>hI.inj i j b (hget i b h1).2 (hget j b h2).2,λ i b h=>hI.lt i b (hget i b h).2,λ i o h=> ?_,λ g x h=>(hI.glob g x h).ext hx,by rw[aH];exact hI.bd.set id (λ o h=>by cases h),λ b ⟨i,h⟩=>hI.own b ⟨i,(hget i b h).2⟩⟩
 rw[aR]at h
 split at h
 ·split at h<;> cases h
 ·rename_i hne
  rcases hI.obj i o h with⟨b,h1,h2⟩|⟨h1,h2⟩
  ·exact .inl ⟨b,by rw[aR,if_neg hne];exact h1,h2.keep hx rfl⟩
  ·exact .inr ⟨by rw[aR,if_neg hne];exact h1,h2⟩

theorem Inv.pushEmpty(hI:Inv G U Z w):Ext U w (U++[.empty]) w∧Inv G (U++[.empty]) (Z++[some (.cells [])]) w:=by
 have hget:∀(i:Nat) (b:Nat),(U++[Rs.empty])[i]? =some (.live b)→U[i]? =some (.live b):=λ i b h=>by
  by_cases hid:i<U.length
  ·rw[dh hid]at h;exact h
  ·rw[az (by omega)]at h
   have e0:i - U.length=0:=by
    have:=(aA.1 h).1
    simp at this;omega
   rw[e0]at h;simp at h
 have hx:Ext U w (U++[.empty]) w:=
  ⟨rfl,rfl,rfl,aE _,by simp,λ i r h=> .inl (by rw[dh (aA.1 h).1];exact h),λ b ⟨i,h⟩ _=>⟨i,hget i b h⟩,λ _ _ _=>rfl,λ _ vs _ _ h=>⟨vs,h,rfl⟩⟩
 refine⟨hx,by simp [hI.len],λ i j b h1 h2=>hI.inj i j b (hget i b h1) (hget j b h2),λ i b h=>hI.lt i b (hget i b h),λ i o h=> ?_,λ g x h=>(hI.glob g x h).ext hx,by rw[aF];exact(hI.bd.mono (by simp)).snoc (λ o h=>by injection h with h;subst h;rfl),λ b ⟨i,h⟩=>hI.own b ⟨i,hget i b h⟩⟩
 by_cases hid:i<Z.length
 ·rw[dh hid]at h
  rcases hI.obj i o h with⟨b,h1,h2⟩|⟨h1,h2⟩
  ·exact .inl ⟨b,by rw[dh (by rw[hI.len];exact hid)];exact h1,h2.keep hx rfl⟩
  ·exact .inr ⟨by rw[dh (by rw[hI.len];exact hid)];exact h1,h2⟩
 ·rw[az (by omega)]at h
  have e0:i - Z.length=0:=by
   have:=(aA.1 h).1
   simp at this;omega
  rw[e0]at h
  simp at h
  subst h
  have e1:i=U.length:=by rw[hI.len];omega
  exact .inr ⟨by rw[e1];exact dF,rfl⟩
end

def lk(Z:St):A→Bool
 | .d x=>x.one
 | .ea _ _=>true
 | .ref id _=>dr Z id
 | .rs id _ _ _ _=>dr Z id
 | .mapr id=>dr Z id
 | .fn f c d=>(A.fn f c d).bd Z.length
 | .ifc t a=>(A.ifc t a).bd Z.length
 |_=>false
def zi(Z:St):A→Bool
 | .agg cs=>jo Z.length cs
 | .d _=>true
 |a=>lk Z a

section
variable {P:Program} {U U':gM} {w w':World} {Z:St} {G:Glob}

theorem rg{id:Nat}(h:dr Z id=true):id<Z.length:=by
 unfold dr at h
 split at h
 ·rename_i ho;exact(aA.1 ho).1
 ·cases h
theorem BE{a:A}(h:lk Z a=true):a.bd Z.length=true:=by
 cases a with
 |d x=>rfl
 |ea x o=>rfl
 |ref id o=>simp only[A.bd,av];exact rg h
 |rs id a b c d=>simp only[A.bd,av];exact rg h
 |mapr id=>simp only[A.bd,av];exact rg h
 |fn f c d=>exact h
 |ifc t a=>exact h
 |_=>simp [lk]at h
theorem uM{a:A}(h:zi Z a=true):jo Z.length a.cells=true:=by
 have single:lk Z a=true→a.cells=[a]→jo Z.length a.cells=true:=λ h1 h2=>by rw[h2];simp only[jo,BE h1,hH]
 cases a with
 |d x=>
  cases x with
  |agg cs=>
   refine gI λ x hx=> ?_
   simp only[A.cells,D.cells,aI]at hx
   obtain⟨y,_,rfl⟩:=hx
   rfl
  |_=>rfl
 |agg cs=>exact h
 |ea x o=>rfl
 |ref id o=>exact single h rfl
 |rs id a b c d=>exact single h rfl
 |mapr id=>exact single h rfl
 |fn f c d=>exact single h rfl
 |ifc t a=>exact single h rfl
 |_=>simp [zi,lk]at h
theorem rY{a:A}{v:Value}(hI:Inv G U Z w)(h:RepA U w a v)(h1:lk Z a=true):v.oneCell'=true:=by
 cases a with
 |d x=>cases h with|d h=>exact tC h h1
 |ea x off=>cases h;rfl
 |ref id off=>obtain⟨b,_,rfl⟩:=pg hI h1 h;rfl
 |rs id sz off len o=>rcases kB hI h1 h with⟨b,cap,vs,e,z,_,rfl,_⟩|⟨_,_,_,rfl⟩<;> rfl
 |mapr id=>
  cases h with
  |mapr h=>rfl
  |mapDead _ hd=>
   rcases rf hI h1 with⟨b,_,_,hb,_⟩|⟨he,_⟩
   ·rw[hd]at hb;injection hb with hb;cases hb
   ·rw[hd]at he;injection he with he;cases he
 |fn f c d=>cases h;rfl
 |ifc t a=>cases h;rfl
 |_=>simp [lk]at h1
theorem DM{v:Value}(h:v.oneCell'=true):v.cells= #[v]:=by cases v<;> first|rfl|simp [Value.oneCell']at h
theorem rE{a:A}{v:Value}(hI:Inv G U Z w)(h:RepA U w a v)(h1:zi Z a=true):
  ∃vs:List Value,v.cells=vs.toArray∧a.cells.length=vs.length∧(∀u∈vs,u.oneCell'=true)∧
   ∀(i:Nat) (x:A) (u:Value),a.cells[i]? =some x→vs[i]? =some u→RepA U w x u:=by
 have single:lk Z a=true→a.cells=[a]→∃vs:List Value,v.cells=vs.toArray∧a.cells.length=vs.length∧(∀u∈vs,u.oneCell'=true)∧
   ∀(i:Nat) (x:A) (u:Value),a.cells[i]? =some x→vs[i]? =some u→RepA U w x u:=λ ho hc=>
  ⟨[v],DM (rY hI h ho),by rw[hc];rfl,by simp [rY hI h ho],λ i x u hx hu=>by
   rw[hc]at hx
   match i with
   |0=>simp at hx hu;subst hx;subst hu;exact h
   |i+1=>simp at hx⟩
 cases a with
 |d x=>
  cases x with
  |agg cs=>
   cases h with
   |d h=>
    cases h with
    |agg _ vs len one rep=>
     refine⟨vs,rfl,by simpa [A.cells,D.cells]using len,λ u hu=> ?_,λ i x u hx hu=> ?_⟩
     ·obtain⟨i,hi,rfl⟩:=bF hu
      obtain⟨y,hy⟩:∃y,cs[i]? =some y:=⟨_,ap (by omega)⟩
      exact tC (rep i y _ hy (ap hi)) (one i y hy)
     ·simp only[A.cells,D.cells,aN,bj]at hx
      obtain⟨y,hy,rfl⟩:=hx
      exact .d (rep i y u hy hu)
  |_=>exact single rfl rfl
 |agg cs=>
  cases h with
  |agg _ vs len one rep=>
   exact⟨vs,rfl,len,λ u hu=>by obtain⟨i,hi,rfl⟩:=bF hu;exact one i _ (ap hi),rep⟩
 |ea x off=>exact single rfl rfl
 |ref id off=>exact single h1 rfl
 |rs id sz off len o=>exact single h1 rfl
 |mapr id=>exact single h1 rfl
 |fn f c d=>exact single h1 rfl
 |ifc t a=>exact single h1 rfl
 |_=>simp [zi,lk]at h1
end

section
variable (P:Program) (Z:St)
def eO(t:TypeId):Option (List A):=match P.info? t with
 |some i=>match i.zero with
  |some z=>some (z.cells.toList.map uR)
  |none=>none
 |none=>none
def pp(t:TypeId):Option (TypeId×Nat×Nat×List A):=match eA P t with
 |some (e,s)=>match P.info? e,eO P e with
  |some i,some zs=>if zs.length=s∧0<s∧zs.all (lk [])=true then some (e,s,i.bytes,zs)else none
  |_,_=>none
 |none=>none
def jS(t:TypeId)(k:Prop→A→St→Prop):Prop:=match eO P t with
 |some zs=>k (zs.all (lk [])=true) (.ref Z.length 0) (Z++[some (.cells zs)])
 |none=>False
def rP(a:A)(k:Prop→A→St→Prop):Prop:=k (zi Z a=true) (.ref Z.length 0) (Z++[some (.cells a.cells)])
def je(t:TypeId)(a x:A)(k:Prop→A→St→Prop):Prop:=match a with
 | .ref id off=>match Z[id]? with
  |some (some (.cells cs))=>k (zi Z x=true∧x.cells.length=P.cellsOf t∧(P.info? t).isSome=true∧off+x.cells.length≤cs.length) .o
    (Z.set id (some (.cells (cs.take off++x.cells++cs.drop (off+x.cells.length)))))
  |_=>False
 |_=>False
def jV(s:Nat):Nat→List (Nat×A)→Bool
 |_,[]=>true
 |i,(j,a)::r=>i==j&&a.cells.length==s&&zi Z a&&jV s (i+1) r
def eE(t:TypeId)(n:Nat)(parts:List (Nat×A))(k:Prop→A→St→Prop):Prop:=match pp P t with
 |some (e,s,_,_)=>k (jV Z s 0 parts=true∧parts.length=n∧n*s≤16777216∧n≤16777216) (.rs Z.length s 0 n (some e)) (Z++[some (.cells (parts.flatMap λ p=>p.2.cells))])
 |none=>False
def eW(t:TypeId)(l c:A)(k:Prop→A→St→Prop):Prop:=match l,c with
 | .d (.int _ n),.d (.int _ m)=>match pp P t with
  |some (e,s,bytes,zs)=>k (0≤n∧n≤m∧(bytes:Int)*m≤281474976710656∧m≤9223372036854775807) (.rs Z.length s 0 n.toNat (some e))
     (Z++[some (.cells (List.replicate n.toNat zs).flatten)])
  |none=>False
 |_,_=>False
def u1(s:Nat)(t:TypeId):A→Option (Prop×Nat×List A)
 | .d (.sl sz xs)=>some (sz=s∧(eA P t).isSome=true,xs.length,xs.flatMap λ x=>x.cells.map .d)
 | .d .nils=>some ((eA P t).isSome=true,0,[])
 | .d (.str b)=>some (s=1∧kp P t=true,b.length,b.map λ c=> .d (.int .u8 c.toNat))
 | .rs id sz off len _=>match Z[id]? with
  |some (some (.cells cs))=>some (sz=s∧(eA P t).isSome=true∧off+len*s≤cs.length,len,(cs.drop off).take (len*s))
  |_=>none
 |_=>none
def gR(t tx:TypeId)(a x:A)(k:Prop→A→St→Prop):Prop:=match pp P t with
 |some (e,s,bytes,_)=>match u1 P Z s tx x with
   |some (p,m,news)=>match a with
    | .d .nils=>k (p∧m≤maxLen∧m*bytes≤140737488355328) (.rs Z.length s 0 m (some e)) (Z++[some (.cells news)])
    | .rs id sz off len ow=>match Z[id]? with
     |some (some (.cells cs))=>k (p∧sz=s∧off=0∧ow=some e∧cs.length=len*s∧len+m≤maxLen∧(len+m)*bytes≤140737488355328) (.rs Z.length s 0 (len+m) (some e))
       (Z.set id none++[some (.cells (cs++news))])
     |_=>False
    |_=>False
   |none=>False
 |none=>False
end
end Go.Ab
