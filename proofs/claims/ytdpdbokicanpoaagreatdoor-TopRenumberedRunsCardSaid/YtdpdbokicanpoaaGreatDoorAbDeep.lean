import Derived.Test.YtdpdbokicanpoaaGreatDoorAbK
import Derived.Test.YtdpdbokicanpoaaGreatDoorAbPure
set_option linter.unusedSimpArgs false
set_option linter.unusedVariables false
set_option maxHeartbeats 64000000
namespace Go.Ab
open Go Go.RowKit

def y9(n0:Nat)(J:List Nat)(l:St)(id:Nat):Option (List A):=
 if id<n0 then none else if J.contains (id - n0)then(match l.getD (id - n0) none with|some (.cells cs)=>some cs|_=>none)else none
def qx(sz:Nat):Nat→List D→List D
 |0,_=>[]
 |n+1,ds=> .agg (ds.take sz)::qx sz n (ds.drop sz)
def grp(sz len:Nat)(ds:List D):List D:=if sz=1 then ds else qx sz len ds
def dpL(g:A→Option D):List A→Option (List D)
 |[]=>some []
 |a::r=>(g a).bind λ x=>(dpL g r).bind λ xs=>some (x::xs)
def tT(ds:List D)(k:D):Option D:=if ds.all D.one=true then some k else none
def Cr(n0:Nat)(J:List Nat)(l:St):Nat→A→Option D
 |0,_=>none
 |_+1,.d x=>some x
 |f+1,.rs id sz off len _=>(y9 n0 J l id).bind λ cs=>(dpL (Cr n0 J l f) ((cs.drop off).take (len*sz))).bind λ ds=>if ds.length=len*sz then tT ds (.sl sz (grp sz len ds))else none
 |f+1,.agg cs=>(dpL (Cr n0 J l f) cs).bind λ ds=>tT ds (.agg ds)
 |_+1,_=>none
def xX(n0:Nat)(J:List Nat)(l:St)(f:Nat)(a:A):A:=(Cr n0 J l f a).elim a .d
def dpOb(g:A→A):Ob→Ob
 | .cells cs=> .cells (cs.map g)
 | .map es=> .map es
 | .lp l r fr=> .lp l r fr
def uB(J:List Nat)(g:A→A):Nat→St→St
 |_,[]=>[]
 |k,o::r=>(if J.contains k then none else o.map (dpOb g))::uB J g (k+1) r

section
variable {U U':gM} {w w':World} {Z:St} {G:Glob} {n0:Nat} {J:List Nat} {l:St}

theorem uC{g:A→Option D}:∀{cs:List A} {ds:List D},dpL g cs=some ds→ds.length=cs.length∧∀(k:Nat) (c:A) (y:D),cs[k]? =some c→ds[k]? =some y→g c=some y
 |[],ds,h=>by
  simp only[dpL,Option.some.injEq]at h;subst h
  exact⟨rfl,λ k c y h=>by simp at h⟩
 |a::r,ds,h=>by
  simp only[dpL,Option.bind_eq_some_iff,Option.some.injEq]at h
  obtain⟨x,hx,xs,hxs,rfl⟩:=h
  obtain⟨h1,h2⟩:=uC hxs
  refine⟨by simp [h1],λ k c y hc hy=> ?_⟩
  match k with
  |0=>simp at hc hy;subst hc;subst hy;exact hx
  |k+1=>exact h2 k c y (by simpa using hc) (by simpa using hy)
theorem uE{sz:Nat}:∀{n:Nat} {ds:List D} {i:Nat} {x:D},(qx sz n ds)[i]? =some x→i<n∧x= .agg ((ds.drop (i*sz)).take sz)
 |0,ds,i,x,h=>by simp [qx]at h
 |n+1,ds,0,x,h=>by simp [qx]at h;exact⟨by omega,by simp [←h]⟩
 |n+1,ds,i+1,x,h=>by
  simp only[qx,cN]at h
  obtain⟨h1,h2⟩:=uE h
  refine⟨by omega,?_⟩
  rw[h2,List.drop_drop,Nat.succ_mul]
  congr 3
  omega
theorem ww{sz:Nat}:∀(n:Nat) (ds:List D),(qx sz n ds).length=n
 |0,_=>rfl
 |n+1,ds=>by simp [qx,ww n]
theorem C9{x:D}(h:x.one=true):x.cells=[x]:=by cases x<;> first|rfl|cases h
theorem Cj{sz len:Nat}{ds:List D}(h:ds.length=len*sz):(grp sz len ds).length=len:=by
 unfold grp
 split
 ·rename_i e;subst e;omega
 ·exact ww _ _
theorem ql{sz len:Nat}{ds:List D}(hl:ds.length=len*sz)(ho:ds.all D.one=true){i:Nat}{x:D}(h:(grp sz len ds)[i]? =some x):
  x.cells.length=sz∧∀(j:Nat) (y:D),x.cells[j]? =some y→y.one=true∧ds[i*sz+j]? =some y:=by
 have hone:∀(k:Nat) (y:D),ds[k]? =some y→y.one=true:=λ k y hy=>aZ.1 ho y (bh hy)
 unfold grp at h
 split at h
 ·rename_i e;subst e
  have h1:=C9 (hone i x h)
  rw[h1]
  refine⟨rfl,λ j y hy=> ?_⟩
  match j with
  |0=>simp at hy;subst hy;exact⟨hone i _ h,by simpa using h⟩
  |j+1=>simp at hy
 ·obtain⟨h1,rfl⟩:=uE h
  have h2:i*sz+sz≤ds.length:=by
   rw[hl]
   have:(i+1)*sz≤len*sz:=fp _ h1
   rw[Nat.succ_mul]at this;exact this
  refine⟨by simp [D.cells];omega,λ j y hy=> ?_⟩
  simp only[D.cells,cE]at hy
  split at hy
  ·rw[bE]at hy
   exact⟨hone _ y hy,hy⟩
  ·cases hy
def ly(n0:Nat)(J:List Nat)(U:gM):gM:=(List.range U.length).map λ i=>if n0≤i∧J.contains (i - n0)=true then .dead else U.getD i .dead
theorem oo{i:Nat}:(ly n0 J U)[i]? =if n0≤i∧J.contains (i - n0)=true∧i<U.length then some .dead else U[i]? :=by
 unfold ly
 rw[aN]
 by_cases hi:i<U.length
 ·rw[List.getElem?_range hi,bJ]
  by_cases h:n0≤i∧J.contains (i - n0)=true
  ·rw[if_pos h,if_pos ⟨h.1,h.2,hi⟩]
  ·rw[if_neg h,if_neg (λ k=>h ⟨k.1,k.2.1⟩),List.getD,ap hi];rfl
 ·rw[bm (by simp;omega),if_neg (λ k=>hi k.2.2),bm (by omega)];rfl
theorem jN{i b:Nat}(h:(ly n0 J U)[i]? =some (.live b)):U[i]? =some (.live b)∧¬(n0≤i∧J.contains (i - n0)=true):=by
 rw[oo]at h
 split at h
 ·cases h
 ·rename_i hn
  exact⟨h,λ k=>hn ⟨k.1,k.2,(aA.1 h).1⟩⟩
theorem vZ:(ly n0 J U).length=U.length:=by simp [ly]
theorem jO:Ext U w (ly n0 J U) w:=by
 refine⟨rfl,rfl,rfl,aE _,by rw[vZ];exact aE _,λ i r h=> ?_,λ b ⟨i,h⟩ _=>⟨i,(jN h).1⟩,λ _ _ _=>rfl,λ _ vs _ _ h=>⟨vs,h,rfl⟩⟩
 rw[oo]
 split
 ·exact .inr rfl
 ·exact .inl h
theorem C7{id:Nat}{cs:List A}(h:y9 Z.length J l id=some cs):(Z++l)[id]? =some (some (.cells cs))∧Z.length≤id∧J.contains (id - Z.length)=true:=by
 unfold y9 at h
 split at h
 ·cases h
 ·rename_i hn
  split at h
  ·rename_i hj
   split at h
   ·rename_i cs' hc
    injection h with h;subst h
    refine⟨?_,by omega,hj⟩
    rw[az (by omega)]
    cases hl:l[id - Z.length]? with
    |none=>simp [List.getD,hl]at hc
    |some o=>simp [List.getD,hl]at hc;rw[hc]
   ·cases h
  ·cases h
theorem Bq(hI:Inv G U (Z++l) w):∀(f:Nat) (a:A) (x:D) (v:Value),Cr Z.length J l f a=some x→RepA U w a v→RepD w (M (ly Z.length J U)) x v
 |0,_,_,_,h,_=>by simp [Cr]at h
 |f+1,a,x,v,h,hv=>by
  cases a with
  |d y=>
   simp only[Cr,Option.some.injEq]at h;subst h
   cases hv with
   |d hv=>exact hv.ext jO
  |agg cs=>
   simp only[Cr,Option.bind_eq_some_iff,tT]at h
   obtain⟨ds,hd,h⟩:=h
   split at h
   ·rename_i ho
    injection h with h;subst h
    obtain⟨h1,h2⟩:=uC hd
    cases hv with
    |agg _ vs len one rep=>
     refine .agg ds vs (by omega) (λ i y hy=>aZ.1 ho y (bh hy)) λ i y u hy hu=> ?_
     have hi:i<cs.length:=by rw[←h1];exact(aA.1 hy).1
     exact Bq hI f _ y u (h2 i _ y (ap hi) hy) (rep i _ u (ap hi) hu)
   ·cases h
  |rs id sz off len ow=>
   simp only[Cr,Option.bind_eq_some_iff,tT]at h
   obtain⟨cs,hc,ds,hd,h⟩:=h
   split at h
   ·rename_i hlen
    split at h
    ·rename_i ho
     injection h with h;subst h
     obtain⟨h1,h2⟩:=uC hd
     obtain⟨k1,k2,k3⟩:=C7 hc
     rcases kB hI (aO k1) hv with⟨b,cap,us,e,z,q1,rfl,q3,q4,q5,-⟩|⟨q1,q2,q3,rfl⟩
     ·have hxl:=Cj (sz:=sz) (len:=len) hlen
      by_cases h0:len=0
      ·subst h0
       have:grp sz 0 ds=[]:=bz hxl
       rw[this];exact .sl0 sz _ cap
      have hob:∃us' e',w.heap[b]? =some (.cells us' e' (0,0))∧cs.length≤us'.size∧∀(i:Nat) (x:A),cs[i]? =some x→∃v,us'[i]? =some v∧v.oneCell'=true∧RepA U w x v:=by
       rcases hI.obj id _ k1 with⟨b',g1,us',e',g2,g3,g4⟩|⟨g1,g2⟩
       ·rw[q1]at g1;injection g1 with g1;injection g1 with g1;subst g1
        exact⟨us',e',g2,g3,g4⟩
       ·rw[q1]at g1;cases g1
      obtain⟨us',e',g2,g3,g4⟩:=hob
      rw[q3]at g2;injection g2 with g2;injection g2 with g2 g2' g2'';subst g2
      have hnm:¬M (ly Z.length J U) b:=λ ⟨i,hi⟩=>by
       obtain⟨a1,a2⟩:=jN hi
       have:=hI.inj i id b a1 q1
       subst this
       exact a2 ⟨k2,k3⟩
      have hcell:∀(k:Nat) (y:D),ds[k]? =some y→∃u,us[off+k]? =some u∧RepD w (M (ly Z.length J U)) y u:=λ k y hy=>by
       have hk:k<((cs.drop off).take (len*sz)).length:=by rw[←h1];exact(aA.1 hy).1
       have hg:=ap hk
       have hd':=h2 k _ y hg hy
       generalize ((cs.drop off).take (len*sz))[k]=c at hg hd'
       rw[cE]at hg
       split at hg
       ·rw[bE]at hg
        obtain⟨u,b1,b2,b3⟩:=g4 _ _ hg
        exact⟨u,b1,Bq hI f _ y u hd' b3⟩
       ·cases hg
      have:=RepD.sl (w:=w) (m:=M (ly Z.length J U)) sz (grp sz len ds) b off cap (λ i j=>us.toList.getD (off+i*sz+j) undef) hnm (hI.lt id b q1) (by rw[hxl];exact q4) (λ i x hx=>(ql hlen ho hx).1)
       (λ i x j y a1 a2=>((ql hlen ho a1).2 j y a2).1) (λ i x j y a1 a2=> ?_) (λ i x j y a1 a2=> ?_)
      ·rw[hxl]at this;exact this
      ·obtain⟨u,b1,b2⟩:=hcell _ y ((ql hlen ho a1).2 j y a2).2
       rw[eR q3,cf,b1]
       simp [List.getD,b1,cf]
      ·obtain⟨u,b1,b2⟩:=hcell _ y ((ql hlen ho a1).2 j y a2).2
       simp only[List.getD,bP,cf,b1,b9]
       exact b2
     ·subst q3
      have:grp sz 0 ds=[]:=bz (Cj hlen)
      rw[this];exact .sl0 sz none 0
    ·cases h
   ·cases h
  |_=>simp [Cr]at h
theorem Cs(hI:Inv G U (Z++l) w)(f:Nat)(a:A)(v:Value)(hv:RepA U w a v):RepA (ly Z.length J U) w (xX Z.length J l f a) v:=by
 unfold xX
 cases h:Cr Z.length J l f a with
 |none=>exact hv.ext jO
 |some x=>exact .d (Bq hI f a x v h hv)
theorem dpA_bd(f:Nat){n:Nat}{a:A}(h:a.bd n=true):(xX n0 J l f a).bd n=true:=by
 unfold xX
 cases Cr n0 J l f a with
 |none=>exact h
 |some x=>rfl
theorem uA{g:A→A}:∀{l:St} {k j:Nat},(uB J g k l)[j]? =(l[j]?).map λ o=>if J.contains (k+j)then none else o.map (dpOb g)
 |[],k,j=>by simp [uB]
 |o::r,k,0=>by simp [uB]
 |o::r,k,j+1=>by
  simp only[uB,cN,uA (l:=r)]
  rw[show k+1+j=k+(j+1)by omega]
theorem uz{g:A→A}:∀{l:St} {k:Nat},(uB J g k l).length=l.length
 |[],_=>rfl
 |_::r,k=>by simp [uB,uz (l:=r)]
theorem bw.deep{fr:Fr}(J:List Nat)(f:Nat):bw G n0 fr (Z++l) (fr.map (xX Z.length J l f)) (Z++uB J (xX Z.length J l f) 0 l):=λ U0 w0 U w vs h0 hx hI hr=>by
 have hlen:=hI.len
 rw[aF]at hlen
 refine⟨ly Z.length J U,hx.trans jO,⟨by rw[vZ,hlen,aF,uz],λ i j b h1 h2=>hI.inj i j b (jN h1).1 (jN h2).1,λ i b h=>hI.lt i b (jN h).1,λ id o ho=> ?_,λ g x h=>(hI.glob g x h).ext jO,λ id o ho=> ?_,λ b ⟨i,h⟩=>hI.own b ⟨i,(jN h).1⟩⟩,
  by rw[ac];exact hr.1,λ i x v hi hv=> ?_⟩
 ·by_cases hid:id<Z.length
  ·rw[aq hid]at ho
   have ho':(Z++l)[id]? =some (some o):=by rw[aq hid];exact ho
   have hk:(ly Z.length J U)[id]? =U[id]? :=by rw[oo,if_neg (by omega)]
   rw[hk]
   rcases hI.obj id o ho' with⟨b,h1,h2⟩|h
   ·exact .inl ⟨b,h1,h2.keep jO rfl⟩
   ·exact .inr h
  ·rw[az (by omega),uA,bj]at ho
   obtain⟨o',h1,h2⟩:=ho
   split at h2
   ·cases h2
   ·rename_i hj
    cases o' with
    |none=>cases h2
    |some o'=>
     simp only[bJ,Option.some.injEq]at h2
     have ho':(Z++l)[id]? =some (some o'):=by rw[az (by omega)];exact h1
     have hk:(ly Z.length J U)[id]? =U[id]? :=by rw[oo,if_neg (λ k=>hj (by rw[ci];exact k.2.1))]
     rw[hk]
     rcases hI.obj id o' ho' with⟨b,g1,g2⟩|⟨g1,g2⟩
     ·refine .inl ⟨b,g1,?_⟩
      subst h2
      cases o' with
      |map es=>exact g2.keep jO rfl
      |lp l r fr=>exact g2.keep jO rfl
      |cells cs=>
       obtain⟨us,e,q1,q2,q3⟩:=g2
       refine⟨us,e,q1,by rw[ac];exact q2,λ i x hx=> ?_⟩
       rw[aN,bj]at hx
       obtain⟨y,hy,rfl⟩:=hx
       obtain⟨u,b1,b2,b3⟩:=q3 i y hy
       exact⟨u,b1,b2,Cs hI f y u b3⟩
     ·subst g2;subst h2;exact .inr ⟨g1,rfl⟩
 ·have hl2:(Z++uB J (xX Z.length J l f) 0 l).length=(Z++l).length:=by simp [uz]
  rw[hl2]
  by_cases hid:id<Z.length
  ·rw[aq hid]at ho
   exact hI.bd id o (by rw[aq hid];exact ho)
  ·rw[az (by omega),uA,bj]at ho
   obtain⟨o',h1,h2⟩:=ho
   split at h2
   ·cases h2
   ·cases o' with
    |none=>cases h2
    |some o'=>
     simp only[bJ,Option.some.injEq]at h2
     have:=hI.bd id o' (by rw[az (by omega)];exact h1)
     subst h2
     cases o' with
     |map es=>exact this
     |lp l r fr=>exact this
     |cells cs=>
      exact gI λ x hx=>by
       obtain⟨y,hy,rfl⟩:=aI.1 hx
       exact dpA_bd f (gD this y hy)
 ·rw[aN,bj]at hi
  obtain⟨y,hy,rfl⟩:=hi
  exact Cs hI f y v (hr.2 i y v hy hv)
theorem Wk.deep{fr:Fr}{I:Fr→St→Prop}(J:List Nat)(f:Nat)(h:Wk G n0 I (fr.map (xX Z.length J l f)) (Z++uB J (xX Z.length J l f) 0 l)):Wk G n0 I fr (Z++l):=by
 obtain⟨a,b,h1,h2⟩:=h
 exact⟨a,b,(bw.deep J f).trans h1,h2⟩
end
-- evaluation
section
variable {n0 f:Nat} {J:List Nat} {l:St}
@[go_sem] theorem ownC_zero:y9 n0 J l n0=if J.contains 0 then(match l.getD 0 none with|some (.cells cs)=>some cs|_=>none)else none:=by simp [y9]
@[go_sem] theorem ownC_add (j:Nat):y9 n0 J l (n0+j)=if J.contains j then(match l.getD j none with|some (.cells cs)=>some cs|_=>none)else none:=by
 rw[y9,if_neg (by omega),bk]
@[go_sem] theorem dpA_d (x:D):xX n0 J l (f+1) (.d x)= .d x:=rfl
@[go_sem] theorem dpA_any:xX n0 J l (f+1) .o= .o:=rfl
@[go_sem] theorem dpA_ref (i o:Nat):xX n0 J l (f+1) (.ref i o)= .ref i o:=rfl
@[go_sem] theorem dpA_ea (x:D) (o:Nat):xX n0 J l (f+1) (.ea x o)= .ea x o:=rfl
@[go_sem] theorem dpA_mapr (i:Nat):xX n0 J l (f+1) (.mapr i)= .mapr i:=rfl
@[go_sem] theorem dpA_fn (g:Fn) (a b:List A):xX n0 J l (f+1) (.fn g a b)= .fn g a b:=rfl
@[go_sem] theorem dpA_rs (id sz off len:Nat) (w:Option TypeId):xX n0 J l (f+1) (.rs id sz off len w)=(Cr n0 J l (f+1) (.rs id sz off len w)).elim (.rs id sz off len w) .d:=rfl
@[go_sem] theorem dpA_agg (cs:List A):xX n0 J l (f+1) (.agg cs)=(Cr n0 J l (f+1) (.agg cs)).elim (.agg cs) .d:=rfl
attribute [go_sem] Cr dpL uB dpOb tT grp qx Option.elim_some Option.elim_none
def Plan.tk:Nat→Nat→Plan→Plan
 |0,_,p=>p
 |n+1,k,p=> .take k (Plan.tk n (k+1) p)
attribute [go_sem] Plan.tk
end
end Go.Ab
