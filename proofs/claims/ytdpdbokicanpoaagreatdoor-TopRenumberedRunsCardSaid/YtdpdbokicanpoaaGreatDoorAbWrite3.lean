import Derived.Test.YtdpdbokicanpoaaGreatDoorAbK
import Derived.Test.YtdpdbokicanpoaaGreatDoorAbWrite2
import Derived.Great.BuildSlice
set_option linter.unusedSimpArgs false
set_option linter.unusedVariables false
set_option maxHeartbeats 64000000
namespace Go.Ab
open Go Go.RowKit

def fillA(place:Nat→Option (Nat×Nat)):List A→List (Nat×A)→Option (List A)
 |cs,[]=>some cs
 |cs,(i,a)::r=>match place i with
  |none=>none
  |some (off,size)=>if a.cells.length=size∧off+size≤cs.length then fillA place (cs.take off++a.cells++cs.drop (off+size)) r else none

theorem wb(off:Nat):∀(us:List Value) (j:Nat) (cells:Array Value),off+j+us.length≤cells.size→
  (us.zipIdx j).foldl (λ cs (x:Value×Nat)=>cs.setIfInBounds (off+x.2) x.1) cells=(cells.toList.take (off+j)++us++cells.toList.drop (off+j+us.length)).toArray
 |[],j,cells,_=>by simp
 |u::us,j,cells,h=>by
  simp only[List.zipIdx_cons,cc]
  rw[wb off us (j+1) _ (by simp at h ⊢;omega)]
  have:=list_seg_step cells.toList (off+j) u us (by simp at h ⊢;omega)
  simp only[Array.toList_setIfInBounds,ae]
  rw[←cf off j 1,this]
theorem fill_one (place:Nat→Option (Nat×Nat)) (cells:Array Value) (i off size:Nat) (v:Value) (us:List Value) (rest:List (Nat×Value)) (hp:place i=some (off,size)) (hv:v.cells=us.toArray) (hl:us.length=size)
  (hs:off+size≤cells.size):Instr.fill place cells ((i,v)::rest)=Instr.fill place (cells.toList.take off++us++cells.toList.drop (off+size)).toArray rest:=by
 subst hl
 simp only[Instr.fill,hp,hv,List.size_toArray]
 rw[if_neg (by simp;omega)]
 congr 1
 have:=wb off us 0 cells (by omega)
 simp only[dY]at this
 rw[←this,←Array.foldl_toList,Array.toList_zipIdx]

section
variable {P:Program} {U U':gM} {w w':World} {Z:St} {G:Glob}

def jJ(U:gM)(w:World)(cs:List A)(vs:List Value):Prop:=
 cs.length=vs.length∧(∀u∈vs,u.oneCell'=true)∧∀(i:Nat) (x:A) (u:Value),cs[i]? =some x→vs[i]? =some u→RepA U w x u
theorem jJ.splice{cs new:List A}{vs us:List Value}(h:jJ U w cs vs)(hn:jJ U w new us){off:Nat}(ho:off+new.length≤cs.length):
  jJ U w (cs.take off++new++cs.drop (off+new.length)) (vs.take off++us++vs.drop (off+us.length)):=by
 refine⟨by have:=h.1;have:=hn.1;simp;omega,λ u hu=> ?_,λ i x u hx hu=> ?_⟩
 ·simp only[aW]at hu
  rcases hu with(hu|hu)|hu
  ·exact h.2.1 u (dW hu)
  ·exact hn.2.1 u hu
  ·exact h.2.1 u (gq hu)
 ·obtain⟨v,hv,_,hr⟩:=lu (cs:=cs) (vs:=vs) hn.1 ho (by have:=h.1;omega) hn.2.1 hn.2.2 (λ i x hx=>by
   have hi:i<vs.length:=by have:=(aA.1 hx).1;have:=h.1;omega
   exact⟨vs[i],ap hi,h.2.1 _ (bI hi),h.2.2 i x _ hx (ap hi)⟩) i x hx
  rw[hv]at hu;injection hu with hu;subst hu;exact hr

def nS(U:gM)(w:World)(Z:St):List (Nat×A)→List (Nat×Value)→Prop
 |[],[]=>True
 |(i,a)::r,(j,v)::s=>i=j∧RepA U w a v∧nS U w Z r s
 |_,_=>False
theorem pC(hI:Inv G U Z w){place:Nat→Option (Nat×Nat)}:∀(ps:List (Nat×A)) (qs:List (Nat×Value)) (cs cs':List A) (vs:List Value),nS U w Z ps qs→ps.all (λ p=>zi Z p.2)=true→jJ U w cs vs→
  fillA place cs ps=some cs'→∃vs',Instr.fill place vs.toArray qs=some vs'.toArray∧jJ U w cs' vs'
 |[],[],cs,cs',vs,_,_,hs,h=>by
  simp only[fillA,Option.some.injEq]at h
  subst h
  exact⟨vs,rfl,hs⟩
 |(i,a)::ps,(j,v)::qs,cs,cs',vs,hp,hok,hs,h=>by
  obtain⟨rfl,ha,hp⟩:=hp
  simp only[dH,aB]at hok
  obtain⟨us,e,hl,h1,h2⟩:=rE hI ha hok.1
  simp only[fillA]at h
  split at h
  ·cases h
  ·rename_i off size hpl
   split at h
   ·rename_i hc
    have hn:jJ U w a.cells us:=⟨hl,h1,h2⟩
    have hspl:=hs.splice hn (off:=off) (by omega)
    rw[fill_one place vs.toArray i off size v us qs hpl e (by omega) (by have:=hs.1;simp;omega)]
    have e1:off+a.cells.length=off+size:=by omega
    have e2:off+us.length=off+size:=by omega
    rw[e1,e2]at hspl
    exact pC hI ps qs _ cs' _ hp hok.2 hspl h
   ·cases h
 |[],_::_,_,_,_,hp,_,_,_=>hp.elim
 |_::_,[],_,_,_,hp,_,_,_=>hp.elim

theorem oS(s:Nat):∀(ps:List (Nat×A)) (i:Nat) (cs:List A),jV Z s i ps=true→(i+ps.length)*s≤cs.length→
  fillA (λ i=>some (i*s,s)) cs ps=some (cs.take (i*s)++(ps.flatMap λ p=>p.2.cells)++cs.drop ((i+ps.length)*s))
 |[],i,cs,_,_=>by simp [fillA]
 |(j,a)::ps,i,cs,h,hl=>by
  simp only[jV,aB,cg]at h
  obtain⟨⟨⟨rfl,ha⟩,_⟩,hr⟩:=h
  have hl':(i+1+ps.length)*s≤cs.length:=by rw[ae]at hl;rwa [show i+1+ps.length=i+(ps.length+1)by omega]
  have hi:i*s+s≤cs.length:=by
   have:(i+1)*s≤(i+1+ps.length)*s:=fp _ (by omega)
   rw[fL,Nat.one_mul]at this;omega
  simp only[fillA,if_pos (And.intro ha hi)]
  rw[oS s ps (i+1) _ hr (by simp;omega)]
  congr 1
  have e1:(i+1)*s=i*s+s:=by rw[fL,Nat.one_mul]
  have e2:i+(List.length ((i,a)::ps))=i+1+ps.length:=by simp;omega
  rw[e2,e1]
  have e3:(cs.take (i*s)++a.cells++cs.drop (i*s+s)).take (i*s+s)=cs.take (i*s)++a.cells:=by
   rw[List.take_append_of_le_length (by simp;omega)]
   apply aK;simp;omega
  have e4:(cs.take (i*s)++a.cells++cs.drop (i*s+s)).drop ((i+1+ps.length)*s)=cs.drop ((i+1+ps.length)*s):=by
   have hge:i*s+s≤(i+1+ps.length)*s:=by rw[←e1];exact fp _ (by omega)
   rw[List.drop_append,d7 (by simp;omega),ak,List.drop_drop]
   congr 1
   simp;omega
  rw[e3,e4]
  simp
theorem py{s:Nat}:∀{ps:List (Nat×A)} {i:Nat},jV Z s i ps=true→ps.all (λ p=>zi Z p.2)=true
 |[],_,_=>rfl
 |(j,a)::ps,i,h=>by
  simp only[jV,aB]at h
  simp only[dH,aB]
  exact⟨h.1.2,py h.2⟩
theorem CI(n:Nat)(vs:List Value)(h:vs.length=n)(h1:∀u∈vs,u.oneCell'=true):jJ U w (List.replicate n .o) vs:=
 ⟨by simp [h],h1,λ i x u hx _=>by
  simp only[gK]at hx
  split at hx
  ·injection hx with hx;subst hx;exact .o _
  ·cases hx⟩

theorem l8{t e s bytes:Nat}{zs:List A}(h:pp P t=some (e,s,bytes,zs)):∃i z,P.underlying t=some (.slice e)∧P.cellsOf e=s∧P.info? e=some i∧i.zero=some z∧
  zs=z.cells.toList.map uR∧(z.cells.toList.map uR).length=s∧0<s∧(z.cells.toList.map uR).all (lk [])=true∧i.bytes=bytes:=by
 unfold pp at h
 split at h
 ·rename_i e' s' he
  obtain⟨hu,hs,_,_⟩:=eQ he
  split at h
  ·rename_i i zs' hi hz
   obtain⟨i',z,hi',hz',rfl⟩:=oW hz
   rw[hi]at hi';injection hi' with hi';subst hi'
   split at h
   ·rename_i hc
    injection h with h;injection h with e1 h;injection h with e2 h;injection h with e3 e4
    subst e1;subst e2;subst e3;subst e4
    exact⟨i,z,hu,hs,hi,hz',rfl,hc.1,hc.2.1,hc.2.2,rfl⟩
   ·cases h
  ·cases h
 ·cases h
theorem oX{t:TypeId}{n:Nat}{ps:List (Nat×A)}{qs:Array (Nat×Value)}{k:Prop→A→St→Prop}(hI:Inv G U Z w)(hp:nS U w Z ps qs.toList)(h:eE P Z t n ps k):
  qF P G U w (Instr.buildSlice t n qs) k:=by
 unfold eE at h
 split at h
 ·rename_i e s bytes zs hmk
  obtain⟨i,z,hu,hs,hi,hz',rfl,p4,p5,p7,_⟩:=l8 hmk
  ·refine⟨_,_,_,h,λ ⟨p1,p2,p3,p6⟩=> ?_⟩
   have hsz:i.size=s:=by rw[←hs];simp [Program.cellsOf,hi]
   have hzl:z.cells.size=s:=by simpa using p4
   by_cases hn:n=0
   ·subst hn
    have hps:ps=[]:=bz p2
    subst hps
    have hqs:qs.toList=[]:=by
     cases hq:qs.toList with
     |nil=>rfl
     |cons a b=>rw[hq]at hp;exact hp.elim
    obtain⟨hx,hI'⟩:=nv hI (cs:=[]) (vs:=[]) e rfl (by simp) (by simp) (by simp)
    refine⟨.slice (some ⟨w.heap.size,0,none⟩) 0 0,_,_,?_,hx,hI',.rs (mf hI _) (heap_alloc_new w _) (by omega) (by simp) (λ e' h=>by injection h with h;subst h;exact⟨rfl,rfl,by simp,by simp [maxLen]⟩)⟩
    simp [Instr.buildSlice,run_underlying hu,sizeOf,typeInfo,hi,hqs,Instr.fill,newRow]
    rw[show Array.range 0= #[]from by simp [Array.range]]
    simp
   ·have hpos:¬n*i.size=0:=by rw[hsz];intro h0;rcases Nat.mul_eq_zero.1 h0 with h0|h0<;> omega
    -- whatever the zero cells are, they are all overwritten
    let zc:List Value:=((Array.range (n*i.size)).map (z.cells[· % z.cells.size]!)).toList
    have hzc:zc.length=n*s:=by simp [zc,hsz]
    have hfa:=oS (Z:=Z) s ps 0 (List.replicate (n*s) .o) p1 (by simp [p2])
    simp only[Nat.zero_mul,dV,ak,ci,p2,List.drop_replicate,Et,ag,bt]at hfa
    have hone:∀u∈zc,u.oneCell'=true:=λ u hu'=>by
     simp only[zc,Array.toList_map,aI,Array.mem_toList_iff]at hu'
     obtain⟨x,_,rfl⟩:=hu'
     have hlt:x % z.cells.size<z.cells.size:=Nat.mod_lt _ (by omega)
     refine(lM (U:=U) (w:=w) p7).1 _ ?_
     rw[getElem!_pos z.cells _ hlt]
     simp
    ·obtain⟨vs',hf,hS⟩:=pC hI ps qs.toList _ _ zc hp (py p1) (CI _ zc hzc hone) hfa
     have hrun:=run_buildSlice (P:=P) w t e n qs vs'.toArray i z hu hi hz' (by rw[hsz];omega) hpos (by have h0:=hf;simp only[zc,Array.toArray_toList]at h0;rw[hsz]at h0 ⊢;exact h0)
     obtain⟨hx,hI'⟩:=nv hI e (gI λ x hx=>by
      obtain⟨p,hp1,hp2⟩:=gJ.1 hx
      exact gD (uM (aZ.1 (py p1) p hp1)) x hp2) (Nat.le_of_eq hS.1) hS.2.1 hS.2.2
     have hflat:vs'.length=n*s:=by
      rw[←hS.1]
      have:=congrArg (λ o=>o.map List.length) hfa
      clear hrun hx hI'
      have hgen:∀(ps:List (Nat×A)) (i:Nat),jV Z s i ps=true→(ps.flatMap λ p=>p.2.cells).length=ps.length*s:=by
       intro ps
       induction ps with
       |nil=>intro i _;simp
       |cons p ps ih=>
        intro i h
        obtain⟨j,a⟩:=p
        simp only[jV,aB,cg]at h
        simp only[cP,aF,ih _ h.2,h.1.1.2,ae,fL,Nat.one_mul]
        omega
      rw[hgen ps 0 p1,p2]
     exact⟨_,_,_,hrun,hx,hI',.rs (mf hI _) (heap_alloc_new w _) (aE _) (by simp [hflat]) (λ e' h=>by injection h with h;subst h;exact⟨rfl,rfl,by simp [hflat],by simp [maxLen];omega⟩)⟩
 ·exact h.elim

theorem pR{t:TypeId}{l c:A}{u v:Value}{k:Prop→A→St→Prop}(hI:Inv G U Z w)(hl:RepA U w l u)(hc:RepA U w c v)(h:eW P Z t l c k):
  qF P G U w (Instr.makeSlice t u v) k:=by
 unfold eW at h
 split at h
 ·rename_i ik n jk m
  obtain rfl:=gk hl
  obtain rfl:=gk hc
  split at h
  ·rename_i e s bytes zs hmk
   obtain⟨i,z,hu,hs,hi,hz',rfl,p5,_,p6,rfl⟩:=l8 hmk
   ··refine⟨_,_,_,h,λ ⟨p1,p2,p3,p4⟩=> ?_⟩
     have hsz:i.size=s:=by rw[←hs];simp [Program.cellsOf,hi]
     have hzl:z.cells.size=s:=by simpa using p5
     have hrun:=run_make (P:=P) w t e i z hu hi hz' ik jk n m p1 p2 p3 p4
     have hmade:∀j v,(madeCells z.cells (m.toNat*i.size)).toList[j]? =some v→∃(hlt:j % s<z.cells.size),v=z.cells[j % s]∧j<m.toNat*s:=λ j v hj=>by
      simp only[madeCells,Array.toList_map,aN,bj]at hj
      obtain⟨x,hx,rfl⟩:=hj
      have hjl:j<m.toNat*i.size:=by have:=(aA.1 hx).1;simpa using this
      have hx':x=j:=by
       have:=(aA.1 hx).2
       simpa using this.symm
      subst hx'
      have hpos:0<s:=by
       rcases cv s with h0|h0
       ·rw[hsz,h0]at hjl;omega
       ·exact h0
      have hlt:x % s<z.cells.size:=by rw[hzl];exact Nat.mod_lt _ hpos
      refine⟨hlt,?_,by rw[←hsz];exact hjl⟩
      rw[hzl,getElem!_pos z.cells _ hlt]
     obtain⟨z1,z2⟩:=lM (U:=U) (w:=w) p6
     have hlen:(List.replicate n.toNat (z.cells.toList.map uR)).flatten.length=n.toNat*s:=by simp [hzl]
     have hml:(madeCells z.cells (m.toNat*i.size)).toList.length=m.toNat*s:=by simp [size_madeCells,hsz]
     have hnm:n.toNat*s≤m.toNat*s:=fp _ (by omega)
     obtain⟨hx,hI'⟩:=nv hI (cs:=(List.replicate n.toNat (z.cells.toList.map uR)).flatten) (vs:=(madeCells z.cells (m.toNat*i.size)).toList) e (gI λ x hx=>by
       obtain⟨l,hl1,hl2⟩:=List.mem_flatten.1 hx
       rw[(fR.1 hl1).2]at hl2
       exact gD (tZ _ _) x hl2) (by omega)
      (λ u hu'=>by
       obtain⟨j,hj,rfl⟩:=bF hu'
       obtain⟨hlt,e1,_⟩:=hmade j _ (ap hj)
       rw[e1];exact z1 _ (by simp))
      (λ j x u hx hu'=>by
       obtain⟨hlt,e1,e2⟩:=hmade j u hu'
       have hflat:∀(n:Nat) (zs:List A) (j:Nat) (x:A),(List.replicate n zs).flatten[j]? =some x→zs[j % zs.length]? =some x:=by
        intro n zs
        induction n with
        |zero=>intro j x h;simp at h
        |succ n ih=>
         intro j x h
         rw[af,List.flatten_cons]at h
         by_cases hj:j<zs.length
         ·rw[aq hj]at h
          rw[Nat.mod_eq_of_lt hj];exact h
         ·rw[az (by omega)]at h
          have:=ih _ _ h
          rwa [←Nat.mod_eq_sub_mod (by omega)]at this
       have h3:=hflat _ _ _ _ hx
       rw[show(z.cells.toList.map uR).length=s by simpa using hzl]at h3
       exact z2 (j % s) x u h3 (by rw[e1];simp [hlt]))
     simp only[Array.toArray_toList]at hx hI'
     refine⟨_,_,_,hrun,hx,hI',.rs (mf hI _) (heap_alloc_new w _) (by omega) (by rw[size_madeCells,hsz];omega) (λ e' h=>by
      injection h with h;subst h;exact⟨rfl,rfl,by rw[size_madeCells,hsz],by simp [maxLen];omega⟩)⟩
  ·exact h.elim
 ·exact h.elim

structure Src (P:Program) (w:World) (s m:Nat) (tx:TypeId) (x:Value) (us:List Value):Prop where
 type:P.underlying tx=some .string∨∃e,P.underlying tx=some (.slice e)
 len:(Builtin.lenOf x).run P w= .ok m w
 cells:∀w':World,w'.heap=w.heap→(Builtin.firstCells s m x).run P w'= .ok us.toArray w'
 size:us.length=m*s
theorem uG{w w':World}(h:w'.heap=w.heap)(a:Addr):w'.cell? a=w.cell? a:=by simp [World.cell?,h]
theorem oL {t tx ty e:TypeId} {i:TypeInfo} (ht:P.underlying t=some (.slice e)) (hi:P.info? e=some i) {x:Value} {us:List Value} {m:Nat} (hs:Src P w i.size m tx x us)
  {g n cap:Nat} {cur:Array Value} (hg:w.heap[g]? =some (.cells cur e (0,0))) (h1:∀u∈us,u.oneCell'=true) (hroom:n+m≤cap) (hfit:n*i.size+us.length≤cur.size):
  (Builtin.append_ #[t,tx] ty #[.slice (some ⟨g,0,none⟩) n cap,x]).run P w=
   .ok (.slice (some ⟨g,0,none⟩) (n+m) cap) (w.setRow g (cur.toList.take (n*i.size)++us++cur.toList.drop (n*i.size+us.length)).toArray):=by
 have hst:=run_storeCells_at P g (n*i.size) e us 0 cur w hg (by omega) h1
 simp only[dY]at hst
 rcases hs.type with hd|⟨d,hd⟩<;>
  simp [Builtin.append_,run_underlying ht,run_underlying hd,sizeOf,typeInfo,hi,hs.len,hroom,hs.cells w rfl,uP,hst]
theorem nl {t tx ty e:TypeId} {i:TypeInfo} {z:Value} (ht:P.underlying t=some (.slice e)) (hi:P.info? e=some i) (hz:i.zero=some z) {x:Value} {us olds:List Value} {m:Nat} (hs:Src P w i.size m tx x us)
  {base:Option Addr} {n cap:Nat} (hold:∀w':World,w'.heap=w.heap→(Builtin.firstCells i.size n (.slice base n cap)).run P w'= .ok olds.toArray w')
  (hg:cap<n+m) (h63:((n+m:Nat):Int)≤9223372036854775807) (hfit:Builtin.nextslicecap (n+m) cap*i.bytes≤281474976710656):
  (Builtin.append_ #[t,tx] ty #[.slice base n cap,x]).run P w=
   .ok (.slice (some ⟨w.heap.size,0,none⟩) (n+m) (grownCap w (n+m) cap e)) (w.drew.alloc (.cells (olds.toArray++us.toArray++Builtin.zeroCells z.cells (grownCap w (n+m) cap e - (n+m))) e)):=by
 have hn:¬(n+m≤cap):=by omega
 have h63':¬(9223372036854775807<((n:Int)+(m:Int))):=by omega
 have h48':¬(281474976710656<Builtin.nextslicecap (n+m) cap*i.bytes):=by omega
 have hf:=hs.cells w.drew rfl
 have hfo:=hold w.drew rfl
 rcases hs.type with hd|⟨d,hd⟩<;>
  simp [Builtin.append_,run_underlying ht,run_underlying hd,sizeOf,typeInfo,zeroValue,hi,hz,hs.len,hn,h63',h48',Question.forced,hf,hfo,newRow,grownCap]<;>
  (congr 2;apply Array.ext';simp)

theorem sa{α β:Type}{s:Nat}(f:α→List β):∀(xs:List α) (k:Nat) (y:β),(∀(i:Nat) (x:α),xs[i]? =some x→(f x).length=s)→(xs.flatMap f)[k]? =some y→
  0<s∧∃x,xs[k / s]? =some x∧(f x)[k % s]? =some y
 |[],k,y,_,h=>by simp at h
 |x::xs,k,y,hl,h=>by
  have h0:=hl 0 x (by simp)
  rw[cP]at h
  by_cases hk:k<s
  ·rw[aq (by omega)]at h
   exact⟨by omega,x,by rw[Nat.div_eq_of_lt hk];rfl,by rw[Nat.mod_eq_of_lt hk];exact h⟩
  ·rw[az (by omega),h0]at h
   obtain⟨hs,x',h1,h2⟩:=sa f xs (k - s) y (λ i x hx=>hl (i+1) x (by simpa using hx)) h
   refine⟨hs,x',?_,?_⟩
   ·have:k / s=(k - s) / s+1:=by
     rw[←Nat.add_div_right _ hs];congr 1;omega
    rw[this];simpa using h1
   ·rw[Nat.mod_eq_sub_mod (by omega)];exact h2
theorem r9{α β:Type}{s:Nat}(f:α→List β):∀(xs:List α),(∀(i:Nat) (x:α),xs[i]? =some x→(f x).length=s)→(xs.flatMap f).length=xs.length*s
 |[],_=>by simp
 |x::xs,hl=>by
  rw[cP,aF,hl 0 x (by simp),r9 f xs (λ i x hx=>hl (i+1) x (by simpa using hx)),ae,fL,Nat.one_mul]
  omega

theorem ku{s m c:Nat}{b o:Nat}{us:List Value}(hl:us.length=m*s)(h:∀(j:Nat) (v:Value),us[j]? =some v→w.cell? ⟨b,o+j,none⟩=some v):
  ∀w':World,w'.heap=w.heap→(Builtin.firstCells s m (.slice (some ⟨b,o,none⟩) m c)).run P w'= .ok us.toArray w':=λ w' hw=>by
 have:=run_loadCells_list (P:=P) w' ⟨b,o,none⟩ us (λ j v hj=>by rw[uP,uG hw];exact h j v hj)
 simpa [Builtin.firstCells,←hl]using this

theorem pd(hI:Inv G U Z w){s:Nat}{tx:TypeId}{x:A}{v:Value}{p:Prop}{m:Nat}{news:List A}(hx:RepA U w x v)(h:u1 P Z s tx x=some (p,m,news))(hp:p):
  ∃us,Src P w s m tx v us∧jJ U w news us:=by
 unfold u1 at h
 split at h
 ·rename_i sz xs
  injection h with h;injection h with e1 e2;injection e2 with e2 e3
  subst e1;subst e2;subst e3
  obtain⟨rfl,he⟩:=hp
  obtain⟨⟨e,s⟩,he⟩:=bV.1 he
  obtain⟨hu,_,_⟩:=eQ he
  cases hx with
  |d hx=>
   cases hx with
   |sl0 _ a c=>
    refine⟨[],⟨.inr ⟨_,hu⟩,rfl,λ w' _=> ?_,by simp⟩,⟨by simp,by simp,λ i x u hx=>by simp at hx⟩⟩
    cases a with
    |none=>rfl
    |some a=>simp [Builtin.firstCells,loadCells,loadCellsFrom]
   |sl _ _ b o c vs hm hb hcap len one cell rep=>
    have hlen:∀(i:Nat) (x:D),xs[i]? =some x→(x.cells.map A.d).length=sz:=λ i x hx=>by simpa using len i x hx
    have hget:∀(k:Nat) (y:A),(xs.flatMap λ x=>x.cells.map A.d)[k]? =some y→0<sz∧∃(x:D) (z:D),xs[k / sz]? =some x∧x.cells[k % sz]? =some z∧y= .d z:=λ k y hy=>by
     obtain⟨h0,x,h1,h2⟩:=sa _ xs k y hlen hy
     simp only[aN,bj]at h2
     obtain⟨z,hz,rfl⟩:=h2
     exact⟨h0,x,z,h1,hz,rfl⟩
    have hfl:=r9 (s:=sz) (λ x:D=>x.cells.map A.d) xs hlen
    have hus:∀(k:Nat) (u:Value),((List.range (xs.length*sz)).map λ k=>vs (k / sz) (k % sz))[k]? =some u→k<xs.length*sz∧u=vs (k / sz) (k % sz):=λ k u hu=>by
     have:=oR (vs:=λ k=>vs (k / sz) (k % sz)) hu
     exact this
    have hex:∀k,k<xs.length*sz→∃(x:D) (z:D),xs[k / sz]? =some x∧x.cells[k % sz]? =some z:=λ k hk=>by
     obtain⟨_,x,z,h1,h2,_⟩:=hget k _ (ap (by rw[hfl];exact hk))
     exact⟨x,z,h1,h2⟩
    have hkk:∀k,k / sz*sz+k % sz=k:=λ k=>Nat.div_add_mod' k sz
    refine⟨(List.range (xs.length*sz)).map λ k=>vs (k / sz) (k % sz),⟨.inr ⟨_,hu⟩,rfl,ku (by simp) (λ k u hk=> ?_),by simp⟩,⟨by simp [hfl],λ u hu'=> ?_,λ k y u hy hu'=> ?_⟩⟩
    ·obtain⟨h1,rfl⟩:=hus k u hk
     obtain⟨x,z,h2,h3⟩:=hex k h1
     have:=cell _ _ _ _ h2 h3
     rw[cf,hkk]at this
     exact this
    ·obtain⟨k,hk,rfl⟩:=bF hu'
     obtain⟨h1,e⟩:=hus k _ (ap hk)
     obtain⟨x,z,h2,h3⟩:=hex k h1
     rw[e]
     exact tC (rep _ _ _ _ h2 h3) (one _ _ _ _ h2 h3)
    ·obtain⟨_,x,z,h2,h3,rfl⟩:=hget k y hy
     obtain⟨h1,rfl⟩:=hus k u hu'
     exact .d (rep _ _ _ _ h2 h3)
 ·injection h with h;injection h with e1 e2;injection e2 with e2 e3
  subst e1;subst e2;subst e3
  obtain⟨⟨e,s⟩,he⟩:=bV.1 hp
  obtain⟨hu,_,_⟩:=eQ he
  cases hx with
  |d hx=>cases hx;exact⟨[],⟨.inr ⟨_,hu⟩,rfl,λ w' _=>rfl,by simp⟩,⟨by simp,by simp,λ i x u hx=>by simp at hx⟩⟩
 ·injection h with h;injection h with e1 e2;injection e2 with e2 e3
  subst e1;subst e2;subst e3
  obtain⟨rfl,he⟩:=hp
  obtain⟨b,rfl,rfl⟩:=kR hx
  refine⟨b.data.toList.map λ c=> .int .u8 c.toNat,⟨.inl (iE he),by simp [Builtin.lenOf],λ w' _=> ?_,by simp⟩,⟨by simp,by simp [Value.oneCell'],λ i x u hx hu=> ?_⟩⟩
  ·simp only[Builtin.firstCells,Sem.run_pure]
   congr 1
   apply Array.ext'
   simp
  ·simp only[aN,bj]at hx hu
   obtain⟨c,h1,rfl⟩:=hx
   obtain⟨c',h2,rfl⟩:=hu
   rw[h1]at h2;injection h2 with h2;subst h2
   exact .d (.int _ _)
 ·rename_i id sz off len ow
  split at h
  ·rename_i cs hσ
   injection h with h;injection h with e1 e2;injection e2 with e2 e3
   subst e1;subst e2;subst e3
   obtain⟨rfl,he,hc⟩:=hp
   obtain⟨⟨e,s⟩,he⟩:=bV.1 he
   obtain⟨hu,_,_⟩:=eQ he
   rcases kB hI (aO hσ) hx with⟨b,cap,vs,e',z,hb,rfl,hh,hcap,hsz,_⟩|⟨hb,rfl,rfl,rfl⟩
   ·rcases lW hI hσ with⟨b',vs',et,hb',hh',hlen,hcs⟩|⟨he',_⟩
    case inr=>rw[hb]at he';injection he' with he';cases he'
    rw[hb]at hb';injection hb' with hb';injection hb' with hb';subst hb'
    have hget:∀(j:Nat) (u:Value),((vs'.toList.drop off).take (len*sz))[j]? =some u→j<len*sz∧vs'[off+j]? =some u:=λ j u hj=>by
     simp only[cE]at hj
     split at hj
     ·exact⟨by assumption,by simpa [bE]using hj⟩
     ·cases hj
    refine⟨(vs'.toList.drop off).take (len*sz),⟨.inr ⟨_,hu⟩,rfl,ku (by simp;omega) (λ j u hj=>by rw[eR hh'];exact(hget j u hj).2),by simp;omega⟩,⟨by simp;omega,λ u hu'=> ?_,λ j y u hy hj=> ?_⟩⟩
    ·obtain⟨j,hj,rfl⟩:=bF hu'
     obtain⟨h1,h2⟩:=hget j _ (ap hj)
     obtain⟨v,h3,h4,_⟩:=hcs (off+j) (cs.getD (off+j) .o) (fv (by omega))
     rw[h2]at h3;injection h3 with h3;rw[h3];exact h4
    ·obtain⟨h1,h2⟩:=hget j u hj
     simp only[cE,if_pos h1,bE]at hy
     obtain⟨v,h3,_,h5⟩:=hcs (off+j) y hy
     rw[h2]at h3;injection h3 with h3;rw[h3];exact h5
   ·exact⟨[],⟨.inr ⟨_,hu⟩,rfl,λ w' _=>rfl,by simp⟩,⟨by simp,by simp,λ i x u hx=>by simp at hx⟩⟩
  ·cases h
 ·cases h

theorem wZ(hI:Inv G U Z w){s:Nat}{tx:TypeId}{x:A}{p:Prop}{m:Nat}{news:List A}(h:u1 P Z s tx x=some (p,m,news)):jo Z.length news=true:=by
 unfold u1 at h
 split at h
 ·injection h with h;injection h with e1 e2;injection e2 with e2 e3
  subst e3
  exact gI λ y hy=>by
   obtain⟨z,_,hz⟩:=gJ.1 hy
   obtain⟨u,_,rfl⟩:=aI.1 hz
   rfl
 ·injection h with h;injection h with e1 e2;injection e2 with e2 e3
  subst e3;rfl
 ·injection h with h;injection h with e1 e2;injection e2 with e2 e3
  subst e3
  exact gI λ y hy=>by
   obtain⟨u,_,rfl⟩:=aI.1 hy
   rfl
 ·split at h
  ·rename_i hσ
   injection h with h;injection h with e1 e2;injection e2 with e2 e3
   subst e3
   have hb:=hI.bd _ _ hσ
   exact gI λ y hy=>gD hb y (gq (dW hy))
  ·cases h
 ·cases h
end
end Go.Ab
