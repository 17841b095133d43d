import Derived.Test.YtdpdbokicanpoaaGreatDoorAbK
import Derived.Test.YtdpdbokicanpoaaGreatDoorAbWrite3
set_option linter.unusedSimpArgs false
set_option linter.unusedVariables false
set_option maxHeartbeats 64000000
namespace Go.Ab
open Go Go.RowKit
section
variable {P:Program} {U U':gM} {w w':World} {Z:St} {G:Glob}

theorem Inv.rename(hI:Inv G U Z w){id b:Nat}{o:Ob}(hid:U[id]? =some (.live b))(hσ:Z[id]? =some (some o)):
  Ext U w (U.set id .dead++[.live b]) w∧Inv G (U.set id .dead++[.live b]) (Z.set id none++[some o]) w:=by
 have hidl:id<U.length:=(aA.1 hid).1
 have hget:∀(i k:Nat),(U.set id .dead++[Rs.live b])[i]? =some (.live k)→(i<U.length∧i≠id∧U[i]? =some (.live k))∨(i=U.length∧k=b):=λ i k h=>by
  by_cases hil:i<U.length
  ·rw[aq (by simpa using hil),aR]at h
   split at h
   ·injection h with h;cases h
   ·rename_i hne;exact .inl ⟨hil,λ e=>hne e.symm,h⟩
  ·rw[az (by simp;omega)]at h
   have e0:i - (U.set id .dead).length=0:=by
    have:=(aA.1 h).1
    simp at this ⊢;omega
   rw[e0]at h
   simp at h
   have:=e0
   simp at this
   exact .inr ⟨by omega,h.symm⟩
 have hx:Ext U w (U.set id .dead++[.live b]) w:=by
  refine⟨rfl,rfl,rfl,aE _,by simp,λ i r h=> ?_,λ k ⟨i,h⟩ _=> ?_,λ _ _ _=>rfl,λ _ vs _ _ h=>⟨vs,h,rfl⟩⟩
  ·have hil:i<U.length:=(aA.1 h).1
   rw[aq (by simpa using hil),aR]
   split
   ·exact .inr rfl
   ·exact .inl h
  ·rcases hget i k h with⟨_,_,h⟩|⟨_,h⟩
   ·exact⟨i,h⟩
   ·rw[h];exact⟨id,hid⟩
 have hobj:=hI.obj id o hσ
 refine⟨hx,by simp [hI.len],λ i j k h1 h2=> ?_,λ i k h=> ?_,λ i o' h=> ?_,λ g x h=>(hI.glob g x h).ext hx,by
  rw[aF,aH]
  exact((hI.bd.set id λ o h=>by cases h).mono (by simp)).snoc (λ o' h=>by injection h with h;subst h;exact Ob.bd_mono (by simp) _ (hI.bd id _ hσ)),λ k ⟨i,h⟩=>by
  rcases hget i k h with⟨_,_,h⟩|⟨_,h⟩
  ·exact hI.own k ⟨i,h⟩
  ·rw[h];exact hI.own b ⟨id,hid⟩⟩
 ·rcases hget i k h1 with⟨a1,a2,a3⟩|⟨a1,a2⟩<;> rcases hget j k h2 with⟨b1,b2,b3⟩|⟨b1,b2⟩
  ·exact hI.inj i j k a3 b3
  ·exact(a2 (hI.inj i id k a3 (by rw[b2];exact hid))).elim
  ·exact(b2 (hI.inj j id k b3 (by rw[a2];exact hid))).elim
  ·omega
 ·rcases hget i k h with⟨_,_,h⟩|⟨_,h⟩
  ·exact hI.lt i k h
  ·rw[h];exact hI.lt id b hid
 ·by_cases hil:i<Z.length
  ·rw[aq (by simpa using hil),aR]at h
   split at h
   ·split at h<;> cases h
   ·rename_i hne
    have hiρ:i<U.length:=by rw[hI.len];exact hil
    have e:(U.set id .dead++[Rs.live b])[i]? =U[i]? :=by
     rw[aq (by simpa using hiρ),aR,if_neg hne]
    rcases hI.obj i o' h with⟨k,h1,h2⟩|⟨h1,h2⟩
    ·exact .inl ⟨k,e.trans h1,h2.keep hx rfl⟩
    ·exact .inr ⟨e.trans h1,h2⟩
  ·rw[az (by simp;omega)]at h
   have e0:i - (Z.set id none).length=0:=by
    have:=(aA.1 h).1
    simp at this ⊢;omega
   rw[e0]at h
   simp at h
   subst h
   have e1:i=(U.set id .dead).length:=by simp [hI.len];simp at e0;omega
   rcases hobj with⟨k,h1,h2⟩|⟨h1,h2⟩
   ·rw[hid]at h1;injection h1 with h1;injection h1 with h1;subst h1
    exact .inl ⟨b,by rw[e1];exact dF,h2.keep hx rfl⟩
   ·rw[hid]at h1;injection h1 with h1;cases h1

theorem jJ.ext{cs:List A}{vs:List Value}(h:jJ U w cs vs)(hx:Ext U w U' w'):jJ U' w' cs vs:=⟨h.1,h.2.1,λ i x u a b=>(h.2.2 i x u a b).ext hx⟩
theorem jJ.append{cs ds:List A}{vs us:List Value}(h:jJ U w cs vs)(k:jJ U w ds us):jJ U w (cs++ds) (vs++us):=by
 refine⟨by simp [h.1,k.1],λ u hu=> ?_,λ i x u hx hu=> ?_⟩
 ·rcases aW.1 hu with hu|hu
  ·exact h.2.1 u hu
  ·exact k.2.1 u hu
 ·by_cases hi:i<cs.length
  ·rw[aq hi]at hx
   rw[aq (by have:=h.1;omega)]at hu
   exact h.2.2 i x u hx hu
  ·rw[az (by omega)]at hx
   rw[az (by have:=h.1;omega),←h.1]at hu
   exact k.2.2 _ x u hx hu

theorem rm(hI:Inv G U Z w){e:TypeId}{cs:List A}{vs:List Value}(hbd:jo Z.length cs=true)(hS:jJ U w cs vs)(rest:Array Value):
  Ext U w (U++[.live w.heap.size]) (w.drew.alloc (.cells (vs.toArray++rest) e))∧Inv G (U++[.live w.heap.size]) (Z++[some (.cells cs)]) (w.drew.alloc (.cells (vs.toArray++rest) e)):=by
 have h1:=hI.ext_same (Ext.drew U w) rfl
 obtain⟨hx,hI'⟩:=h1.push (ob:= .cells (vs.toArray++rest) e) (o:= .cells cs) (gW (Nat.le_succ _) cs hbd) (λ U' w' hx hb=>⟨_,e,hb,by simp [←hS.1],λ i x hx'=>by
  have hi:i<vs.length:=by have:=(aA.1 hx').1;have:=hS.1;omega
  refine⟨vs[i],by simp [Array.getElem?_append,hi],hS.2.1 _ (bI hi),((hS.2.2 i x _ hx' (ap hi)).ext (Ext.drew U w)).ext hx⟩⟩) (λ ds h=>by cases h)
 exact⟨(Ext.drew U w).trans hx,hI'⟩

theorem sZ{t tx ty:TypeId}{a x:A}{u v:Value}{k:Prop→A→St→Prop}(hI:Inv G U Z w)(ha:RepA U w a u)(hx:RepA U w x v)(h:gR P Z t tx a x k):
  qF P G U w (Builtin.append_ #[t,tx] ty #[u,v]) k:=by
 unfold gR at h
 split at h
 case h_2=>exact h.elim
 rename_i e s bytes zs hmk
 obtain⟨i,z,hu,hs,hi,hz,rfl,hzl,p0,_,rfl⟩:=l8 hmk
 split at h
 case h_2=>exact h.elim
 rename_i p m news hsrc
 have hsz:i.size=s:=by rw[←hs];simp [Program.cellsOf,hi]
 have hzs:z.cells.size=s:=by simpa using hzl
 -- onto a nil slice
 have onNil:p→m≤maxLen→m*i.bytes≤140737488355328→∃v' r w',(Builtin.append_ #[t,tx] ty #[.slice none 0 0,v]).run P w= .ok v' w'∧Ext U w (U++[r]) w'∧
   Inv G (U++[r]) (Z++[some (.cells news)]) w'∧((r= .empty∧m=0∧v'= .slice none 0 0)∨∃b cap vs,r= .live b∧v'= .slice (some ⟨b,0,none⟩) m cap∧w'.heap[b]? =some (.cells vs e (0,0))∧m≤cap∧vs.size=cap*s∧cap≤maxLen):=λ p1 p3 p4=>by
  obtain⟨us,hS,hsame⟩:=pd hI hx hsrc p1
  rw[←hsz]at hS
  by_cases hm:m=0
  ·subst hm
   have hus:us=[]:=bz (by simpa using hS.size)
   subst hus
   have hnews:news=[]:=bz hsame.1
   subst hnews
   obtain⟨h1,h2⟩:=hI.pushEmpty
   refine⟨.slice none 0 0,_,w,?_,h1,h2,.inl ⟨rfl,rfl,rfl⟩⟩
   rcases hS.type with hd|⟨d,hd⟩<;> simp [Builtin.append_,run_underlying hu,run_underlying hd,sizeOf,typeInfo,hi,hS.len,hS.cells w rfl]
  ·have hrun:=nl (P:=P) (w:=w) (ty:=ty) hu hi hz hS (base:=none) (n:=0) (cap:=0) (olds:=[]) (λ w' _=>rfl) (by omega) (by simp only[maxLen]at p3;omega) (growslice_fits (by omega) (by simpa using p4))
   simp only[ci]at hrun
   obtain⟨h1,h2⟩:=rm (e:=e) hI (wZ hI hsrc) hsame (Builtin.zeroCells z.cells (grownCap w m 0 e - m))
   have hge:=grownCap_ge w m 0 e
   have hcm:grownCap w m 0 e≤maxLen:=grownCap_le_maxLen w m 0 e p3
   refine⟨_,_,_,hrun,by simpa using h1,by simpa using h2,.inr ⟨_,_,_,rfl,rfl,heap_alloc_new _ _,hge,?_,hcm⟩⟩
   simp only[Array.size_append,List.size_toArray,aj,ci,size_zeroCells,hS.size,hzs,hsz,←fL]
   congr 1;omega
 split at h
 ·refine⟨_,_,_,h,λ ⟨p1,p2,p3⟩=> ?_⟩
  have hu':u= .slice none 0 0:=by cases ha with|d ha=>cases ha;rfl
  subst hu'
  obtain⟨v',r,w',hr,hE,hI',hv⟩:=onNil p1 p2 p3
  refine⟨v',_,w',hr,hE,hI',?_⟩
  have hr':(U++[r])[Z.length]? =some r:=by rw[←hI.len];exact dF
  rcases hv with⟨rfl,rfl,rfl⟩|⟨b,cap,vs,rfl,rfl,h1,h2,h3,h4⟩
  ·exact .rsEmpty _ _ hr'
  ·exact .rs hr' h1 h2 (by omega) (λ e' he'=>by injection he' with he';subst he';exact⟨rfl,rfl,h3,h4⟩)
 ·rename_i id sz off len ow
  split at h
  ·rename_i cs hσ
   refine⟨_,_,_,h,λ ⟨p1,p2,p3,p4,p5,p6,p7⟩=> ?_⟩
   subst p2;subst p3;subst p4
   rcases kB hI (aO hσ) ha with⟨b,cap,vs,e',z',hb,rfl,hh,hcap,hfit,ho⟩|⟨hb,_,rfl,rfl⟩
   ·obtain⟨rfl,_,hvs,hcm⟩:=ho _ rfl
    rcases lW hI hσ with⟨b',vs',et,hb',hh',hlen,hcs⟩|⟨he',_⟩
    case inr=>rw[hb]at he';injection he' with he';cases he'
    rw[hb]at hb';injection hb' with hb';injection hb' with hb';subst hb'
    rw[hh]at hh';injection hh' with hh';injection hh' with e1 e2 e3;subst e1;subst e2;subst e3
    obtain⟨us,hS,hsame⟩:=pd hI hx hsrc p1
    rw[←hsz]at hS
    have hold:jJ U w cs (vs.toList.take cs.length):=⟨by simp;omega,λ u hu'=>by
      obtain⟨j,hj,rfl⟩:=bF hu'
      have hj':j<cs.length:=by simp at hj;omega
      obtain⟨v,h1,h2,_⟩:=hcs j (cs.getD j .o) (fv hj')
      have:(vs.toList.take cs.length)[j]=v:=by
       have h3:=(cL.1 h1).2
       simpa using h3
      rw[this];exact h2,λ j x u hx' hu'=>by
      have hj':j<cs.length:=(aA.1 hx').1
      obtain⟨v,h1,_,h3⟩:=hcs j x hx'
      rw[bL hj',bP,h1]at hu'
      injection hu' with hu';subst hu';exact h3⟩
    have hall:=hold.append hsame
    have hbdall:jo Z.length (cs++news)=true:=BF (hI.bd id _ hσ) (wZ hI hsrc)
    by_cases hroom:len+m≤cap
    ·have hmul:(len+m)*sz≤cap*sz:=fp _ hroom
     rw[fL]at hmul
     have husz:us.length=m*sz:=by rw[hS.size,hsz]
     have hrun:=oL (P:=P) (w:=w) (ty:=ty) hu hi hS hh hsame.2.1 hroom (by rw[hsz];omega)
     rw[hsz]at hrun
     obtain⟨hE,hI1⟩:=hI.write (vs':=(vs.toList.take (len*sz)++us++vs.toList.drop (len*sz+us.length)).toArray) (cs:=cs++news) hb hh rfl (by simp;omega) hbdall (by have:=hall.1;simp at this ⊢;omega)
      (λ j y hy=>by
       have hj:j<(cs++news).length:=(aA.1 hy).1
       have hj2:j<(vs.toList.take cs.length++us).length:=by rw[←hall.1];exact hj
       refine⟨_,?_,hall.2.1 _ (bI hj2),hall.2.2 j y _ hy (ap hj2)⟩
       rw[←p5,cY,aq hj2]
       exact ap hj2)
     obtain⟨hE2,hI2⟩:=hI1.rename (o:= .cells (cs++news)) hb (by rw[aR,if_pos rfl,if_pos (aA.1 hσ).1])
     refine⟨_,_,_,hrun,hE.trans hE2,by simpa using hI2,?_⟩
     refine .rs (b:=b) (by
                 rw[←hI.len];have:U.length=(U.set id .dead).length:=by simp
                 rw[this];exact dF) (setRow_heap w b vs _ e _ hh) hroom (by simp;omega) (λ e' he'=>by
      injection he' with he';subst he';exact⟨rfl,rfl,by simp;omega,hcm⟩)
    ·have hrun:=nl (P:=P) (w:=w) (ty:=ty) hu hi hz hS (base:=some ⟨b,0,none⟩) (n:=len) (cap:=cap) (olds:=vs.toList.take cs.length)
      (ku (by rw[hsz];simp;omega) (λ j v hj=>by
       rw[eR hh]
       simp only[cE]at hj
       split at hj
       ·simpa using hj
       ·cases hj)) (by omega) (by simp only[maxLen]at p6;omega) (growslice_fits (by omega) p7)
     obtain⟨k1,k2⟩:=hI.kill id
     obtain⟨h1,h2⟩:=rm (e:=e) k2 (by rw[aH];exact hbdall) (hall.ext k1) (Builtin.zeroCells z.cells (grownCap w (len+m) cap e - (len+m)))
     have hge:=grownCap_ge w (len+m) cap e
     have hcm':grownCap w (len+m) cap e≤maxLen:=grownCap_le_maxLen w (len+m) cap e p6
     have harr:((vs.toList.take cs.length).toArray++us.toArray)=(vs.toList.take cs.length++us).toArray:=by simp
     rw[harr]at hrun
     have hl2:(vs.toList.take cs.length++us).length=(len+m)*sz:=by
      rw[←hall.1,aF,p5,hsame.1,hS.size,hsz,fL]
     refine⟨_,_,_,hrun,k1.trans h1,h2,?_⟩
     have hvsz:(((vs.toList.take cs.length++us).toArray)++Builtin.zeroCells z.cells (grownCap w (len+m) cap e - (len+m))).size=grownCap w (len+m) cap e*sz:=by
      rw[Array.size_append,List.size_toArray,hl2,size_zeroCells,hzs,←fL]
      congr 1;omega
     refine .rs (b:=w.heap.size) (by
                      rw[←hI.len];have:U.length=(U.set id .dead).length:=by simp
                      rw[this];exact dF) (heap_alloc_new w.drew _) hge (by rw[hvsz];omega) (λ e' he'=>by
      injection he' with he';subst he';exact⟨rfl,rfl,hvsz,hcm'⟩)
   ·obtain⟨v',r,w',hr,hE,hI',hv⟩:=onNil p1 (by omega) (by simpa using p7)
    have hcs:cs=[]:=bz (by simpa using p5)
    subst hcs
    obtain⟨k1,k2⟩:=hI'.kill id
    have hid:id<Z.length:=(aA.1 hσ).1
    have e1:(U++[r]).set id .dead=U.set id .dead++[r]:=dN _ _ (by rw[hI.len];exact hid)
    have e2:(Z++[some (Ob.cells news)]).set id none=Z.set id none++[some (.cells news)]:=dN _ _ hid
    rw[e1]at k1 k2
    rw[e2]at k2
    refine⟨v',_,w',hr,hE.trans k1,by simpa using k2,?_⟩
    have hr':(U.set id .dead++[r])[Z.length]? =some r:=by
     rw[←hI.len];have:U.length=(U.set id .dead).length:=by simp
     rw[this];exact dF
    rw[ci]
    rcases hv with⟨rfl,rfl,rfl⟩|⟨b,cap,vs,rfl,rfl,h1,h2,h3,h4⟩
    ·exact .rsEmpty _ _ hr'
    ·exact .rs hr' h1 h2 (by omega) (λ e' he'=>by injection he' with he';subst he';exact⟨rfl,rfl,h3,h4⟩)
  ·exact h.elim
 ·exact h.elim
def Bb(P:Program)(t:TypeId):Bool:=match P.underlying t with
 |some (.int _)=>true
 |_=>false
theorem sj{t tx ty e:TypeId}{i:TypeInfo}{z:Value}(ht:P.underlying t=some (.slice e))(hi:P.info? e=some i)(hz:i.zero=some z)(htx:Bb P tx=true){ik:IntKind}{n:Int}{m:Nat}(hm:n=m)(h0:0<m)(h1:m≤maxLen)(hs:0<i.size)(hb:m*i.bytes≤140737488355328):
  (Builtin.append_ #[t,tx] ty #[.slice none 0 0,.int ik n]).run P w=
   .ok (.slice (some ⟨w.heap.size,0,none⟩) m (grownCap w m 0 e)) (w.drew.alloc (.cells (Builtin.zeroCells z.cells m++Builtin.zeroCells z.cells (grownCap w m 0 e - m)) e)):=by
 subst hm
 unfold Bb at htx
 split at htx
 case h_2=>cases htx
 rename_i jk hd
 simp only[maxLen]at h1
 have hw:IntKind.i64.wrap (m:Int)=(m:Int):=by rw[IntKind.wrap_i64];omega
 have hn:¬(m≤0):=by omega
 have h63':¬(9223372036854775807<(m:Int)):=by omega
 have hlt:¬((m:Int)<0):=by omega
 have h48:¬(281474976710656<(m:Int)*(i.bytes:Int)):=by
  have:(m:Int)*(i.bytes:Int)=((m*i.bytes:Nat):Int):=by simp
  omega
 have hms:¬(m=0):=by omega
 have hss:¬(i.size=0):=by omega
 have h48':¬(281474976710656<Builtin.nextslicecap m 0*i.bytes):=Nat.not_lt.2 (growslice_fits (by omega) hb)
 simp [Builtin.append_,run_underlying ht,run_underlying hd,sizeOf,typeInfo,zeroValue,hi,hz,hw,hn,h63',hlt,h48,hms,hss,h48',Question.forced,newRow,grownCap,asInt,asIntOf,Builtin.firstCells]
 intro hc
 exact absurd hc (Nat.mul_ne_zero hms hss)
def qI(P:Program)(Z:St)(t tx:TypeId)(a:A)(n:Int)(k:Prop→A→St→Prop):Prop:=match a with
 | .d .nils=>match pp P t with
  |some (e,s,bytes,_)=>k (Bb P tx=true∧0<n∧n.toNat≤maxLen∧n.toNat*bytes≤140737488355328) (.rs Z.length s 0 n.toNat (some e)) (Z++[some (.cells [])])
  |none=>False
 |_=>False
theorem wM{t tx ty:TypeId}{a:A}{n:Int}{ik:IntKind}{u:Value}{k:Prop→A→St→Prop}(hI:Inv G U Z w)(ha:RepA U w a u)(h:qI P Z t tx a n k):
  qF P G U w (Builtin.append_ #[t,tx] ty #[u,.int ik n]) k:=by
 unfold qI at h
 split at h
 case h_2=>exact h.elim
 split at h
 case h_2=>exact h.elim
 rename_i e s bytes zs hmk
 obtain⟨i,z,hu,hs,hi,hz,rfl,hzl,p0,_,rfl⟩:=l8 hmk
 refine⟨_,_,_,h,λ ⟨p1,p2,p3,p4⟩=> ?_⟩
 have hu':u= .slice none 0 0:=by cases ha with|d ha=>cases ha;rfl
 subst hu'
 have hsz:i.size=s:=by rw[←hs];simp [Program.cellsOf,hi]
 have hzs:z.cells.size=s:=by simpa using hzl
 have hrun:=sj (P:=P) (w:=w) (t:=t) (tx:=tx) (ty:=ty) (ik:=ik) (n:=n) (m:=n.toNat) hu hi hz p1 (by omega) (by omega) p3 (by omega) p4
 obtain⟨h1,h2⟩:=rm (e:=e) (cs:=[]) (vs:=[]) hI rfl ⟨rfl,λ u hu=>by(cases hu),λ j x u hx hu=>by simp at hx⟩ (Builtin.zeroCells z.cells n.toNat++Builtin.zeroCells z.cells (grownCap w n.toNat 0 e - n.toNat))
 have hge:=grownCap_ge w n.toNat 0 e
 have hcm:grownCap w n.toNat 0 e≤maxLen:=grownCap_le_maxLen w n.toNat 0 e p3
 have e0:(([]:List Value).toArray++(Builtin.zeroCells z.cells n.toNat++Builtin.zeroCells z.cells (grownCap w n.toNat 0 e - n.toNat)))=(Builtin.zeroCells z.cells n.toNat++Builtin.zeroCells z.cells (grownCap w n.toNat 0 e - n.toNat)):=by simp
 rw[e0]at h1 h2
 have hsize:(Builtin.zeroCells z.cells n.toNat++Builtin.zeroCells z.cells (grownCap w n.toNat 0 e - n.toNat)).size=grownCap w n.toNat 0 e*s:=by
  rw[Array.size_append,size_zeroCells,size_zeroCells,hzs,←fL]
  congr 1;omega
 refine⟨_,_,_,hrun,h1,h2,.rs (b:=w.heap.size) (by rw[←hI.len];exact dF) (heap_alloc_new _ _) hge (by rw[hsize];omega) (λ e' he'=>by
  injection he' with he';subst he';exact⟨rfl,rfl,hsize,hcm⟩)⟩
end
end Go.Ab
