import Derived.Test.YtdpdbokicanpoaaGreatDoorZ33
set_option linter.unusedSimpArgs false
set_option linter.unusedVariables false
set_option maxHeartbeats 64000000
set_option maxRecDepth 100000
namespace Go.Proofs.YtdpdbokicanpoaaGreatDoor
section
open Go Go.Ab
def lj(l:List (List UInt8)):List (D×A):=l.map λ s=>(.str s,.d (.agg []))
theorem pA(s:List UInt8):∀l:List (List UInt8),ja (.str s) (lj l)=some (if s∈l then some (.d (.agg []))else none)
 |[]=>rfl
 |x::l=>by
  have ih:=pA s l
  simp only[lj,aM,ja,ll,if_true]at ih ⊢
  by_cases hx:s=x
  ·subst hx;simp
  ·have h1:(s==x)=false:=by simpa using hx
   rw[h1]
   simp only
   rw[ih]
   simp [hx]
theorem vE(s:List UInt8):∀l:List (List UInt8),nk (.str s) (.d (.agg [])) (lj l)=lj (if s∈l then l else l++[s])
 |[]=>rfl
 |x::l=>by
  have ih:=vE s l
  simp only[lj,aM,nk,ll,if_true]at ih ⊢
  by_cases hx:s=x
  ·subst hx;simp
  ·have h1:(s==x)=false:=by simpa using hx
   rw[h1]
   simp only
   rw[ih]
   by_cases h:s∈l<;> simp [h,hx]
theorem pP:pO Tryz.prog 192=some (.d (.agg [])):=by kernel_rfl
theorem plain9(s:List UInt8):gP Tryz.prog 9 (.str s)=true:=rfl
theorem A6(s:List UInt8)(l:List (List UInt8))(h:s∉l):rZ true (.str s) (some (.d (.agg []))) (lj l)=some (.tup [.d (.agg []),db false]):=by
 simp only[rZ,pA,if_neg h];rfl
theorem ret_junk{n0:Nat}{G:Glob}{Z junk:St}{x:D}{R:A→St→Prop}(hn:n0≤Z.length)(hbd:Bd Z.length Z)(h:R (.d x) Z):∃r Z',bw G n0 [.d x] (Z++junk) [r] Z'∧R r Z':=by
 have:=bw.keep (G:=G) (n0:=n0) (fr:=[A.d x]) (Z:=Z) (l:=junk) [] (by decide) hn hbd
 refine⟨_,_,this,?_⟩
 simp only[iC,bq,bt]
 exact h
theorem wW(L:List (List UInt8))(s:List UInt8)(hn:s∉L)(id:Nat)(Z:St)(hσ:Z[id]? =some (some (.map (lj L))))(G:Glob)(R:A→St→Prop)(h:R (db false) (Z.set id (some (.map (lj (L++[s])))))):AC Tryz.prog G 128 [.mapr id,.d (.str s)] Z R:=by
 have h1:(Z++[some (Ob.cells [])])[id]? =some (some (.map (lj L))):=by rw[aq (aA.1 hσ).1];exact hσ
 have h2:(Z++[some (Ob.cells [])]).set id (some (.map (lj (L++[s]))))=Z.set id (some (.map (lj (L++[s]))))++[some (Ob.cells [])]:=dN _ _ (aA.1 hσ).1
 refine bg a9 Tryz.func128 rfl Tryz.ntmps128 (by simp only[go_sem]) λ hbd=> ?_
 simp only[ae,aj,Nat.reduceAdd,Nat.reduceSub,af,ag,ah,ak]
 simp only[go_sem,sJ hσ,aO hσ,pP,plain9,A6 s L hn,sJ h1,aO h1,vE,if_neg hn,pA,eF,h2]
 refine ret_junk (by rw[aH];exact aE _) ?_ h
 rw[aH]
 exact hbd.set _ λ o ho=>by
  injection ho with ho;subst ho
  simp [Ob.bd,lj,A.bd]
theorem nB{α β:Type}{f:α→β}{l:List α}{j:Nat}(d:α)(hj:j<l.length)(h:(l.map f).Nodup):f (l.getD j d)∉(l.take j).map f:=λ hm=>by
 obtain⟨x,hx,e⟩:=aI.1 hm
 obtain⟨k,hk,e'⟩:=dm.1 hx
 rw[aP]at hk
 refine ou (f:=f) (k:=k) d (by omega) hj ?_ h
 rw[←e,←e',List.getElem_take,au,ap (by omega)];rfl
theorem limits_p(p:Prg)(hp:p.Small)(Z:St)(G:Glob)(R:A→St→Prop)(h:R (.tup [di 0,di (-1)]) Z):AC Tryz.prog G 94 [.d (bK p)] Z R:=by
 have h1:=hp.ncel
 have h2:=hp.nmod
 have h3:=hp.nlck
 have h4:=hp.nthr
 have d1:decide ((p.cells.length:Int) > 32)=false:=by simp;omega
 have d2:decide ((p.modules.length:Int) > 6)=false:=by simp;omega
 have d3:decide ((p.locks.length:Int) > 4)=false:=by simp;omega
 have d4:decide ((p.threads.length:Int) > 4)=false:=by simp;omega
 have d1':decide ((32:Int)<(p.cells.length:Int))=false:=by simp;omega
 have d2':decide ((6:Int)<(p.modules.length:Int))=false:=by simp;omega
 have d3':decide ((4:Int)<(p.locks.length:Int))=false:=by simp;omega
 have d4':decide ((4:Int)<(p.threads.length:Int))=false:=by simp;omega
 unfold bK
 refine bg a9 Tryz.func94 rfl Tryz.ntmps94 (by simp only[go_sem]) λ hbd=> ?_
 simp only[ae,aj,Nat.reduceAdd,Nat.reduceSub,af,ag,ah,ak]
 simp only[aY,go_sem,d1,d2,d3,d4,d1',d2',d3',d4',ac]
 refine aS (λ m fr st=>∃j:Nat,j≤p.threads.length∧m=p.threads.length - j∧fr=D6 %[.d (.sl 7 (p.threads.map c8)),dn p.threads.length,dn j|D5 [.o,.o,.o,.o,.o]]∧st=Z) p.threads.length _ ?_ ?_
 ·exact Wk.keep [32,33,34] [] (by decide) (aE _) hbd ⟨0,by omega,by omega,by simp only[go_sem];rfl,by simp only[go_sem,bt]⟩
 rintro m fr st ⟨j,hj,hm,rfl,rfl⟩
 rcases aC j p.threads.length with hlt|hge
 ·have hd:decide ((j:Int)<(p.threads.length:Int))=true:=by simp;omega
  have w2:=bC j (by omega)
  have e2:=fe (l:=p.threads) hlt
  have hs:=hp.threads _ (bT fg hlt)
  generalize p.threads.getD j fg=x at e2 hs
  obtain⟨s1,s2,s3,s4,s5,s6,s7,s8⟩:=hs
  have d1:decide (x.points > 48)=false:=by simp;omega
  have d2:decide ((x.steps.length:Int) > 64)=false:=by simp;omega
  have d3:decide ((x.loops.length:Int) > 8)=false:=by simp;omega
  have d1':decide ((48:Int)<x.points)=false:=by simp;omega
  have d2':decide ((64:Int)<(x.steps.length:Int))=false:=by simp;omega
  have d3':decide ((8:Int)<(x.loops.length:Int))=false:=by simp;omega
  simp only[go_sem,hd,w2,e2,c8,d1,d2,d3,d1',d2',d3',ac,ad]
  exact⟨⟨by omega,by omega⟩,Wk.keep [32,33,34] [] (by decide) (aE _) hbd ⟨p.threads.length - (j+1),by omega,j+1,by omega,by simp only[go_sem],by simp only[go_sem,bt]⟩⟩
 ·have hd:decide ((j:Int)<(p.threads.length:Int))=false:=by simp;omega
  simp only[go_sem,hd,ac]
  exact⟨_,_,bw.refl _ _ _ _,h⟩
theorem nq(n:Nat)(p:List Nat)(l:List (List UInt8)):Ob.ren n p (.map (lj l))= .map (lj l):=by
 simp only[Ob.ren,lj,dZ];rfl
theorem shl1{w:Int}(h:1≤w∧w≤8):IntKind.i64.wrap (1*2^min (IntKind.u64.wrap w).toNat 64)=2^w.toNat:=by
 obtain⟨h1,h2⟩:=h
 have:w=1∨w=2∨w=3∨w=4∨w=5∨w=6∨w=7∨w=8:=by omega
 rcases this with rfl|rfl|rfl|rfl|rfl|rfl|rfl|rfl<;> rfl
theorem mm{α β:Type}(l:List α)(f:α→β){i:Int}(hr:0≤i∧i<l.length)(Z:St)(G:Glob)(R:A→St→Prop)(h:R (db true) Z):AC Tryz.prog G 127 [di i,di ((l.map f).length:Nat)] Z R:=kK _ _ _ _ _ (by
 have hi:kj i l.length=true:=by simp only[kj,av];exact hr
 rw[ac,hi];exact h)
theorem uf{i n:Int}(h:0≤i∧i<n):kj i n=true:=by simp [kj,h]
theorem cells_p(p:Prg)(hp:p.Small)(hok:p.Ok)(hnm:NamesSz p)(Z:St)(G:Glob)(R:A→St→Prop)(h:R (di 0) Z):AC Tryz.prog G 95 [.d (bK p)] Z R:=by
 have h1:=hp.ncel
 have h2:=hp.nmod
 have h4:=hp.nthr
 unfold bK
 refine bg a9 Tryz.func95 rfl Tryz.ntmps95 (by simp only[go_sem]) λ hbd=> ?_
 simp only[ae,aj,Nat.reduceAdd,Nat.reduceSub,af,ag,ah,ak]
 simp only[aY,go_sem,ac]
 refine aS (λ m fr st=>∃j:Nat,j≤p.cells.length∧m=p.cells.length - j∧fr=%[.o,.ref Z.length 0,.o,.mapr (Z.length+1),.o,.o,.o,.o,.o,.d (aY p.cells),dn p.cells.length,dn j|D6 (D5 [.o,.o])]∧st=Z++[bN p,some (.map (lj ((p.cells.take j).map Cel.name)))]) p.cells.length _ (Wk.mask [1,3,9,10,11] ⟨0,by omega,by omega,rfl,rfl⟩) ?_
 rintro m fr st ⟨j,hj,hm,rfl,rfl⟩
 rcases aC j p.cells.length with hlt|hge
 ·have hd:decide ((j:Int)<(p.cells.length:Int))=true:=by simp;omega
  have w2:=bC j (by omega)
  have e1:=iM (l:=p.cells) hlt
  have hc:=hok.cells _ (bT fU hlt)
  have hnn:=hnm.cells _ (bT fU hlt)
  have hfr:(p.cells.getD j fU).name∉(p.cells.take j).map Cel.name:=nB fU hlt hok.cnames
  have hsn:(p.cells.take (j+1)).map Cel.name=(p.cells.take j).map Cel.name++[(p.cells.getD j fU).name]:=by rw[bG fU hlt,aJ];rfl
  generalize p.cells.getD j fU=c at e1 hc hnn hfr hsn
  obtain⟨c1,c2,c3,c4,c5⟩:=hc
  have hl:=sK c.name hnn c1
  have d1:decide (c.w<1)=false:=by simp;omega
  have d2:decide (c.w > 8)=false:=by simp;omega
  have d2':decide ((8:Int)<c.w)=false:=by simp;omega
  simp only[fb]at e1
  simp only[go_sem,aY,hd,w2,e1,ac,ad]
  refine⟨⟨by omega,by omega⟩,bH (hl _ _ _ ?_)⟩
  simp only[go_sem,d1,d2,d2',ac,ad]
  refine bH (kK _ _ _ _ _ ?_)
  rw[shl1 c2,uf c3]
  have b2:=kK c.mod p.modules.length
  rw[uf c5]at b2
  have ht:=λ id=>wW _ c.name hfr id
  by_cases hth:c.thread= -1
  ·have e0:(c.thread != -1)=false:=by simp [hth]
   simp only[go_sem,e0,ac,ad]
   refine gO (.bool false) ⟨λ q=>Bool.noConfusion q,?_⟩
   simp only[go_sem,e0,ac,ad]
   refine bH (b2 _ _ _ ?_)
   simp only[go_sem,e0,ac,ad]
   refine bH (ht _ _ (by simp) _ _ ?_)
   simp only[go_sem,e0,←hsn,ac,ad]
   exact Wk.keep [1,3,9,10,11] [0,1] (by decide) (aE _) hbd ⟨p.cells.length - (j+1),by omega,j+1,by omega,rfl,by simp only[go_sem,w2,aY],by simp only[go_sem,nq]⟩
  ·have e0:(c.thread != -1)=true:=by simp [hth]
   have b1:=mm p.threads c8 (i:=c.thread) (by omega)
   simp only[go_sem,e0,ac,ad]
   refine gO (.bool true) ⟨λ _=>⟨rfl,bH (b1 _ _ _ ?_)⟩,?_⟩
   ·simp only[go_sem]
   simp only[go_sem,e0,ac,ad]
   refine bH (b2 _ _ _ ?_)
   simp only[go_sem,e0,ac,ad]
   refine bH (ht _ _ (by simp) _ _ ?_)
   simp only[go_sem,e0,←hsn,ac,ad]
   exact Wk.keep [1,3,9,10,11] [0,1] (by decide) (aE _) hbd ⟨p.cells.length - (j+1),by omega,j+1,by omega,rfl,by simp only[go_sem,w2,aY],by simp only[go_sem,nq]⟩
 ·have hd:decide ((j:Int)<(p.cells.length:Int))=false:=by simp;omega
  simp only[go_sem,hd,ac]
  exact aQ hbd h
@[go_sem,go_sem ↓] theorem opG_makeFunc {P:Program} {Z:St} {G:Glob} {e:Operand→A} (c:Bool) (f:Fn) (a b:Array Operand) (k:A→St→Prop):qG P G Z e c (.makeFunc f a b) k=kI P Z e (.makeFunc f a b) λ p z=>(c=true→p)∧k (.grd c z) Z:=(rfl)
@[go_sem,go_sem ↓] theorem rdG_makeFunc {P:Program} {Z:St} {e:Operand→A} (f:Fn) (a b:Array Operand) (k:Prop→A→Prop):kI P Z e (.makeFunc f a b) k=rd P Z (λ x=>(e x).strip) (.makeFunc f a b) λ p z=>k (((Op.makeFunc f a b).operands.toList.all λ x=>(e x).cond)=true∧p) z:=(rfl)
@[go_sem,go_sem ↓] theorem rd_makeFunc {P:Program} {Z:St} {e:Operand→A} (f:Fn) (a b:Array Operand) (k:Prop→A→Prop):rd P Z e (.makeFunc f a b) k=k True (.fn f (a.toList.map e) (b.toList.map e)):=(rfl)
theorem B9{e:Ex}(h:e.Ok):e.kids.length≤reachBytes:=by cases h;assumption
theorem vt{p:Prg}{e:Ex}{pair:Bool}{f:Int→Bool}(h:p.truB e pair f=true):e.w=1∧e.valid p.cells pair=true∧(∀c∈jW 3 e,f c=true)∧∀c∈jW 2 e,f c=true:=by
 simp only[Prg.truB,aB,av]at h
 obtain⟨⟨h1,h2⟩,h3⟩:=h
 obtain⟨_,hd,_⟩:=Ex.valid_iff.1 h2
 exact⟨h1,h2,qD hd |>.1 h3⟩
theorem bitS_p{G:Glob}(hG:G.g 0=some cB)(p:Prg)(hn:p.cells.length≤1000)(e:Ex)(hok:e.Ok)(hn6:e.nodes≤600)(pair:Bool)(h:p.truB e pair p.shB=true)(Z:St)(R:A→St→Prop)(hR:R (db true) Z):
  AC Tryz.prog G 130 [.d (bK p),.d (eD e),db pair,.fn (.func 131) [.d (bK p)] []] Z R:=by
 obtain⟨h1,h2,h3,h4⟩:=vt h
 exact bit_p hG (vA p hn G) p e hok hn6 pair h1 h2 h3 h4 Z trivial R hR
theorem Dh{G:Glob}(hG:G.g 0=some cB)(p:Prg)(hp:p.Small)(hok:p.Ok)(hnm:NamesSz p)(Z:St)(R:A→St→Prop)(h:R (di 0) Z):AC Tryz.prog G 96 [.d (bK p)] Z R:=by
 have h1:=hp.ncel
 have h2:=hp.nmod
 have bs:=bitS_p hG p (by omega)
 have wi:=λ l hl hd=>nc (vA p (by omega) G) l hl hd
 unfold bK at*
 refine bg a9 Tryz.func96 rfl Tryz.ntmps96 (by simp only[go_sem]) λ hbd=> ?_
 simp only[ae,aj,Nat.reduceAdd,Nat.reduceSub,af,ag,ah,ak]
 simp only[aY,go_sem,ac]
 refine aS (λ m fr st=>∃j:Nat,j≤p.modules.length∧m=p.modules.length - j∧fr=%[.o,.ref Z.length 0,.o,.mapr (Z.length+1),.o,.o,.o,.o,.o,.d (.sl 11 (p.modules.map iH)),dn p.modules.length,dn j|D6 (D5 [.o,.o])]∧st=Z++[bN p,some (.map (lj ((p.modules.take j).map Ctr.name)))]) p.modules.length _ (Wk.mask [1,3,9,10,11] ⟨0,by omega,by omega,rfl,rfl⟩) ?_
 rintro m fr st ⟨j,hj,hm,rfl,rfl⟩
 rcases aC j p.modules.length with hlt|hge
 ·have hd:decide ((j:Int)<(p.modules.length:Int))=true:=by simp;omega
  have w2:=bC j (by omega)
  have e1:=xM (l:=p.modules) hlt
  have hc:=hok.modules _ (bT mj hlt)
  have hnn:=hnm.modules _ (bT mj hlt)
  obtain⟨s1,s2,s3⟩:=hp.modules _ (bT mj hlt)
  have hfr:(p.modules.getD j mj).name∉(p.modules.take j).map Ctr.name:=nB mj hlt hok.mnames
  have hsn:(p.modules.take (j+1)).map Ctr.name=(p.modules.take j).map Ctr.name++[(p.modules.getD j mj).name]:=by rw[bG mj hlt,aJ];rfl
  generalize p.modules.getD j mj=x at e1 hc hnn hfr hsn s1 s2 s3
  obtain⟨c1,c2,c3,c4,c5,c6⟩:=hc
  have l1:=sK x.name hnn.1 c1
  have l2:=sK x.owner hnn.2 c2
  have ht:=λ id=>wW _ x.name hfr id
  have hrk:x.rely.Ok:=lF (by assumption)
  have hgk:x.guar.Ok:=lF (by assumption)
  have ha:=absent_p x.rely (B9 hrk)
  have hg:=bs x.guar hgk (by omega) true c4
  have hri:=yF x.frame (by simp only[reachBytes];omega) c6
  have hw:=wi x.frame (by omega) c5
  unfold eD bu at*
  simp only[go_sem,aY,iH,hd,w2,e1,ac,ad]
  refine⟨⟨by omega,by omega⟩,bH (l1 _ _ _ ?_)⟩
  simp only[go_sem,aY,w2,ac,ad]
  refine bH (l2 _ _ _ ?_)
  simp only[go_sem,aY,w2,ac,ad]
  refine bH (ht _ _ (by simp) _ _ ?_)
  simp only[go_sem,aY,←hsn,w2,ac,ad]
  refine bH (ha _ _ _ ?_)
  by_cases hab:x.rely.absent=true
  ·rw[hab]
   simp only[go_sem,aY,w2,ac,ad]
   refine gO (.bool false) ⟨λ q=>Bool.noConfusion q,?_⟩
   simp only[go_sem,aY,w2,ac,ad]
   refine bH (hg _ _ ?_)
   simp only[go_sem,aY,w2,ac,ad]
   refine bH (hri _ _ _ ?_)
   simp only[go_sem,aY,w2,ac,ad]
   refine bH (hw _ trivial _ ?_)
   simp only[go_sem,aY,w2,ac,ad]
   exact Wk.keep [1,3,9,10,11] [0,1] (by decide) (aE _) hbd ⟨p.modules.length - (j+1),by omega,j+1,by omega,rfl,by simp only[go_sem],by simp only[go_sem,nq]⟩
  ·have hab':x.rely.absent=false:=by simpa using hab
   have hr:=bs x.rely hrk (by omega) true (c3.resolve_left hab)
   unfold eD at hr
   rw[hab']
   simp only[go_sem,aY,w2,ac,ad]
   refine gO (.bool true) ⟨λ _=>⟨rfl,bH (hr _ _ ?_)⟩,?_⟩
   ·simp only[go_sem]
   simp only[go_sem,aY,w2,ac,ad]
   refine bH (hg _ _ ?_)
   simp only[go_sem,aY,w2,ac,ad]
   refine bH (hri _ _ _ ?_)
   simp only[go_sem,aY,w2,ac,ad]
   refine bH (hw _ trivial _ ?_)
   simp only[go_sem,aY,w2,ac,ad]
   exact Wk.keep [1,3,9,10,11] [0,1] (by decide) (aE _) hbd ⟨p.modules.length - (j+1),by omega,j+1,by omega,rfl,by simp only[go_sem],by simp only[go_sem,nq]⟩
 ·have hd:decide ((j:Int)<(p.modules.length:Int))=false:=by simp;omega
  simp only[go_sem,hd,ac]
  exact aQ hbd h
def tt(l:List Int):List (D×A):=l.map λ n=>(.int .i64 n,.d (.agg []))
theorem lf(n:Int):∀l:List Int,ja (.int .i64 n) (tt l)=some (if n∈l then some (.d (.agg []))else none)
 |[]=>rfl
 |x::l=>by
  have ih:=lf n l
  simp only[tt,aM,ja,ll,if_true]at ih ⊢
  by_cases hx:n=x
  ·subst hx;simp
  ·have h1:(n==x)=false:=by simpa using hx
   rw[h1]
   simp only
   rw[ih]
   simp [hx]
theorem nW(n:Int):∀l:List Int,nk (.int .i64 n) (.d (.agg [])) (tt l)=tt (if n∈l then l else l++[n])
 |[]=>rfl
 |x::l=>by
  have ih:=nW n l
  simp only[tt,aM,nk,ll,if_true]at ih ⊢
  by_cases hx:n=x
  ·subst hx;simp
  ·have h1:(n==x)=false:=by simpa using hx
   rw[h1]
   simp only
   rw[ih]
   by_cases h:n∈l<;> simp [h,hx]
theorem uc(n:Int)(l:List Int)(h:n∉l):rZ true (.int .i64 n) (some (.d (.agg []))) (tt l)=some (.tup [.d (.agg []),db false]):=by
 simp only[rZ,lf,if_neg h];rfl
theorem yI(n:Nat)(p:List Nat)(l:List Int):Ob.ren n p (.map (tt l))= .map (tt l):=by
 simp only[Ob.ren,tt,dZ];rfl
theorem locks_p{G:Glob}(hG:G.g 0=some cB)(p:Prg)(hp:p.Small)(hok:p.Ok)(Z:St)(R:A→St→Prop)(h:R (di 0) Z):AC Tryz.prog G 97 [.d (bK p)] Z R:=by
 have h1:=hp.ncel
 have h2:=hp.nmod
 have h3:=hp.nlck
 have bs:=bitS_p hG p (by omega)
 have sh:=nj p (by omega)
 unfold bK at*
 refine bg a9 Tryz.func97 rfl Tryz.ntmps97 (by simp only[go_sem]) λ hbd=> ?_
 simp only[ae,aj,Nat.reduceAdd,Nat.reduceSub,af,ag,ah,ak]
 simp only[aY,go_sem,ac]
 refine aS (λ m fr st=>∃j:Nat,j≤p.locks.length∧m=p.locks.length - j∧fr=%[.o,.ref Z.length 0,.o,.mapr (Z.length+1),.o,.o,.o,.o,.o,.o,.o,.d (.sl 6 (p.locks.map iZ)),dn p.locks.length,dn j|D6 (D5 (D4 [.o,.o,.o]))]∧st=Z++[bN p,some (.map (tt ((p.locks.take j).map Lck.cell)))]) p.locks.length _ (Wk.mask [1,3,11,12,13] ⟨0,by omega,by omega,rfl,rfl⟩) ?_
 rintro m fr st ⟨j,hj,hm,rfl,rfl⟩
 rcases aC j p.locks.length with hlt|hge
 ·have hd:decide ((j:Int)<(p.locks.length:Int))=true:=by simp;omega
  have w2:=bC j (by omega)
  have e1:=xw (l:=p.locks) hlt
  have hc:=hok.locks _ (bT mJ hlt)
  have s1:=hp.locks _ (bT mJ hlt)
  have hfr:(p.locks.getD j mJ).cell∉(p.locks.take j).map Lck.cell:=nB mJ hlt hok.lcells
  have hsn:(p.locks.take (j+1)).map Lck.cell=(p.locks.take j).map Lck.cell++[(p.locks.getD j mJ).cell]:=by rw[bG mJ hlt,aJ];rfl
  generalize p.locks.getD j mJ=x at e1 hc hfr hsn s1
  obtain⟨c1,c2,c3,c4,c5⟩:=hc
  obtain⟨hr,ht⟩:=eJ.1 c1
  have e2:=fZ p hr
  have n1:((p.cell x.cell).w !=1)=false:=by simp [c2]
  have hg:=bs x.inv (lF s1) (by omega) false c5
  have hs:=sh x.cell hr
  have hb:=mm p.modules iH c4
  rw[dU ht]at hs
  unfold eD at*
  simp only[go_sem,aY,iZ,hd,w2,e1,ac,ad]
  refine⟨⟨by omega,by omega⟩,bH (hs _ _ _ ?_)⟩
  simp only[go_sem,aY,fb,e2,n1,c3,ac]
  refine⟨hr,hr,?_⟩
  simp only[go_sem,aY,pP,uc _ _ hfr,nW,if_neg hfr,lf,eF,←hsn,ac]
  refine gO (.bool true) ⟨λ _=>⟨rfl,bH (hb _ _ _ ?_)⟩,?_⟩
  ·simp only[go_sem]
  simp only[go_sem,aY,pP,nW,if_neg hfr,lf,eF,←hsn,ac]
  refine bH (hg _ _ ?_)
  simp only[go_sem,w2]
  exact Wk.keep [1,3,11,12,13] [0,1] (by decide) (aE _) hbd ⟨p.locks.length - (j+1),by omega,j+1,by omega,rfl,by simp only[go_sem],by simp only[go_sem,yI]⟩
 ·have hd:decide ((j:Int)<(p.locks.length:Int))=false:=by simp;omega
  simp only[go_sem,hd,ac]
  exact aQ hbd h
mutual
theorem BZ(n:Nat)(p:List Nat):∀(a:A),a.bd n=true→a.ren n p=a
 | .ref id off,h=>by simp only[A.bd,av]at h;simp only[A.ren,iW,if_pos h]
 | .rs id sz off l w,h=>by simp only[A.bd,av]at h;simp only[A.ren,iW,if_pos h]
 | .mapr id,h=>by simp only[A.bd,av]at h;simp only[A.ren,iW,if_pos h]
 | .agg cs,h=>by simp only[A.bd]at h;simp only[A.ren,iz n p cs h]
 | .tup cs,h=>by simp only[A.bd]at h;simp only[A.ren,iz n p cs h]
 | .fn f cs ds,h=>by simp only[A.bd,aB]at h;simp only[A.ren,iz n p cs h.1,iz n p ds h.2]
 | .ifc t a,h=>by simp only[A.bd]at h;simp only[A.ren,BZ n p a h]
 | .d x,h=>rfl
 | .ea x o,h=>rfl
 | .grd _ _,h=>by simp [A.bd]at h
 | .o,h=>rfl
theorem iz(n:Nat)(p:List Nat):∀(l:List A),jo n l=true→Go.Ab.ix n p l=l
 |[],_=>rfl
 |a::r,h=>by simp only[jo,aB]at h;simp only[Go.Ab.ix,BZ n p a h.1,iz n p r h.2]
end
structure Ovr (Dm:Int→Prop) (e:Ex):Prop where
 nodes:e.nodes≤40
 deep:e.deep 40=true
 old:∀c∈jW 3 e,Dm c
 now:∀c∈jW 2 e,Dm c
theorem sH{G:Glob}(hG:G.g 0=some cB){g:FuncId}{first cap:List A}{Dm:Int→Prop}{Pk:St→Prop}(ha:Pred G g first cap Dm Pk){e:Ex}(he:Ovr Dm e)(Z:St)(hp:Pk Z)(R:A→St→Prop)(h:R (db true) Z):
  AC Tryz.prog G 138 [.d (eD e),.fn (.func g) first cap] Z R:=over_p hG ha e (lF he.nodes) (by have:=he.nodes;omega) he.deep he.old he.now Z hp R h
theorem ta{G:Glob}(hG:G.g 0=some cB){g:FuncId}{first cap:List A}{Dm:Int→Prop}{Pk:St→Prop}(ha:Pred G g first cap Dm Pk)(s:Stp)(hn:s.set.length≤100)(hg:Ovr Dm s.guard)(hs:∀a∈s.set,Ovr Dm a.to)(Z:St)(hp:Pk Z)(R:A→St→Prop)(h:R (db true) Z):
  AC Tryz.prog G 177 [.d (eP s),.fn (.func g) first cap] Z R:=by
 have og:=sH hG ha hg
 have hb:=ha.bd _ hp
 rw[aB]at hb
 have oa:=λ a (h:Ovr Dm a)=>sH hG ha h
 unfold eP eD at*
 refine bg a9 Tryz.func177 rfl Tryz.ntmps177 (by simp only[go_sem]) λ hbd=> ?_
 simp only[ae,aj,Nat.reduceAdd,Nat.reduceSub,af,ag,ah,ak]
 try simp only[go_sem]
 refine bH (og _ (ha.keep _ _ hp) _ ?_)
 simp only[go_sem,ac]
 refine aS (λ m fr st=>∃j:Nat,j≤s.set.length∧m=s.set.length - j∧fr=%[.o,.fn (.func g) first cap|D4 %[.o,.o,.o,.d (.sl 5 (s.set.map dM)),dn s.set.length,dn j|D4 [.o]]]∧st=Z) s.set.length _ ?_ ?_
 ·exact Wk.keep [1,13,14,15] [] (by decide) (aE _) hbd ⟨0,by omega,by omega,by simp only[go_sem,iz _ _ _ hb.1,iz _ _ _ hb.2];rfl,by simp only[go_sem,bt]⟩
 rintro m fr st ⟨j,hj,hm,rfl,rfl⟩
 rcases aC j s.set.length with hlt|hge
 ·have hd:decide ((j:Int)<(s.set.length:Int))=true:=by simp;omega
  have w2:=bC j (by omega)
  have e1:=iP (l:=s.set) hlt
  have o1:=oa _ (hs _ (bT dt hlt))
  generalize s.set.getD j dt=a at e1 o1
  simp only[go_sem,dM,hd,w2,e1,ac,ad]
  refine⟨⟨by omega,by omega⟩,bH (o1 _ (ha.keep _ _ hp) _ ?_)⟩
  simp only[go_sem,dM,hd,w2,e1,ac,ad]
  exact Wk.keep [1,13,14,15] [] (by decide) (aE _) hbd ⟨s.set.length - (j+1),by omega,j+1,by omega,rfl,by simp only[go_sem,iz _ _ _ hb.1,iz _ _ _ hb.2],by simp only[go_sem,bt]⟩
 ·have hd:decide ((j:Int)<(s.set.length:Int))=false:=by simp;omega
  simp only[go_sem,hd,ac]
  exact cw h
theorem qM{G:Glob}{g:FuncId}{first cap:List A}{Dm:Int→Prop}{Pk:St→Prop}(ha:Pred G g first cap Dm Pk)(l:List Asg)(hn:l.length≤100)(hs:∀a∈l,Dm a.cell)(Z:St)(hp:Pk Z)(R:A→St→Prop)(h:R (db true) Z):
  AC Tryz.prog G 178 [.d (.sl 5 (l.map dM)),.fn (.func g) first cap] Z R:=by
 have hb:=ha.bd _ hp
 rw[aB]at hb
 refine bg a9 Tryz.func178 rfl Tryz.ntmps178 (by simp only[go_sem]) λ hbd=> ?_
 simp only[ae,aj,Nat.reduceAdd,Nat.reduceSub,af,ag,ah,ak]
 simp only[go_sem,ac]
 refine aS (λ m fr st=>∃j:Nat,j≤l.length∧m=l.length - j∧fr=%[.o,.fn (.func g) first cap,.o,.o,.o,.o,.o,.d (.sl 5 (l.map dM)),dn l.length,dn j|D4 [.o]]∧st=Z) l.length _ (Wk.mask [1,7,8,9] ⟨0,by omega,by omega,rfl,rfl⟩) ?_
 rintro m fr st ⟨j,hj,hm,rfl,rfl⟩
 rcases aC j l.length with hlt|hge
 ·have hd:decide ((j:Int)<(l.length:Int))=true:=by simp;omega
  have w2:=bC j (by omega)
  have e1:=iP (l:=l) hlt
  have o1:=hs _ (bT dt hlt)
  generalize l.getD j dt=a at e1 o1
  simp only[go_sem,dM,hd,w2,e1,ac,ad]
  refine⟨⟨by omega,by omega⟩,bH (ha.ans a.cell _ _ o1 (ha.keep _ _ hp) ?_)⟩
  simp only[go_sem,dM,hd,w2,e1,ac,ad]
  exact Wk.keep [1,7,8,9] [] (by decide) (aE _) hbd ⟨l.length - (j+1),by omega,j+1,by omega,rfl,by simp only[go_sem,iz _ _ _ hb.1,iz _ _ _ hb.2],by simp only[go_sem,bt]⟩
 ·have hd:decide ((j:Int)<(l.length:Int))=false:=by simp;omega
  simp only[go_sem,hd,ac]
  exact cw h
theorem qm(p:Prg)(c:Int)(hc:0≤c∧c<p.cells.length)(Z:St)(G:Glob)(R:A→St→Prop)(h:R (db (p.cell c).ghost) Z):AC Tryz.prog G 179 [.d (bK p),di c] Z R:=by
 have e1:=fZ p hc
 unfold bK
 refine bg a9 Tryz.func179 rfl Tryz.ntmps179 (by simp only[go_sem]) λ hbd=> ?_
 simp only[ae,aj,Nat.reduceAdd,Nat.reduceSub,af,ag,ah,ak]
 simp only[aY,go_sem,e1,fb,ac]
 exact⟨hc,aQ hbd h⟩
theorem bare_p(s:Stp)(hn:s.set.length≤100)(hg:s.guard.nodes≤40)(h1:s.guard.one=true)(h2:s.set=[])(Z:St)(G:Glob)(R:A→St→Prop)(h:R (db true) Z):AC Tryz.prog G 181 [.d (eP s)] Z R:=by
 have o:=one_p s.guard (B9 (lF hg))
 rw[h1]at o
 have e0:((s.set.length:Int)==0)=true:=by rw[h2];rfl
 unfold eP eD at*
 refine bg a9 Tryz.func181 rfl Tryz.ntmps181 (by simp only[go_sem]) λ hbd=> ?_
 simp only[ae,aj,Nat.reduceAdd,Nat.reduceSub,af,ag,ah,ak]
 try simp only[go_sem]
 refine bH (o _ _ _ ?_)
 simp only[go_sem,e0,ac]
 exact aQ hbd h
theorem Ans.app{b:Bool}{G:Glob}{g:FuncId}{first cap:List A}{Dm:Int→Prop}{Pk:St→Prop}(ha:Ans b G g first cap Dm Pk)(c:Int)(st:St)(R:A→St→Prop)(h1:Dm c)(h2:Pk st)(h:R (db b) st):AC Tryz.prog G g (first++[di c]++cap) st R:=by
 rw[aU];exact ha c st R h1 h2 h
theorem store1_p(p:Prg)(t:Int)(hn:p.cells.length≤1000)(G:Glob)(i j:Nat){g:FuncId}{first cap:List A}{Pk:St→Prop}(ha:Pred G g first cap (λ c=>p.viB t c=true) Pk):
  Pred G 180 [] [.ref i 0,.ref j 0] (λ c=>(p.cell c).ghost=true∧p.viB t c=true) λ st=>(st[i]? =some (bN p)∧st[j]? =some (some (.cells [.fn (.func g) first cap])))∧Pk st:=by
 refine⟨?_,λ st l h=>⟨⟨jf h.1.1,jf h.1.2⟩,ha.keep _ _ h.2⟩,λ st h=> ?_⟩
 ·rintro c st R ⟨hg,hc⟩ ⟨⟨h1,h2⟩,h3⟩ h
  have hr:=(jT.1 hc).1
  have hgh:=qm p c hr
  rw[hg]at hgh
  show AC Tryz.prog G 180 [di c,.ref i 0,.ref j 0] st R
  unfold bK at hgh
  refine bg a9 Tryz.func180 rfl Tryz.ntmps180 (by simp only[go_sem]) λ hbd=> ?_
  simp only[ae,aj,Nat.reduceAdd,Nat.reduceSub,af,ag,ah,ak]
  simp only[go_sem,aO h1,aX h1,aO h2,aX h2]
  refine bH (hgh _ _ _ ?_)
  simp only[go_sem,aO h1,aX h1,aO h2,aX h2]
  refine gO (.bool true) ⟨λ _=>⟨rfl,bH (ha.ans.app c _ _ hc h3 ?_)⟩,?_⟩
  ·simp only[go_sem]
  try simp only[go_sem]
  exact cw h
 ·have:=aL h.1.1
  have:=aL h.1.2
  simp only[jo,A.bd]
  simp;omega
structure StpIn (p:Prg) (s:Stp):Prop where
 ncel:p.cells.length≤12
 nmod:p.modules.length≤3
 nthr:p.threads.length≤3
 sm:StpSm s
 gv:s.guard.valid p.cells false=true
 set:∀a∈s.set,AsgOk p a
theorem AZ{p:Prg}{pair:Bool}{f:Int→Bool}{e:Ex}(hn:e.nodes≤40)(hv:e.valid p.cells pair=true)(h:e.allB f=true):Ovr (λ c=>f c=true) e:=by
 obtain⟨_,hd,_⟩:=Ex.valid_iff.1 hv
 obtain⟨h3,h2⟩:=qD hd |>.1 h
 exact⟨hn,hd,h3,h2⟩
theorem StpIn.ovrG{p:Prg}{s:Stp}(h:StpIn p s){f:Int→Bool}(hf:s.guard.allB f=true):Ovr (λ c=>f c=true) s.guard:=AZ h.sm.guard h.gv hf
theorem StpIn.ovrA{p:Prg}{s:Stp}(h:StpIn p s){f:Int→Bool}{a:Asg}(ha:a∈s.set)(hf:a.to.allB f=true):Ovr (λ c=>f c=true) a.to:=AZ (h.sm.to a ha) (h.set a ha).to hf
theorem zN{G:Glob}(hG:G.g 0=some cB)(p:Prg)(t:Int)(s:Stp)(hs:StpIn p s)(h1:s.guard.allB (p.owB t)=true)(h2:∀a∈s.set,a.to.allB (p.owB t)=true∧p.owB t a.cell=true)(Z:St)(R:A→St→Prop)(h:R (db true) Z):
  AC Tryz.prog G 167 [.d (bK p),di t,.d (eP s)] Z R:=by
 have hn:=hs.sm.set
 have own:=B7 p t
 have pr:=xk p t (by have:=hs.ncel;omega) G (Z.length+2) (Z.length+3)
 have hv:=ta hG pr s (by omega) (hs.ovrG h1) (λ a ha=>hs.ovrA ha (h2 a ha).1)
 have ht:=qM pr s.set (by omega) (λ a ha=>(h2 a ha).2)
 unfold eP bK at*
 refine bg a9 Tryz.func167 rfl Tryz.ntmps167 (by simp only[go_sem]) λ hbd=> ?_
 simp only[ae,aj,Nat.reduceAdd,Nat.reduceSub,af,ag,ah,ak]
 try simp only[go_sem]
 refine bH (own _ _ _ ?_)
 try simp only[go_sem]
 refine bH (hv _ ⟨by simp,by simp⟩ _ ?_)
 try simp only[go_sem]
 refine gO (.bool true) ⟨λ _=>⟨rfl,bH (ht _ ⟨by simp,by simp⟩ _ ?_)⟩,?_⟩
 ·simp only[go_sem]
 try simp only[go_sem]
 exact aQ hbd h
theorem xD{G:Glob}(hG:G.g 0=some cB)(p:Prg)(t:Int)(s:Stp)(hs:StpIn p s)(h1:s.guard.allB (p.viB t)=true)(h2:∀a∈s.set,a.to.allB (p.viB t)=true∧p.viB t a.cell=true)(Z:St)(R:A→St→Prop)(h:R (db true) Z):
  AC Tryz.prog G 170 [.d (bK p),di t,.d (eP s)] Z R:=by
 have hn:=hs.sm.set
 have vis:=qK p t
 have pr:=oY p t (by have:=hs.ncel;omega) G (Z.length+2) (Z.length+5) (Z.length+3) (Z.length+4)
 have hv:=ta hG pr s (by omega) (hs.ovrG h1) (λ a ha=>hs.ovrA ha (h2 a ha).1)
 have ht:=qM pr s.set (by omega) (λ a ha=>(h2 a ha).2)
 unfold eP bK at*
 refine bg a9 Tryz.func170 rfl Tryz.ntmps170 (by simp only[go_sem]) λ hbd=> ?_
 simp only[ae,aj,Nat.reduceAdd,Nat.reduceSub,af,ag,ah,ak]
 try simp only[go_sem]
 refine bH (vis _ _ _ ?_)
 try simp only[go_sem]
 refine bH (hv _ ⟨⟨by simp,by simp⟩,by simp,by simp⟩ _ ?_)
 try simp only[go_sem]
 refine gO (.bool true) ⟨λ _=>⟨rfl,bH (ht _ ⟨⟨by simp,by simp⟩,by simp,by simp⟩ _ ?_)⟩,?_⟩
 ·simp only[go_sem]
 try simp only[go_sem]
 exact aQ hbd h
theorem zO{G:Glob}(p:Prg)(t:Int)(s:Stp)(hs:StpIn p s)(h1:s.guard.one=true)(h2:s.set=[])(Z:St)(R:A→St→Prop)(h:R (db true) Z):
  AC Tryz.prog G 171 [.d (bK p),di t,.d (eP s)] Z R:=by
 have hb:=bare_p s (by have:=hs.sm.set;omega) hs.sm.guard h1 h2
 unfold eP bK at*
 refine bg a9 Tryz.func171 rfl Tryz.ntmps171 (by simp only[go_sem]) λ hbd=> ?_
 simp only[ae,aj,Nat.reduceAdd,Nat.reduceSub,af,ag,ah,ak]
 try simp only[go_sem]
 refine bH (hb _ _ _ ?_)
 try simp only[go_sem]
 exact aQ hbd h
theorem uk{G:Glob}(p:Prg)(t:Int)(s:Stp)(hs:StpIn p s)(h1:s.guard.one=true)(h2:s.set=[])(h3:kj s.target p.threads.length=true)(h4:s.target≠t)(Z:St)(R:A→St→Prop)(h:R (db true) Z):
  AC Tryz.prog G 173 [.d (bK p),di t,.d (eP s)] Z R:=by
 have hb:=bare_p s (by have:=hs.sm.set;omega) hs.sm.guard h1 h2
 have hr:0≤s.target∧s.target<p.threads.length:=by simpa [kj]using h3
 have hbl:=mm p.threads c8 hr
 have e1:(s.target !=t)=true:=by simp [h4]
 unfold eP bK at*
 refine bg a9 Tryz.func173 rfl Tryz.ntmps173 (by simp only[go_sem]) λ hbd=> ?_
 simp only[ae,aj,Nat.reduceAdd,Nat.reduceSub,af,ag,ah,ak]
 try simp only[go_sem]
 refine bH (hb _ _ _ ?_)
 simp only[go_sem,e1]
 refine gO (.bool true) ⟨λ _=>⟨?_,bH (hbl _ _ _ ?_)⟩,?_⟩
 ·simp only[e1];rfl
 ·simp only[go_sem]
 simp only[go_sem,e1]
 exact aQ hbd h
theorem zM{G:Glob}(p:Prg)(t:Int)(s:Stp)(hs:StpIn p s)(h1:s.guard.one=true)(h2:s.set=[])(h3:kj s.target p.threads.length=true)(h4:s.target≠t)(h5:(p.threads.getD s.target.toNat fg).asleep=true)(Z:St)(R:A→St→Prop)(h:R (db true) Z):
  AC Tryz.prog G 172 [.d (bK p),di t,.d (eP s)] Z R:=by
 have hj:=uk (G:=G) p t s hs h1 h2 h3 h4
 have hr:0≤s.target∧s.target<p.threads.length:=by simpa [kj]using h3
 have e2:=fe (l:=p.threads) (j:=s.target.toNat) (by omega)
 unfold eP bK at*
 refine bg a9 Tryz.func172 rfl Tryz.ntmps172 (by simp only[go_sem]) λ hbd=> ?_
 simp only[ae,aj,Nat.reduceAdd,Nat.reduceSub,af,ag,ah,ak]
 try simp only[go_sem]
 refine bH (hj _ _ ?_)
 simp only[go_sem,e2,c8,h5,ac]
 exact⟨hr,aQ hbd h⟩
theorem Bi {G:Glob} (hG:G.g 0=some cB) (p:Prg) (t:Int) (s:Stp) (hs:StpIn p s) (h1:s.guard.allB (p.owB t)=true) (a:Asg) (r:List Asg) (hset:s.set=a::r) (h2:p.owB t a.cell=true) (h3:(p.cell a.cell).ghost=false) (h4:a.to.op=2) (h5:p.shB a.to.n=true) (h6:(p.cell a.to.n).ghost=false)
  (h7:∀b∈r,p.owB t b.cell=true∧(p.cell b.cell).ghost=true∧b.to.allB (p.owB t)=true) (Z:St) (R:A→St→Prop) (h:R (db true) Z):
  AC Tryz.prog G 168 [.d (bK p),di t,.d (eP s)] Z R:=by
 have hn:=hs.sm.set
 have hnc:=hs.ncel
 have own:=B7 p t
 have pr:=xk p t (by omega) G (Z.length+2) (Z.length+3)
 have hov:=λ e (he:Ovr (λ c=>p.owB t c=true) e)=>sH hG pr he
 have og:=hov s.guard (hs.ovrG h1)
 have or':∀b∈r,Ovr (λ c=>p.owB t c=true) b.to:=λ b hb=>hs.ovrA (by rw[hset];exact bR _ hb) (h7 b hb).2.2
 have r1:=(gB.1 h2).1
 obtain⟨r2,q2⟩:=eJ.1 h5
 have g1:=qm p a.cell r1
 have g2:=qm p a.to.n r2
 have s2:=nj p (by omega) a.to.n r2
 have gg:=λ c hc=>qm p c hc
 rw[h3]at g1
 rw[h6]at g2
 rw[dU q2]at s2
 have hl:s.set.length=r.length+1:=by rw[hset];rfl
 have n0:((s.set.length:Int)==0)=false:=by rw[hl];simp;omega
 have e1:List.getD (s.set.map dM) 0 default=dM a:=by rw[hset];rfl
 have e2:(a.to.op !=2)=false:=by simp [h4]
 have hdr:(s.set.map dM).drop 1=r.map dM:=by rw[hset];rfl
 unfold eP bK eD at*
 refine bM a9 Tryz.func168 rfl Tryz.ntmps168 (by simp only[go_sem]) λ hbd=> ?_
 simp only[ae,aj,Nat.reduceAdd,Nat.reduceSub,af,ag,ah,ak]
 try simp only[go_sem]
 refine bH (own _ _ _ ?_)
 simp only[go_sem,n0,ac]
 refine gO (.bool true) ⟨λ _=>⟨?_,bH (og _ ⟨by simp,by simp⟩ _ ?_)⟩,?_⟩
 ·rfl
 ·simp only[go_sem]
 simp only[go_sem,n0,ac]
 refine bb (.tk 13 0<| .done) (by kernel_rfl) ?_
 simp only[go_sem,e1,dM,ac,bZ]
 refine⟨⟨by omega,by omega⟩,⟨by omega,by omega⟩,bH (pr.ans a.cell _ _ h2 ⟨by simp,by simp⟩ ?_)⟩
 try simp only[go_sem]
 refine gO (.bool false) ⟨λ _=>⟨rfl,bH (g1 _ _ _ ?_)⟩,?_⟩
 ·simp only[go_sem]
 simp only[go_sem,e2]
 refine gO (.bool true) ⟨λ _=>⟨?_,bH (s2 _ _ _ ?_)⟩,?_⟩
 ·rfl
 ·simp only[go_sem]
 simp only[go_sem,e2]
 refine gO (.bool false) ⟨λ _=>⟨?_,bH (g2 _ _ _ ?_)⟩,?_⟩
 ·rfl
 ·simp only[go_sem]
 simp only[go_sem,e2,hl,ac]
 have hdr2:List.drop (Int.toNat 1) (List.take (r.length+1) (s.set.map dM))=r.map dM:=by
  rw[aK (by rw[ac,hl];exact aE _)];exact hdr
 rw[hdr2]
 simp only[go_sem,ac]
 refine⟨⟨by omega,by omega,by omega⟩,?_⟩
 refine aS (λ m fr st=>∃j:Nat,j≤r.length∧m=r.length - j∧fr=%[.o,.o,.o,.ref Z.length 0,.o,.o,.o,.fn (.func 166) [] [.ref (Z.length+2) 0,.ref (Z.length+3) 0]|D6 (D5 (D4 %[.o,.d (.sl 5 (r.map dM)),dn r.length,dn j|D5 [.o,.o,.o,.o,.o,.o,.o]]))]∧st=Z++[bN p,gS s,bN p,some (.cells [di t])]) r.length _ ?_ ?_
 ·exact Wk.keep [3,7,65,66,67] [0,1,2,3] (by decide) (aE _) hbd ⟨0,by omega,by omega,by simp only[go_sem];rfl,by simp only[go_sem]⟩
 rintro m fr st ⟨j,hj,hm,rfl,rfl⟩
 rcases aC j r.length with hlt|hge
 ·have hd:decide ((j:Int)<(r.length:Int))=true:=by simp;omega
  have w2:=bC j (by omega)
  have e3:=iP (l:=r) hlt
  have hb:=bT dt hlt
  generalize r.getD j dt=b at e3 hb
  obtain⟨b1,b2,b3⟩:=h7 b hb
  have gb:=gg b.cell (gB.1 b1).1
  have ob:=hov b.to (or' b hb)
  rw[b2]at gb
  simp only[go_sem,dM,hd,w2,e3,ac,ad]
  refine⟨⟨by omega,by omega⟩,bH (pr.ans b.cell _ _ b1 ⟨by simp,by simp⟩ ?_)⟩
  try simp only[go_sem]
  refine gO (.bool true) ⟨λ _=>⟨rfl,bH (gb _ _ _ ?_)⟩,?_⟩
  ·simp only[go_sem]
  try simp only[go_sem]
  refine gO (.bool true) ⟨λ _=>⟨rfl,bH (ob _ ⟨by simp,by simp⟩ _ ?_)⟩,?_⟩
  ·simp only[go_sem]
  simp only[go_sem,w2]
  exact Wk.keep [3,7,65,66,67] [0,1,2,3] (by decide) (aE _) hbd ⟨r.length - (j+1),by omega,j+1,by omega,rfl,by simp only[go_sem],by simp only[go_sem]⟩
 ·have hd:decide ((j:Int)<(r.length:Int))=false:=by simp;omega
  simp only[go_sem,hd,ac]
  exact aQ hbd h
theorem zL {G:Glob} (hG:G.g 0=some cB) (p:Prg) (t:Int) (s:Stp) (hs:StpIn p s) (h1:s.guard.allB (p.owB t)=true) (h2:∀a∈s.set,a.to.allB (p.owB t)=true) (a:Asg) (r:List Asg) (hset:s.set=a::r) (h3:p.shB a.cell=true) (h4:(p.cell a.cell).ghost=false)
  (h5:∀b∈r,(p.cell b.cell).ghost=true∧p.viB t b.cell=true) (Z:St) (R:A→St→Prop) (h:R (db true) Z):
  AC Tryz.prog G 169 [.d (bK p),di t,.d (eP s)] Z R:=by
 have hn:=hs.sm.set
 have hnc:=hs.ncel
 have own:=B7 p t
 have vis:=qK p t
 have pr:=xk p t (by omega) G (Z.length+2) (Z.length+3)
 have hv:=ta hG pr s (by omega) (hs.ovrG h1) (λ a ha=>hs.ovrA ha (h2 a ha))
 obtain⟨r1,q1⟩:=eJ.1 h3
 have g1:=qm p a.cell r1
 have s1:=nj p (by omega) a.cell r1
 rw[h4]at g1
 rw[dU q1]at s1
 have hl:s.set.length=r.length+1:=by rw[hset];rfl
 have n0:((s.set.length:Int)==0)=false:=by rw[hl];simp;omega
 have e1:List.getD (s.set.map dM) 0 default=dM a:=by rw[hset];rfl
 have hdr2:List.drop (Int.toNat 1) (List.take (r.length+1) (s.set.map dM))=r.map dM:=by
  rw[aK (by rw[ac,hl];exact aE _),hset];rfl
 unfold eP bK at*
 refine bD [3] a9 Tryz.func169 rfl Tryz.ntmps169 (by simp only[go_sem]) λ hbd=> ?_
 simp only[ae,aj,Nat.reduceAdd,Nat.reduceSub,af,ag,ah,ak]
 try simp only[go_sem]
 refine bc (λ fr st=>fr=%[.o,di t,.o,.ref Z.length 0,.o,.ref (Z.length+1) 0|D6 [.o,.o,.o,.o,.o]]∧st=Z++[bN p,gS s]) ?_ ?_
 ·try simp only[go_sem]
  refine bb (.tk 5 0<| .tk 2 6<| .alt 5 (.take 8<| .take 9<| .tk 2 10<| .done)<| .alt 8 (.take 5<| .take 9<| .tk 2 10<| .done)<| .stop) (by kernel_rfl) ?_
  simp only[go_sem,n0,ac]
  refine⟨?_,?_⟩
  ·refine exs ⟨λ _=> ?_,λ h=>Bool.noConfusion h⟩
   try simp only[go_sem]
   refine bH (own _ _ _ ?_)
   simp only[go_sem,n0,ac]
   refine gO (.bool true) ⟨λ _=>⟨?_,bH (hv _ ⟨by simp,by simp⟩ _ ?_)⟩,?_⟩
   ·rfl
   ·simp only[go_sem]
   simp only[go_sem,n0,ac]
   exact Wk.keep [1,3,5] [0,1] (by decide) (aE _) hbd ⟨by simp only[go_sem],by simp only[go_sem]⟩
  ·refine exs ⟨λ _=> ?_,λ h=>Bool.noConfusion h⟩
   try simp only[go_sem]
   refine bH (own _ _ _ ?_)
   simp only[go_sem,n0,ac]
   refine gO (.bool true) ⟨λ _=>⟨?_,bH (hv _ ⟨by simp,by simp⟩ _ ?_)⟩,?_⟩
   ·rfl
   ·simp only[go_sem]
   simp only[go_sem,n0,ac]
   exact Wk.keep [1,3,5] [0,1] (by decide) (aE _) hbd ⟨by simp only[go_sem],by simp only[go_sem]⟩
 rintro fr st ⟨rfl,rfl⟩
 simp only[go_sem,e1,dM,ac,bZ]
 refine⟨⟨by omega,by omega⟩,bH (s1 _ _ _ ?_)⟩
 try simp only[go_sem]
 refine gO (.bool false) ⟨λ _=>⟨rfl,bH (g1 _ _ _ ?_)⟩,?_⟩
 ·simp only[go_sem]
 try simp only[go_sem]
 refine bH (vis _ _ _ ?_)
 simp only[go_sem,hl,hdr2,ac]
 have pv:=oY p t (by omega) G (Z.length+2) (Z.length+5) (Z.length+3) (Z.length+4)
 have ps:=store1_p p t (by omega) G Z.length (Z.length+6) pv
 have ht:=qM ps r (by omega) h5
 refine⟨⟨by omega,by omega,by omega⟩,bH (ht _ ⟨⟨by simp,by simp⟩,⟨by simp,by simp⟩,by simp,by simp⟩ _ ?_)⟩
 try simp only[go_sem]
 exact aQ hbd h
@[go_sem,go_sem ↓] theorem rdIndex_aggA {P:Program} {k:Prop→A→Prop} (t:TypeId) (cs:List A) (ik:IntKind) (n:Int):gf P t k (.agg cs) (.d (.int ik n))=iy (mO P t) λ q=>gy P q.2.1 (n.toNat*q.2.2) (λ p a=>k (0≤n∧n<q.1∧p) a) (.agg cs):=by
 simp only[gf,iy]
 rcases mO P t with _|⟨_,_,_⟩<;> rfl
theorem kinds_p(Z:St)(G:Glob)(R:A→St→Prop)(h:R (.agg [.d .nilf,.fn (.func 167) [] [],.fn (.func 168) [] [],.fn (.func 169) [] [],.fn (.func 170) [] [],.fn (.func 171) [] [],.fn (.func 172) [] [],.fn (.func 173) [] []]) Z):AC Tryz.prog G 155 [] Z R:=by
 refine bg a9 Tryz.func155 rfl Tryz.ntmps155 (by simp only[go_sem]) λ hbd=> ?_
 simp only[ae,aj,Nat.reduceAdd,Nat.reduceSub,af,ag,ah,ak]
 try simp only[go_sem]
 refine dq hbd rfl ?_
 exact h
theorem A9{p:Prg}{t:Int}{s:Stp}(h:jR p t s):1≤s.kind∧s.kind≤7:=by
 rcases h with h|h|h|h|h|h|h<;> have:=h.1<;> omega
theorem step_p{G:Glob}(hG:G.g 0=some cB)(p:Prg)(t:Int)(x:Thr)(s:Stp)(hs:StpIn p s)(hk:StpOk p t x.points s)(hx:x.points≤8)(Z:St)(R:A→St→Prop)(h:R (di 0) Z):
  AC Tryz.prog G 136 [.d (bK p),di t,.d (c8 x),.d (eP s)] Z R:=by
 obtain⟨kr1,kr2⟩:=A9 hk.kind
 have hn:=hs.sm.set
 have hnc:=hs.ncel
 have hnm:=hs.nmod
 have d1:decide (s.kind<1)=false:=by simp;omega
 have d2:decide (s.kind > 7)=false:=by simp;omega
 have d2':decide (7<s.kind)=false:=by simp;omega
 have w1:IntKind.i64.wrap (x.points - 1)=x.points - 1:=cq _ (by have:=hk.src;omega) (by omega)
 have b1:=kK s.src (x.points - 1)
 have b2:=kK s.dst x.points
 have b3:=kK s.mod p.modules.length
 rw[uf hk.src]at b1
 rw[uf hk.dst]at b2
 rw[uf hk.mod]at b3
 have r1:(s.rel&&(s.kind !=3))=false:=by
  cases hr:s.rel with
  |false=>rfl
  |true=>simp [hk.rel hr]
 have r2:((s.target !=0)&& !((s.kind==6)||(s.kind==7)))=false:=by
  by_cases h0:s.target=0
  ·simp [h0]
  ·rcases hk.target h0 with q|q<;> simp [q]
 have n1:(s.guard.w !=1)=false:=by simp [hk.gw]
 obtain⟨_,hd,ho⟩:=Ex.valid_iff.1 hk.guard
 have hva:=ng s.guard (lF hs.sm.guard) (by have:=hs.sm.guard;omega) p.cells false
 rw[ed,hd,ho]at hva
 unfold eP bK eD at*
 refine bD [15,26] a9 Tryz.func136 rfl Tryz.ntmps136 (by simp only[go_sem]) λ hbd=> ?_
 simp only[ae,aj,Nat.reduceAdd,Nat.reduceSub,af,ag,ah,ak]
 simp only[go_sem,c8]
 refine bc (λ fr st=>fr=%[.o,di t,.o,.o,.ref Z.length 0,.o,.o,.ref (Z.length+2) 0|D7 (D7 [.o,.o,.o,.o,.o])]∧st=Z++[bN p,iw x,gS s]) ?_ ?_
 ·simp only[go_sem,d1,d2,d2',w1]
  refine bH (b1 _ _ _ ?_)
  try simp only[go_sem]
  refine bH (b2 _ _ _ ?_)
  simp only[go_sem,ac]
  refine bH (b3 _ _ _ ?_)
  simp only[go_sem,r1,r2,n1,ac]
  refine bH (hva _ _ hG _ ?_)
  simp only[go_sem,r1,r2,n1,ac]
  exact Wk.mask [1,4,7] ⟨rfl,rfl⟩
 rintro fr st ⟨rfl,rfl⟩
 try simp only[go_sem]
 refine bc (λ fr st=>fr=%[.o,di t,.o,.o,.ref Z.length 0,.o,.o,.ref (Z.length+2) 0|D7 (D7 [.o,.o,.o,.o,.o])]∧st=Z++[bN p,iw x,gS s]) ?_ ?_
 ·simp only[go_sem,ac]
  refine aS (λ m fr st=>∃j:Nat,j≤s.set.length∧m=s.set.length - j∧fr=%[.o,di t,.o,.o,.ref Z.length 0,.o,.o,.ref (Z.length+2) 0,.o,.o,.mapr (Z.length+3)|D7 %[.o,.o,.o,.o,.o,.o,.d (.sl 5 (s.set.map dM)),dn s.set.length,dn j|D6 (D5 (D4 [.o]))]]∧st=Z++[bN p,iw x,gS s,some (.map (tt ((s.set.take j).map Asg.cell)))]) s.set.length _ (Wk.mask [1,4,7,10,81,82,83] ⟨0,by omega,by omega,rfl,rfl⟩) ?_
  rintro m fr st ⟨j,hj,hm,rfl,rfl⟩
  rcases aC j s.set.length with hlt|hge
  ·have hd:decide ((j:Int)<(s.set.length:Int))=true:=by simp;omega
   have w2:=bC j (by omega)
   have e1:=iP (l:=s.set) hlt
   have ha:=hk.set _ (bT dt hlt)
   have hsa:=hs.sm.to _ (bT dt hlt)
   have hfr:(s.set.getD j dt).cell∉(s.set.take j).map Asg.cell:=nB dt hlt hk.nodup
   have hsn:(s.set.take (j+1)).map Asg.cell=(s.set.take j).map Asg.cell++[(s.set.getD j dt).cell]:=by rw[bG dt hlt,aJ];rfl
   generalize s.set.getD j dt=a at e1 ha hsa hfr hsn
   obtain⟨a1,a2,a3⟩:=ha
   have ar:0≤a.cell∧a.cell<p.cells.length:=by simpa [kj]using a1
   have hbl:=mm p.cells fb ar
   have e2:=fZ p ar
   have n2:(a.to.w !=(p.cell a.cell).w)=false:=by simp [a2]
   obtain⟨_,had,hao⟩:=Ex.valid_iff.1 a3
   have hvb:=ng a.to (lF hsa) (by omega) p.cells false
   rw[ed,had,hao]at hvb
   unfold eD at hvb
   simp only[go_sem,aY,dM,hd,w2,e1,pP,uc _ _ hfr,ac,ad]
   refine⟨⟨by omega,by omega⟩,?_⟩
   refine gO (.bool true) ⟨λ _=>⟨rfl,bH (hbl _ _ _ ?_)⟩,?_⟩
   ·simp only[go_sem]
   simp only[go_sem,aY,pP,nW,if_neg hfr,lf,eF,←hsn,ac]
   refine bb (.tk 21 0<| .done) (by kernel_rfl) ?_
   simp only[go_sem,aY,e2,fb,n2,ac]
   refine⟨ar,gO (.bool true) ⟨λ _=>⟨?_,bH (hvb _ _ hG _ ?_)⟩,?_⟩⟩
   ·rfl
   ·simp only[go_sem]
   simp only[go_sem,aY,e2,fb,n2,w2,ac]
   exact Wk.keep [1,4,7,10,81,82,83] [0,1,2,3] (by decide) (aE _) hbd ⟨s.set.length - (j+1),by omega,j+1,by omega,rfl,by simp only[go_sem],by simp only[go_sem,yI]⟩
  ·have hd:decide ((j:Int)<(s.set.length:Int))=false:=by simp;omega
   simp only[go_sem,hd,ac]
   exact Wk.keep [1,4,7] [0,1,2] (by decide) (aE _) hbd ⟨by simp only[go_sem],by simp only[go_sem]⟩
 rintro fr st ⟨rfl,rfl⟩
 try simp only[go_sem]
 refine bb (.take 6<| .pure 0<| .tk 5 1<| .tk 3 7<| .done) (by kernel_rfl) ?_
 try simp only[go_sem]
 refine mN (.agg [.d .nilf,.fn (.func 167) [] [],.fn (.func 168) [] [],.fn (.func 169) [] [],.fn (.func 170) [] [],.fn (.func 171) [] [],.fn (.func 172) [] [],.fn (.func 173) [] []]) ⟨λ Z'=>bH (kinds_p Z' G _ ⟨rfl,rfl⟩),?_⟩
 try simp only[go_sem]
 rcases hk.kind with q|q|q|q|q|q|q
 ·have f:=zN hG p t s hs q.2.1 q.2.2
  have e9:s.kind.toNat=1:=by omega
  unfold eP bK at f
  simp only[go_sem,e9,eu,eB,dR,dV,fC,br]
  refine⟨⟨by omega,by omega⟩,bH (f _ _ ?_)⟩
  try simp only[go_sem]
  exact aQ hbd h
 ·have f:=let ⟨_,q1,a,r,q2,q3,q4,q5,q6,q7,q8⟩:=q;Bi hG p t s hs q1 a r q2 q3 q4 q5 q6 q7 q8
  have e9:s.kind.toNat=2:=by omega
  unfold eP bK at f
  simp only[go_sem,e9,eu,eB,dR,dV,fC,br]
  refine⟨⟨by omega,by omega⟩,bH (f _ _ ?_)⟩
  try simp only[go_sem]
  exact aQ hbd h
 ·have f:=let ⟨_,q1,q2,a,r,q3,q4,q5,q6⟩:=q;zL hG p t s hs q1 q2 a r q3 q4 q5 q6
  have e9:s.kind.toNat=3:=by omega
  unfold eP bK at f
  simp only[go_sem,e9,eu,eB,dR,dV,fC,br]
  refine⟨⟨by omega,by omega⟩,bH (f _ _ ?_)⟩
  try simp only[go_sem]
  exact aQ hbd h
 ·have f:=xD hG p t s hs q.2.1 q.2.2
  have e9:s.kind.toNat=4:=by omega
  unfold eP bK at f
  simp only[go_sem,e9,eu,eB,dR,dV,fC,br]
  refine⟨⟨by omega,by omega⟩,bH (f _ _ ?_)⟩
  try simp only[go_sem]
  exact aQ hbd h
 ·have f:=zO (G:=G) p t s hs q.2.1 q.2.2
  have e9:s.kind.toNat=5:=by omega
  unfold eP bK at f
  simp only[go_sem,e9,eu,eB,dR,dV,fC,br]
  refine⟨⟨by omega,by omega⟩,bH (f _ _ ?_)⟩
  try simp only[go_sem]
  exact aQ hbd h
 ·have f:=let ⟨_,q1,q2,q3,q4,q5⟩:=q;zM (G:=G) p t s hs q1 q2 q3 q4 q5
  have e9:s.kind.toNat=6:=by omega
  unfold eP bK at f
  simp only[go_sem,e9,eu,eB,dR,dV,fC,br]
  refine⟨⟨by omega,by omega⟩,bH (f _ _ ?_)⟩
  try simp only[go_sem]
  exact aQ hbd h
 ·have f:=let ⟨_,q1,q2,q3,q4⟩:=q;uk (G:=G) p t s hs q1 q2 q3 q4
  have e9:s.kind.toNat=7:=by omega
  unfold eP bK at f
  simp only[go_sem,e9,eu,eB,dR,dV,fC,br]
  refine⟨⟨by omega,by omega⟩,bH (f _ _ ?_)⟩
  try simp only[go_sem]
  exact aQ hbd h
abbrev lopOb(l:Lop):Option Ob:=some (.cells [.d (iD l.head),.d (bu l.body),.d (iD l.var.op),.d (iD l.var.w),.d (iD l.var.n),.d (.sl 4 (l.var.kids.map Ex.d))])
theorem mods1_p(p:Prg)(G:Glob)(i:Nat):Pred G 134 [] [.ref i 0] (λ m=>0≤m∧m<p.modules.length) λ st=>st[i]? =some (bN p):=by
 refine⟨?_,λ st l h=>jf h,λ st h=> ?_⟩
 ·intro c st R hc h1 h
  have hb:=mm p.modules iH hc
  show AC Tryz.prog G 134 [di c,.ref i 0] st R
  refine bg a9 Tryz.func134 rfl Tryz.ntmps134 (by simp only[go_sem]) λ hbd=> ?_
  simp only[ae,aj,Nat.reduceAdd,Nat.reduceSub,af,ag,ah,ak]
  simp only[go_sem,aO h1,aX h1]
  refine bH (hb _ _ _ ?_)
  try simp only[go_sem]
  exact cw h
 ·have:=aL h
  simp only[jo,A.bd]
  simp;omega
theorem body1_p(x:Thr)(l:Lop)(G:Glob)(i j:Nat):Pred G 137 [] [.ref i 0,.ref j 0] (λ c=>0≤c∧c<x.points∧c≠l.head) λ st=>st[i]? =some (iw x)∧st[j]? =some (lopOb l):=by
 refine⟨?_,λ st l h=>⟨jf h.1,jf h.2⟩,λ st h=> ?_⟩
 ·rintro c st R ⟨hc1,hc2,hc3⟩ ⟨h1,h2⟩ h
  have hb:=kK c x.points
  rw[uf ⟨hc1,hc2⟩]at hb
  have e1:(c !=l.head)=true:=by simp [hc3]
  show AC Tryz.prog G 137 [di c,.ref i 0,.ref j 0] st R
  refine bg a9 Tryz.func137 rfl Tryz.ntmps137 (by simp only[go_sem]) λ hbd=> ?_
  simp only[ae,aj,Nat.reduceAdd,Nat.reduceSub,af,ag,ah,ak]
  simp only[go_sem,aO h1,aX h1,aO h2,aX h2]
  refine bH (hb _ _ _ ?_)
  simp only[go_sem,aO h1,aX h1,aO h2,aX h2,e1]
  exact cw h
 ·have:=aL h.1
  have:=aL h.2
  simp only[jo,A.bd]
  simp;omega
theorem thread_p {G:Glob} (hG:G.g 0=some cB) (p:Prg) (hp:p.Small) (t:Nat) (x:Thr) (hx:ThrOk p t x) (hsm:ThrSm x) (hnm:x.name.length≤reachBytes) (L:List (List UInt8)) (hfr:x.name∉L) (im:Nat) (Z:St) (hσ:Z[im]? =some (some (.map (lj L)))) (R:A→St→Prop)
  (h:R (.tup [di 0,di (-1)]) (Z.set im (some (.map (lj (L++[x.name])))))):AC Tryz.prog G 98 [.d (bK p),dn t,.d (c8 x),.mapr im] Z R:=by
 have hlt:=(aA.1 hσ).1
 obtain⟨τ,hτ⟩:∃τ,Z.set im (some (.map (lj (L++[x.name]))))=τ:=⟨_,rfl⟩
 have hlen:τ.length=Z.length:=by rw[←hτ,aH]
 rw[hτ]at h
 have hnc:=hp.ncel
 have l1:=sK x.name hnm hx.name
 have tk:=wW L x.name hfr im
 have hbd':Bd Z.length Z→Bd τ.length τ:=λ hbd=>by
  rw[←hτ,aH]
  exact hbd.set _ λ o ho=>by
   injection ho with ho;subst ho
   simp [Ob.bd,lj,A.bd]
 have q1:decide (x.points<1)=false:=by have:=hx.points;simp;omega
 have q2:((x.asserts.length:Int)!=x.points)=false:=by simp [hx.nas]
 have q3:((x.mods.length:Int)!=x.points)=false:=by simp [hx.nmo]
 have wm:=nc (mods1_p p G τ.length) x.mods (by have:=hsm.nmo;omega) hx.mods
 have vis:=qK p t
 unfold bK at*
 refine iN [11,12,18,25] a9 Tryz.func98 rfl Tryz.ntmps98 (by simp only[go_sem]) λ hbd=> ?_
 simp only[ae,aj,Nat.reduceAdd,Nat.reduceSub,af,ag,ah,ak]
 simp only[go_sem,c8]
 refine bc (λ fr st=>fr=%[.o,dn t,.o,.o,.ref τ.length 0,.o,.ref (τ.length+1) 0|D7 (D6 (D5 [.o,.o,.o,.o]))]∧st=τ++[bN p,iw x]) ?_ ?_
 ·try simp only[go_sem]
  refine bH (l1 _ _ _ ?_)
  try simp only[go_sem]
  refine bH (tk _ (jf hσ) _ _ ?_)
  rw[dN _ _ hlt,hτ,←hlen]
  simp only[go_sem,q1,q2,q3,ac,bu]
  refine bH (wm _ (by simp) _ ?_)
  try simp only[go_sem]
  exact Wk.mask [1,4,6] ⟨rfl,rfl⟩
 rintro fr st ⟨rfl,rfl⟩
 have hbd:=hbd' hbd
 rw[←hlen]
 clear hσ hlt tk l1 hbd'
 refine bc (λ fr st=>fr=%[.o,dn t,.o,.o,.ref τ.length 0,.o,.ref (τ.length+1) 0,.o,.o,.o,.fn (.func 154) [] [.ref (τ.length+2) 0,.ref (τ.length+5) 0]|D7 (D6 (D5 []))]∧st=τ++[bN p,iw x,bN p,bN p,some (.cells [dn t]),some (.cells [.fn (.func 166) [] [.ref (τ.length+3) 0,.ref (τ.length+4) 0]])]) ?_ ?_
 ·try simp only[go_sem]
  refine bH (vis _ _ _ ?_)
  try simp only[go_sem]
  exact Wk.mask [1,4,6,10] ⟨rfl,rfl⟩
 rintro fr st ⟨rfl,rfl⟩
 have pv:=oY p t (by omega) G (τ.length+2) (τ.length+5) (τ.length+3) (τ.length+4)
 refine bc (λ fr st=>fr=%[.o,dn t,.o,.o,.ref τ.length 0,.o,.ref (τ.length+1) 0,.o,.o,.o,.fn (.func 154) [] [.ref (τ.length+2) 0,.ref (τ.length+5) 0]|D7 (D6 (D5 []))]∧st=τ++[bN p,iw x,bN p,bN p,some (.cells [dn t]),some (.cells [.fn (.func 166) [] [.ref (τ.length+3) 0,.ref (τ.length+4) 0]])]) ?_ ?_
 ·have hn:=hsm.nas
  simp only[go_sem,ac]
  refine aS (λ m fr st=>∃j:Nat,j≤x.asserts.length∧m=x.asserts.length - j∧fr=%[.o,dn t,.o,.o,.ref τ.length 0,.o,.ref (τ.length+1) 0,.o,.o,.o,.fn (.func 154) [] [.ref (τ.length+2) 0,.ref (τ.length+5) 0]|D6 (D4 %[.o,.o,.o,.o,.d (.sl 4 (x.asserts.map Ex.d)),dn x.asserts.length,dn j|D7 [.o]])]∧st=τ++[bN p,iw x,bN p,bN p,some (.cells [dn t]),some (.cells [.fn (.func 166) [] [.ref (τ.length+3) 0,.ref (τ.length+4) 0]])]) x.asserts.length _ (Wk.mask [1,4,6,10,55,56,57] ⟨0,by omega,by omega,rfl,rfl⟩) ?_
  rintro m fr st ⟨j,hj,hm,rfl,rfl⟩
  rcases aC j x.asserts.length with hlt|hge
  ·have hd:decide ((j:Int)<(x.asserts.length:Int))=true:=by simp;omega
   have w2:=bC j (by omega)
   have e1:=Gy (l:=x.asserts) hlt
   have ha:=hx.asserts _ (bT zQ hlt)
   have hs:=hsm.asserts _ (bT zQ hlt)
   generalize x.asserts.getD j zQ=e at e1 ha hs
   obtain⟨a1,a2,a3,a4⟩:=vt ha
   have hb:=bit_p hG pv p e (lF hs) (by omega) false a1 a2 a3 a4
   unfold bK eD at hb
   unfold eD at e1
   simp only[go_sem,hd,w2,e1,ac,ad]
   refine⟨⟨by omega,by omega⟩,bH (hb _ ⟨⟨by simp,by simp⟩,by simp,by simp⟩ _ ?_)⟩
   simp only[go_sem,w2]
   exact Wk.keep [1,4,6,10,55,56,57] [0,1,2,3,4,5] (by decide) (aE _) hbd ⟨x.asserts.length - (j+1),by omega,j+1,by omega,rfl,by simp only[go_sem],by simp only[go_sem]⟩
  ·have hd:decide ((j:Int)<(x.asserts.length:Int))=false:=by simp;omega
   simp only[go_sem,hd,ac]
   exact Wk.mask [1,4,6,10] ⟨rfl,rfl⟩
 rintro fr st ⟨rfl,rfl⟩
 refine bc (λ fr st=>fr=%[.o,dn t,.o,.o,.ref τ.length 0,.o,.ref (τ.length+1) 0,.o,.o,.o,.fn (.func 154) [] [.ref (τ.length+2) 0,.ref (τ.length+5) 0]|D7 (D6 (D5 []))]∧st=τ++[bN p,iw x,bN p,bN p,some (.cells [dn t]),some (.cells [.fn (.func 166) [] [.ref (τ.length+3) 0,.ref (τ.length+4) 0]])]) ?_ ?_
 ·have hn:=hsm.nst
  simp only[go_sem,ac]
  refine aS (λ m fr st=>∃j:Nat,j≤x.steps.length∧m=x.steps.length - j∧fr=%[.o,dn t,.o,.o,.ref τ.length 0,.o,.ref (τ.length+1) 0,.o,.o,.o,.fn (.func 154) [] [.ref (τ.length+2) 0,.ref (τ.length+5) 0]|D6 (D5 (D4 %[.o,.d (.sl 11 (x.steps.map eP)),dn x.steps.length,dn j|D6 (D5 [.o,.o,.o,.o])]))]∧st=τ++[bN p,iw x,bN p,bN p,some (.cells [dn t]),some (.cells [.fn (.func 166) [] [.ref (τ.length+3) 0,.ref (τ.length+4) 0]])]) x.steps.length _ (Wk.mask [1,4,6,10,68,69,70] ⟨0,by omega,by omega,rfl,rfl⟩) ?_
  rintro m fr st ⟨j,hj,hm,rfl,rfl⟩
  rcases aC j x.steps.length with hlt|hge
  ·have hd:decide ((j:Int)<(x.steps.length:Int))=true:=by simp;omega
   have w2:=bC j (by omega)
   have e1:=mw (l:=x.steps) hlt
   have ha:=hx.steps _ (bT jY hlt)
   have hs:=hsm.steps _ (bT jY hlt)
   generalize x.steps.getD j jY=s at e1 ha hs
   have hb:=step_p hG p t x s ⟨hp.ncel,hp.nmod,hp.nthr,hs,ha.guard,ha.set⟩ ha hsm.points
   unfold bK eP at hb
   simp only[c8]at hb
   simp only[go_sem,eP,hd,w2,e1,ac,ad]
   refine⟨⟨by omega,by omega⟩,bH (hb _ _ ?_)⟩
   have z0:((0:Int)!=0)=false:=rfl
   simp only[go_sem,z0,w2]
   exact Wk.keep [1,4,6,10,68,69,70] [0,1,2,3,4,5] (by decide) (aE _) hbd ⟨x.steps.length - (j+1),by omega,j+1,by omega,rfl,by simp only[go_sem],by simp only[go_sem]⟩
  ·have hd:decide ((j:Int)<(x.steps.length:Int))=false:=by simp;omega
   simp only[go_sem,hd,ac]
   exact Wk.mask [1,4,6,10] ⟨rfl,rfl⟩
 rintro fr st ⟨rfl,rfl⟩
 have hn:=hsm.nlo
 simp only[go_sem,ac]
 refine aS (λ m fr st=>∃j:Nat,j≤x.loops.length∧m=x.loops.length - j∧fr=%[.o,dn t,.o,.o,.ref τ.length 0,.o,.ref (τ.length+1) 0,.o,.o,.o,.fn (.func 154) [] [.ref (τ.length+2) 0,.ref (τ.length+5) 0]|D7 (D4 %[.o,.o,.o,.d (.sl 6 (x.loops.map pt)),dn x.loops.length,dn j|D6 [.o,.o]])]∧st=τ++[bN p,iw x,bN p,bN p,some (.cells [dn t]),some (.cells [.fn (.func 166) [] [.ref (τ.length+3) 0,.ref (τ.length+4) 0]])]) x.loops.length _ (Wk.mask [1,4,6,10,86,87,88] ⟨0,by omega,by omega,rfl,rfl⟩) ?_
 rintro m fr st ⟨j,hj,hm,rfl,rfl⟩
 rcases aC j x.loops.length with hlt|hge
 ·have hd:decide ((j:Int)<(x.loops.length:Int))=true:=by simp;omega
  have w2:=bC j (by omega)
  have e1:=A5 (l:=x.loops) hlt
  have ha:=hx.loops _ (bT vg hlt)
  have hs:=hsm.loops _ (bT vg hlt)
  generalize x.loops.getD j vg=l at e1 ha hs
  obtain⟨a1,a2,a3,a4,a5⟩:=ha
  obtain⟨s1,s2⟩:=hs
  have b1:=kK l.head x.points
  rw[uf a1]at b1
  have ri:=yF l.body (by simp only[reachBytes];omega) a2
  have wi:=nc (body1_p x l G (τ.length+1) (τ.length+6)) l.body (by omega) a3
  obtain⟨_,hde,hov⟩:=Ex.valid_iff.1 a4
  have hva:=ng l.var (lF s2) (by omega) p.cells false
  rw[ed,hde,hov]at hva
  have hvo:=sH hG pv (AZ s2 a4 a5)
  unfold eD at hva hvo
  unfold bu at ri wi
  simp only[go_sem,pt,bu,hd,w2,e1,ac,ad]
  refine⟨⟨by omega,by omega⟩,bH (b1 _ _ _ ?_)⟩
  try simp only[go_sem]
  refine bH (ri _ _ _ ?_)
  try simp only[go_sem]
  refine bH (wi _ ⟨by simp,by simp [bu]⟩ _ ?_)
  try simp only[go_sem]
  refine bH (hva _ _ hG _ ?_)
  try simp only[go_sem]
  refine bH (hvo _ ⟨⟨by simp,by simp⟩,by simp,by simp⟩ _ ?_)
  simp only[go_sem,w2]
  exact Wk.keep [1,4,6,10,86,87,88] [0,1,2,3,4,5] (by decide) (aE _) hbd ⟨x.loops.length - (j+1),by omega,j+1,by omega,rfl,by simp only[go_sem],by simp only[go_sem]⟩
 ·have hd:decide ((j:Int)<(x.loops.length:Int))=false:=by simp;omega
  simp only[go_sem,hd,ac]
  exact dq hbd rfl h
theorem sm40(e:Ex)(hok:e.Ok)(Z:St)(G:Glob)(R:A→St→Prop)(h:R (db (decide (e.nodes≤40))) Z):AC Tryz.prog G 28 [.d (eD e),di 40] Z R:=by
 have:=small_ac e hok 40 (by omega) Z G R h
 rw[ed]at this
 exact this
theorem CD(x:Thr)(hz:ThrSz x)(Z:St)(G:Glob)(R:A→St→Prop)(h:∀b:Bool,(b=true→ThrSm x)→R (db b) Z):AC Tryz.prog G 29 [.d (c8 x)] Z R:=by
 have sm:=sm40
 unfold eD at sm
 unfold c8
 refine bD [3,9,14,18,20] a9 Tryz.func29 rfl Tryz.ntmps29 (by simp only[go_sem]) λ hbd=> ?_
 simp only[ae,aj,Nat.reduceAdd,Nat.reduceSub,af,ag,ah,ak]
 try simp only[go_sem]
 refine bc (λ fr st=>(x.points≤8∧x.asserts.length≤8∧x.mods.length≤8∧x.steps.length≤10∧x.loops.length≤3)∧fr=%[.o,.ref Z.length 0|D7 (D6 (D5 [.o]))]∧st=Z++[iw x]) ?_ ?_
 ·simp only[bu,go_sem,ac]
  refine⟨λ q=>aQ hbd (h false λ q=>Bool.noConfusion q),λ q=>Wk.mask [1] ⟨?_,rfl,rfl⟩⟩
  simp only[bA,ay]at q
  omega
 rintro fr st ⟨⟨l5,l1,l2,l3,l4⟩,rfl,rfl⟩
 refine bc (λ fr st=>(∀e∈x.asserts,e.nodes≤40)∧fr=%[.o,.ref Z.length 0|D7 (D6 (D5 [.o]))]∧st=Z++[iw x]) ?_ ?_
 ·simp only[go_sem,ac]
  refine aS (λ m fr st=>∃k:Nat,k≤x.asserts.length∧m=x.asserts.length - k∧(∀e∈x.asserts.take k,e.nodes≤40)∧fr=%[.o,.ref Z.length 0,.o,dn k|D7 (D6 (D4 [.o,.o,.o,.o,.o,.o,.o]))]∧st=Z++[iw x]) x.asserts.length _ (Wk.mask [1,3] ⟨0,by omega,by omega,by simp,rfl,rfl⟩) ?_
  rintro m fr st ⟨k,hk,hm,hall,rfl,rfl⟩
  rcases aC k x.asserts.length with hkl|hkg
  ·have hd2:decide ((k:Int)<(x.asserts.length:Int))=true:=by simp only[av];omega
   have w3:=bC k (by omega)
   obtain⟨c,hcc⟩:∃c,x.asserts.getD k zQ=c:=⟨_,rfl⟩
   have hcm:c∈x.asserts:=by rw[←hcc];exact bT zQ hkl
   have g2:List.getD (x.asserts.map Ex.d) k default=eD c:=by rw[Gy hkl,hcc]
   unfold eD at g2
   simp only[go_sem,hd2,g2,ac,ad]
   refine⟨⟨by omega,by omega⟩,bH (sm c (hz.asserts c hcm) _ _ _ ?_)⟩
   simp only[go_sem,w3,ac,ad]
   exact⟨λ q=>aQ hbd (h false λ q=>Bool.noConfusion q),λ q=>Wk.mask [1,3] ⟨x.asserts.length - (k+1),by omega,k+1,by omega,rfl,fm zQ hkl hall (by rw[hcc];simpa using q),rfl,rfl⟩⟩
  ·have hd2:decide ((k:Int)<(x.asserts.length:Int))=false:=by simp only[ay];omega
   simp only[go_sem,hd2,ac,ad]
   obtain rfl:k=x.asserts.length:=by omega
   rw[bB]at hall
   exact Wk.mask [1] ⟨hall,rfl,rfl⟩
 rintro fr st ⟨hass,rfl,rfl⟩
 refine bc (λ fr st=>(∀l∈x.loops,l.body.length≤8∧l.var.nodes≤40)∧fr=%[.o,.ref Z.length 0|D7 (D6 (D5 [.o]))]∧st=Z++[iw x]) ?_ ?_
 ·simp only[go_sem,ac]
  refine aS (λ m fr st=>∃k:Nat,k≤x.loops.length∧m=x.loops.length - k∧(∀l∈x.loops.take k,l.body.length≤8∧l.var.nodes≤40)∧fr=%[.o,.ref Z.length 0,.o,.o,.o,dn k|D7 (D6 (D4 [.o,.o,.o,.o,.o]))]∧st=Z++[iw x]) x.loops.length _ (Wk.mask [1,5] ⟨0,by omega,by omega,by simp,rfl,rfl⟩) ?_
  rintro m fr st ⟨k,hk,hm,hall,rfl,rfl⟩
  rcases aC k x.loops.length with hkl|hkg
  ·have hd2:decide ((k:Int)<(x.loops.length:Int))=true:=by simp only[av];omega
   have w3:=bC k (by omega)
   obtain⟨l,hcc⟩:∃c,x.loops.getD k vg=c:=⟨_,rfl⟩
   have hcm:l∈x.loops:=by rw[←hcc];exact bT vg hkl
   have g2:List.getD (x.loops.map pt) k default=pt l:=by rw[A5 hkl,hcc]
   simp only[go_sem,hd2,g2,pt,bu,ac,ad]
   refine⟨⟨by omega,by omega⟩,λ q=>⟨q,by omega,by omega⟩,gO (.bool (decide (l.var.nodes≤40))) ⟨λ hg=> ?_,?_⟩⟩
   ·simp only[go_sem]
    exact⟨hg,bH (sm l.var (hz.loops l hcm).2 _ _ _ ⟨rfl,rfl⟩)⟩
   simp only[go_sem,w3,ac,ad]
   refine⟨λ q=>aQ hbd (h false λ q=>Bool.noConfusion q),λ q=>Wk.mask [1,5] ⟨x.loops.length - (k+1),by omega,k+1,by omega,rfl,fm vg hkl hall (by rw[hcc];simp only[bA,cF,ay,av]at q;omega),rfl,rfl⟩⟩
  ·have hd2:decide ((k:Int)<(x.loops.length:Int))=false:=by simp only[ay];omega
   simp only[go_sem,hd2,ac,ad]
   obtain rfl:k=x.loops.length:=by omega
   rw[bB]at hall
   exact Wk.mask [1] ⟨hall,rfl,rfl⟩
 rintro fr st ⟨hlop,rfl,rfl⟩
 simp only[go_sem,ac]
 refine aS (λ m fr st=>∃k:Nat,k≤x.steps.length∧m=x.steps.length - k∧(∀s∈x.steps.take k,StpSm s)∧fr=%[.o,.ref Z.length 0,.o,.o,.o,.o,dn k|D7 (D6 (D4 [.o,.o,.o,.o]))]∧st=Z++[iw x]) x.steps.length _ (Wk.mask [1,6] ⟨0,by omega,by omega,by simp,rfl,rfl⟩) ?_
 rintro m fr st ⟨k,hk,hm,hall,rfl,rfl⟩
 rcases aC k x.steps.length with hkl|hkg
 ·have hd2:decide ((k:Int)<(x.steps.length:Int))=true:=by simp only[av];omega
  have w3:=bC k (by omega)
  obtain⟨s,hcc⟩:∃c,x.steps.getD k jY=c:=⟨_,rfl⟩
  have hcm:s∈x.steps:=by rw[←hcc];exact bT jY hkl
  have g2:List.getD (x.steps.map eP) k default=eP s:=by rw[mw hkl,hcc]
  have hsz:=hz.steps s hcm
  simp only[go_sem,hd2,ac]
  refine bc (λ fr st=>fr=%[.o,.ref Z.length 0,.o,.o,.o,.o,dn k,.ref (Z.length+1) 0|D7 (D6 (D4 [.o,.o,.o]))]∧st=Z++[iw x,gS s]) ?_ ?_
  ·simp only[go_sem,g2,eP,ac,ad]
   exact⟨⟨by omega,by omega⟩,Wk.mask [1,6,7] ⟨rfl,rfl⟩⟩
  rintro fr st ⟨rfl,rfl⟩
  refine bc (λ fr st=>(s.set.length≤4∧s.guard.nodes≤40)∧fr=%[.o,.ref Z.length 0,.o,.o,.o,.o,dn k,.ref (Z.length+1) 0|D7 (D6 (D4 [.o,.o,.o]))]∧st=Z++[iw x,gS s]) ?_ ?_
  ·simp only[go_sem,ac,ad]
   refine gO (.bool (decide (s.guard.nodes≤40))) ⟨λ hg=> ?_,?_⟩
   ·simp only[go_sem]
    exact⟨hg,bH (sm s.guard hsz.guard _ _ _ ⟨rfl,rfl⟩)⟩
   simp only[go_sem,ac,ad]
   refine⟨λ q=>aQ hbd (h false λ q=>Bool.noConfusion q),λ q=>Wk.mask [1,6,7] ⟨?_,rfl,rfl⟩⟩
   simp only[bA,cF,ay,av]at q
   omega
  rintro fr st ⟨hsg,rfl,rfl⟩
  simp only[go_sem,ac,ad]
  refine aS (λ m fr st=>∃i:Nat,i≤s.set.length∧m=s.set.length - i∧(∀a∈s.set.take i,a.to.nodes≤40)∧fr=%[.o,.ref Z.length 0,.o,.o,.o,.o,dn k,.ref (Z.length+1) 0,dn i|D7 (D6 (D4 [.o,.o]))]∧st=Z++[iw x,gS s]) s.set.length _ (Wk.mask [1,6,7,8] ⟨0,by omega,by omega,by simp,rfl,rfl⟩) ?_
  rintro m2 fr st ⟨i,hi,hm2,hal2,rfl,rfl⟩
  rcases aC i s.set.length with hil|hig
  ·have hd3:decide ((i:Int)<(s.set.length:Int))=true:=by simp only[av];omega
   have w4:=bC i (by omega)
   obtain⟨a,hac⟩:∃c,s.set.getD i dt=c:=⟨_,rfl⟩
   have ham:a∈s.set:=by rw[←hac];exact bT dt hil
   have g3:List.getD (s.set.map dM) i default=dM a:=by rw[iP hil,hac]
   simp only[go_sem,hd3,g3,dM,ac,ad]
   refine⟨⟨by omega,by omega⟩,bH (sm a.to (hsz.set a ham) _ _ _ ?_)⟩
   simp only[go_sem,w4,ac,ad]
   exact⟨λ q=>aQ hbd (h false λ q=>Bool.noConfusion q),λ q=>Wk.mask [1,6,7,8] ⟨s.set.length - (i+1),by omega,i+1,by omega,rfl,fm dt hil hal2 (by rw[hac];simpa using q),rfl,rfl⟩⟩
  ·have hd3:decide ((i:Int)<(s.set.length:Int))=false:=by simp only[ay];omega
   simp only[go_sem,hd3,w3,ac,ad]
   obtain rfl:i=s.set.length:=by omega
   rw[bB]at hal2
   exact Wk.keep [1,6] [0] (by decide) (aE _) hbd ⟨x.steps.length - (k+1),by omega,k+1,by omega,rfl,fm jY hkl hall (by rw[hcc];exact⟨hsg.2,hsg.1,hal2⟩),by simp only[go_sem],by simp only[go_sem]⟩
 ·have hd2:decide ((k:Int)<(x.steps.length:Int))=false:=by simp only[ay];omega
  simp only[go_sem,hd2,ac,ad]
  obtain rfl:k=x.steps.length:=by omega
  rw[bB]at hall
  exact aQ hbd (h true λ _=>⟨l5,l1,l2,l3,l4,hass,hlop,hall⟩)
theorem FQ(p:Prg)(hz:PrgSz p)(Z:St)(G:Glob)(R:A→St→Prop)(h:∀b:Bool,(b=true→p.Small∧p.Ok)→R (db b) Z):AC Tryz.prog G 7 [.d (bK p)] Z R:=by
 have sm:=sm40
 unfold eD at sm
 have nz:NamesSz p:=⟨hz.names,λ m hm=>⟨(hz.modules m hm).1,(hz.modules m hm).2.1⟩,λ x hx=>(hz.threads x hx).1⟩
 have va:=λ hs=>wU p hs nz
 unfold bK at*
 refine bD [3,9,15,21,7] a9 Tryz.func7 rfl Tryz.ntmps7 (by simp only[go_sem]) λ hbd=> ?_
 simp only[ae,aj,Nat.reduceAdd,Nat.reduceSub,af,ag,ah,ak]
 try simp only[go_sem]
 refine bc (λ fr st=>(p.cells.length≤12∧p.modules.length≤3∧p.locks.length≤2∧p.threads.length≤3)∧fr=%[.o,.ref Z.length 0|D7 (D6 [.o,.o,.o])]∧st=Z++[bN p]) ?_ ?_
 ·simp only[aY,go_sem,ac]
  refine⟨λ q=>aQ hbd (h false λ q=>Bool.noConfusion q),λ q=>Wk.mask [1] ⟨?_,rfl,rfl⟩⟩
  simp only[bA,ay]at q
  omega
 rintro fr st ⟨⟨l1,l2,l3,l4⟩,rfl,rfl⟩
 refine bc (λ fr st=>(∀m∈p.modules,m.frame.length≤12∧m.rely.nodes≤40∧m.guar.nodes≤40)∧fr=%[.o,.ref Z.length 0|D7 (D6 [.o,.o,.o])]∧st=Z++[bN p]) ?_ ?_
 ·simp only[go_sem,ac]
  refine aS (λ m fr st=>∃k:Nat,k≤p.modules.length∧m=p.modules.length - k∧(∀m∈p.modules.take k,m.frame.length≤12∧m.rely.nodes≤40∧m.guar.nodes≤40)∧fr=%[.o,.ref Z.length 0,.o,dn k|D7 (D6 [.o])]∧st=Z++[bN p]) p.modules.length _ (Wk.mask [1,3] ⟨0,by omega,by omega,by simp,rfl,rfl⟩) ?_
  rintro m fr st ⟨k,hk,hm,hall,rfl,rfl⟩
  rcases aC k p.modules.length with hkl|hkg
  ·have hd2:decide ((k:Int)<(p.modules.length:Int))=true:=by simp only[av];omega
   have w3:=bC k (by omega)
   obtain⟨c,hcc⟩:∃c,p.modules.getD k mj=c:=⟨_,rfl⟩
   have hcm:c∈p.modules:=by rw[←hcc];exact bT mj hkl
   obtain⟨_,_,ok1,ok2,_⟩:=hz.modules c hcm
   have g2:List.getD (p.modules.map iH) k default=iH c:=by rw[xM hkl,hcc]
   simp only[go_sem,hd2,ac,ad]
   refine bc (λ fr st=>fr=%[.o,.ref Z.length 0,.o,dn k,.ref (Z.length+1) 0|D7 (D6 [])]∧st=Z++[bN p,zZ c]) ?_ ?_
   ·simp only[go_sem,g2,iH,ac,ad]
    exact⟨⟨by omega,by omega⟩,Wk.mask [1,3,4] ⟨rfl,rfl⟩⟩
   rintro fr st ⟨rfl,rfl⟩
   simp only[bu,go_sem,ac,ad]
   refine gO (.bool (decide (c.rely.nodes≤40))) ⟨λ hg=> ?_,?_⟩
   ·simp only[go_sem]
    exact⟨hg,bH (sm c.rely ok1 _ _ _ ⟨rfl,rfl⟩)⟩
   simp only[bu,go_sem,ac,ad]
   refine gO (.bool (decide (c.guar.nodes≤40))) ⟨λ hg=> ?_,?_⟩
   ·simp only[go_sem]
    exact⟨hg,bH (sm c.guar ok2 _ _ _ ⟨rfl,rfl⟩)⟩
   simp only[bu,go_sem,w3,ac,ad]
   refine⟨λ q=>aQ hbd (h false λ q=>Bool.noConfusion q),λ q=>Wk.keep [1,3] [0] (by decide) (aE _) hbd ⟨p.modules.length - (k+1),by omega,k+1,by omega,rfl,fm mj hkl hall (by rw[hcc];simp only[bA,cF,ay,av]at q;omega),by simp only[go_sem],by simp only[go_sem]⟩⟩
  ·have hd2:decide ((k:Int)<(p.modules.length:Int))=false:=by simp only[ay];omega
   simp only[go_sem,hd2,ac,ad]
   obtain rfl:k=p.modules.length:=by omega
   rw[bB]at hall
   exact Wk.mask [1] ⟨hall,rfl,rfl⟩
 rintro fr st ⟨hmod,rfl,rfl⟩
 refine bc (λ fr st=>(∀l∈p.locks,l.inv.nodes≤40)∧fr=%[.o,.ref Z.length 0|D7 (D6 [.o,.o,.o])]∧st=Z++[bN p]) ?_ ?_
 ·simp only[go_sem,ac]
  refine aS (λ m fr st=>∃k:Nat,k≤p.locks.length∧m=p.locks.length - k∧(∀m∈p.locks.take k,m.inv.nodes≤40)∧fr=%[.o,.ref Z.length 0,.o,.o,.o,dn k|D7 (D5 (D4 [.o,.o,.o,.o,.o,.o,.o]))]∧st=Z++[bN p]) p.locks.length _ (Wk.mask [1,5] ⟨0,by omega,by omega,by simp,rfl,rfl⟩) ?_
  rintro m fr st ⟨k,hk,hm,hall,rfl,rfl⟩
  rcases aC k p.locks.length with hkl|hkg
  ·have hd2:decide ((k:Int)<(p.locks.length:Int))=true:=by simp only[av];omega
   have w3:=bC k (by omega)
   obtain⟨c,hcc⟩:∃c,p.locks.getD k mJ=c:=⟨_,rfl⟩
   have hcm:c∈p.locks:=by rw[←hcc];exact bT mJ hkl
   have g2:List.getD (p.locks.map iZ) k default=iZ c:=by rw[xw hkl,hcc]
   simp only[go_sem,hd2,g2,iZ,ac,ad]
   refine⟨⟨by omega,by omega⟩,bH (sm c.inv (hz.locks c hcm) _ _ _ ?_)⟩
   simp only[go_sem,w3,ac,ad]
   exact⟨λ q=>aQ hbd (h false λ q=>Bool.noConfusion q),λ q=>Wk.mask [1,5] ⟨p.locks.length - (k+1),by omega,k+1,by omega,rfl,fm mJ hkl hall (by rw[hcc];simpa using q),rfl,rfl⟩⟩
  ·have hd2:decide ((k:Int)<(p.locks.length:Int))=false:=by simp only[ay];omega
   simp only[go_sem,hd2,ac,ad]
   obtain rfl:k=p.locks.length:=by omega
   rw[bB]at hall
   exact Wk.mask [1] ⟨hall,rfl,rfl⟩
 rintro fr st ⟨hlck,rfl,rfl⟩
 refine bc (λ fr st=>(∀x∈p.threads,ThrSm x)∧fr=%[.o,.ref Z.length 0|D7 (D6 [.o,.o,.o])]∧st=Z++[bN p]) ?_ ?_
 ·simp only[go_sem,ac]
  refine aS (λ m fr st=>∃k:Nat,k≤p.threads.length∧m=p.threads.length - k∧(∀x∈p.threads.take k,ThrSm x)∧fr=%[.o,.ref Z.length 0,.o,.o,.o,.o,.o,dn k|D7 (D5 (D4 [.o,.o,.o,.o,.o]))]∧st=Z++[bN p]) p.threads.length _ (Wk.mask [1,7] ⟨0,by omega,by omega,by simp,rfl,rfl⟩) ?_
  rintro m fr st ⟨k,hk,hm,hall,rfl,rfl⟩
  rcases aC k p.threads.length with hkl|hkg
  ·have hd2:decide ((k:Int)<(p.threads.length:Int))=true:=by simp only[av];omega
   have w3:=bC k (by omega)
   obtain⟨c,hcc⟩:∃c,p.threads.getD k fg=c:=⟨_,rfl⟩
   have hcm:c∈p.threads:=by rw[←hcc];exact bT fg hkl
   have g2:List.getD (p.threads.map c8) k default=c8 c:=by rw[fe hkl,hcc]
   have st:=CD c (hz.threads c hcm).2
   unfold c8 at st
   simp only[go_sem,hd2,g2,c8,ac,ad]
   refine⟨⟨by omega,by omega⟩,bH (st _ _ _ λ b hb=> ?_)⟩
   simp only[go_sem,w3,ac,ad]
   exact⟨λ q=>aQ hbd (h false λ q=>Bool.noConfusion q),λ q=>Wk.mask [1,7] ⟨p.threads.length - (k+1),by omega,k+1,by omega,rfl,fm fg hkl hall (by rw[hcc];exact hb (by simpa using q)),rfl,rfl⟩⟩
  ·have hd2:decide ((k:Int)<(p.threads.length:Int))=false:=by simp only[ay];omega
   simp only[go_sem,hd2,ac,ad]
   obtain rfl:k=p.threads.length:=by omega
   rw[bB]at hall
   exact Wk.mask [1] ⟨hall,rfl,rfl⟩
 rintro fr st ⟨hthr,rfl,rfl⟩
 have hs:p.Small:=⟨l1,l2,l3,l4,hmod,hlck,hthr⟩
 simp only[go_sem,ac]
 refine bH (va hs _ _ _ λ c i j hcs=> ?_)
 simp only[go_sem,ac]
 exact aQ hbd (h _ λ q=>⟨hs,hcs.1 (cg.1 q)⟩)
theorem low_r(x w:Int)(hw:1≤w∧w≤8)(Z:St)(G:Glob)(R:A→St→Prop)(h:R (dn (lowb x w.toNat)) Z):AC Tryz.prog G 143 [di x,di w] Z R:=by
 have hb:=oB x (w:=w.toNat) (by omega)
 have hp:=qb (w:=w.toNat) (by omega)
 have hp0:=yY w.toNat
 have ws:IntKind.i64.wrap (((2^w.toNat:Nat):Int) - 1)=((2^w.toNat:Nat):Int) - 1:=cq _ (by omega) (by omega)
 refine bM a9 Tryz.func143 rfl Tryz.ntmps143 (by simp only[go_sem]) λ hbd=> ?_
 simp only[ae,aj,Nat.reduceAdd,Nat.reduceSub,af,ag,ah,ak]
 try simp only[go_sem]
 refine bH (yX w (by omega) _ _ _ ?_)
 simp only[go_sem,ws,hb]
 exact cw h
theorem at_r(l:List Int)(n:Int)(hn:0≤n)(hl:l.length≤reachBytes)(Z:St)(G:Glob)(R:A→St→Prop)(h:R (di (l.getD n.toNat 0)) Z):AC Tryz.prog G 144 [dL l,di n] Z R:=by
 refine bM a9 Tryz.func144 rfl Tryz.ntmps144 (by simp only[go_sem]) λ hbd=> ?_
 simp only[ae,aj,Nat.reduceAdd,Nat.reduceSub,af,ag,ah,ak]
 simp only[dL,bu,go_sem,ac]
 refine⟨λ q=> ?_,λ q=> ?_⟩
 ·have q:n<l.length:=by simpa using q
  have e1:=bW (l:=l) (j:=n.toNat) (by omega)
  simp only[go_sem,e1,ac]
  exact⟨⟨by omega,by omega⟩,cw h⟩
 ·have q:¬n<l.length:=by simpa using q
  have e:l.getD n.toNat 0=0:=by rw[au,bm (by omega)];rfl
  rw[e]at h
  exact cw h
def vI(k:List Nat):List Int:=k.map λ n:Nat=>(n:Int)
theorem vI_at(k:List Nat)(i:Nat)(h:i<k.length):List.getD ((vI k).map iD) i default=iD ((k.getD i 0:Nat):Int):=by
 simp only[vI,au,aN,ap h];rfl
structure App (e:Ex) (k:List Nat):Prop where
 op:4≤e.op∧e.op≤14
 w:1≤e.w∧e.w≤8
 len:k.length=(Ex.arity e.op).toNat
 lt:∀i,k.getD i 0<256
 own:4≤e.op→e.op≤10→∀i,i<k.length→k.getD i 0<2^e.w.toNat
 bit:e.op=14→k.getD 0 0<2
theorem apply_r(old now:List Int)(e:Ex)(k:List Nat)(hk:App e k)(Z:St)(G:Glob)(R:A→St→Prop)(h:R (dn (ss old now e.op e.w.toNat e.n k)) Z):AC Tryz.prog G 145 [.d (eD e),dL (vI k)] Z R:=by
 obtain⟨ho,hw,hl,h256,hown,hbit⟩:=hk
 have ho':e.op=4∨e.op=5∨e.op=6∨e.op=7∨e.op=8∨e.op=9∨e.op=10∨e.op=11∨e.op=12∨e.op=13∨e.op=14:=by omega
 have hvl:((vI k).map iD).length=k.length:=by simp [vI]
 have g0:0<k.length→List.getD ((vI k).map iD) 0 default=iD ((k.getD 0 0:Nat):Int):=vI_at k 0
 have g1:1<k.length→List.getD ((vI k).map iD) 1 default=iD ((k.getD 1 0:Nat):Int):=vI_at k 1
 obtain⟨W,hW⟩:∃W:Nat,e.w.toNat=W:=⟨_,rfl⟩
 have hp:=qb (w:=W) (by omega)
 have hp0:=yY W
 obtain⟨a,ha⟩:∃a,k.getD 0 0=a:=⟨_,rfl⟩
 obtain⟨b,hb⟩:∃b,k.getD 1 0=b:=⟨_,rfl⟩
 obtain⟨c,hc⟩:∃c,k.getD 2 0=c:=⟨_,rfl⟩
 have a256:=h256 0
 have b256:=h256 1
 have c256:=h256 2
 rw[ha]at a256 g0;rw[hb]at b256 g1;rw[hc]at c256
 rw[hW]at h hown
 have hml:=vR a256 b256
 have wa:IntKind.i64.wrap ((a:Int)+b)=(a:Int)+b:=cq _ (by omega) (by omega)
 have ws:IntKind.i64.wrap ((a:Int) - b)=(a:Int) - b:=cq _ (by omega) (by omega)
 have ws2:IntKind.i64.wrap ((a:Int) - b+((2^W:Nat):Int))=(a:Int) - b+((2^W:Nat):Int):=cq _ (by omega) (by omega)
 have wm:IntKind.i64.wrap ((a:Int)*b)=(a:Int)*b:=by
  have:(a:Int)*b=((a*b:Nat):Int):=by simp
  rw[this];exact cq _ (by omega) (by omega)
 have wp:IntKind.i64.wrap (((2^W:Nat):Int) - 1)=((2^W:Nat):Int) - 1:=cq _ (by omega) (by omega)
 have wq:IntKind.i64.wrap (((2^W:Nat):Int) - 1 - a)=((2^W:Nat):Int) - 1 - a:=cq _ (by omega) (by omega)
 have b2:=An (a:=a) (b:=b) (by omega) (by omega)
 have b3:=Cw (a:=a) (b:=b) (by omega) (by omega)
 have b4:=Am (a:=a) (b:=b) (by omega) (by omega)
 have t1:((a:Int)==(b:Int))=(a==b):=by rw[dD,cg,cg];omega
 have t2:decide ((a:Int)<(b:Int))=decide (a<b):=by apply decide_eq_decide.2;omega
 have t3:decide ((a:Int)≤(b:Int))=decide (a≤b):=by apply decide_eq_decide.2;omega
 have hpz:=λ (Z':St)=>yX e.w (by omega) Z' G (λ r s=>r=di ((2^W:Nat):Int)∧s=Z') ⟨by rw[hW],rfl⟩
 have hlo:=λ (x:Int) (Z':St) (R':A→St→Prop) (h':R' (dn (lowb x W)) Z')=>low_r x e.w hw Z' G R' (by rw[hW];exact h')
 have lowk:∀(x:Int) (N:Nat),lowb x W=N→ss old now e.op W e.n k=N→∀(Z':St) (R':A→St→Prop),R' (dn (ss old now e.op W e.n k)) Z'→AC Tryz.prog G 143 [di x,di e.w] Z' R':=λ x N h1 h2 Z' R' h'=>hlo x Z' R' (by rw[h1,←h2];exact h')
 unfold eD
 refine bM a9 Tryz.func145 rfl Tryz.ntmps145 (by simp only[go_sem]) λ hbd=> ?_
 simp only[ae,aj,Nat.reduceAdd,Nat.reduceSub,af,ag,ah,ak]
 simp only[dL,bu,go_sem,hvl]
 rcases ho' with o|o|o|o|o|o|o|o|o|o|o<;> simp only[o,ss,Int.reduceEq,if_true,if_false,ha,hb,hc]at h lowk<;> simp only[go_sem,o,Int.reduceBEq]
 ·have hlk:k.length=1:=by rw[hl,o];rfl
  have g0:=g0 (by omega)
  refine bb (.tk 2 0<| .take 4<| .pure 2<| .take 3<| .tk 4 5<| .done) (by kernel_rfl) ?_
  try simp only[go_sem]
  refine mN (di ((2^W:Nat):Int)) ⟨λ Z'=>bH (hpz Z'),?_⟩
  simp only[go_sem,bZ,hvl,g0,wp,wq]
  have:=hown (by omega) (by omega) 0 (by omega)
  rw[ha]at this
  refine⟨⟨by omega,by omega⟩,aQ hbd ?_⟩
  rw[show dn (2^W - 1 - a)=di (((2^W:Nat):Int) - 1 - a)by show di _=di _;congr 1;omega]at h
  exact h
 ·have hlk:k.length=2:=by rw[hl,o];rfl
  have g0:=g0 (by omega)
  have g1:=g1 (by omega)
  refine bb (.tk 8 0<| .done) (by kernel_rfl) ?_
  simp only[go_sem,bZ,dI,hvl,g0,g1,b2]
  exact⟨⟨by omega,by omega⟩,⟨by omega,by omega⟩,aQ hbd h⟩
 ·have hlk:k.length=2:=by rw[hl,o];rfl
  have g0:=g0 (by omega)
  have g1:=g1 (by omega)
  refine bb (.tk 8 0<| .done) (by kernel_rfl) ?_
  simp only[go_sem,bZ,dI,hvl,g0,g1,b3]
  exact⟨⟨by omega,by omega⟩,⟨by omega,by omega⟩,aQ hbd h⟩
 ·have hlk:k.length=2:=by rw[hl,o];rfl
  have g0:=g0 (by omega)
  have g1:=g1 (by omega)
  refine bb (.tk 8 0<| .done) (by kernel_rfl) ?_
  simp only[go_sem,bZ,dI,hvl,g0,g1,b4]
  exact⟨⟨by omega,by omega⟩,⟨by omega,by omega⟩,aQ hbd h⟩
 ·have hlk:k.length=2:=by rw[hl,o];rfl
  have g0:=g0 (by omega)
  have g1:=g1 (by omega)
  refine bb (.tk 11 0<| .done) (by kernel_rfl) ?_
  simp only[go_sem,bZ,dI,hvl,g0,g1,wa]
  refine⟨⟨by omega,by omega⟩,⟨by omega,by omega⟩,bH (lowk _ _ (by rw[show(a:Int)+b=((a+b:Nat):Int)by simp,kh]) rfl _ _ ?_)⟩
  try simp only[go_sem]
  exact aQ hbd h
 ·have hlk:k.length=2:=by rw[hl,o];rfl
  have g0:=g0 (by omega)
  have g1:=g1 (by omega)
  refine bb (.take 0<| .take 3<| .tk 2 7<| .pure 9<| .tk 2 1<| .tk 3 4<| .tk 3 10<| .pure 13<| .take 14<| .done) (by kernel_rfl) ?_
  simp only[go_sem,bZ,dI,hvl,g0,g1,ws]
  refine mN (di ((2^W:Nat):Int)) ⟨λ Z'=>bH (hpz Z'),?_⟩
  simp only[go_sem,bZ,dI,hvl,g0,g1,ws,ws2]
  have:=hown (by omega) (by omega) 1 (by omega)
  rw[hb]at this
  refine⟨⟨by omega,by omega⟩,⟨by omega,by omega⟩,mN (dn ((a+(2^W - b)) % 2^W)) ⟨λ Z'=> ?_,?_⟩⟩
  ·simp only[go_sem]
   exact bH (lowk _ _ (by rw[show(a:Int) - b+((2^W:Nat):Int)=((a+(2^W - b):Nat):Int)by omega,kh]) rfl _ _ ⟨rfl,rfl⟩)
  try simp only[go_sem]
  exact aQ hbd h
 ·have hlk:k.length=2:=by rw[hl,o];rfl
  have g0:=g0 (by omega)
  have g1:=g1 (by omega)
  refine bb (.tk 11 0<| .done) (by kernel_rfl) ?_
  simp only[go_sem,bZ,dI,hvl,g0,g1,wm]
  refine⟨⟨by omega,by omega⟩,⟨by omega,by omega⟩,bH (lowk _ _ (by rw[show(a:Int)*b=((a*b:Nat):Int)by simp,kh]) rfl _ _ ?_)⟩
  try simp only[go_sem]
  exact aQ hbd h
 ·have hlk:k.length=2:=by rw[hl,o];rfl
  have g0:=g0 (by omega)
  have g1:=g1 (by omega)
  refine bb (.tk 40 0<| .done) (by kernel_rfl) ?_
  simp only[go_sem,o,Int.reduceBEq,bZ,dI,hvl,g0,g1,t1,t2,t3]
  refine⟨⟨by omega,by omega⟩,⟨by omega,by omega⟩,λ q=>aQ hbd ?_,λ q=>aQ hbd ?_⟩
  ·rw[q]at h;exact h
  ·rw[q]at h;exact h
 ·have hlk:k.length=2:=by rw[hl,o];rfl
  have g0:=g0 (by omega)
  have g1:=g1 (by omega)
  refine bb (.tk 40 0<| .done) (by kernel_rfl) ?_
  simp only[go_sem,o,Int.reduceBEq,bZ,dI,hvl,g0,g1,t1,t2,t3]
  refine⟨⟨by omega,by omega⟩,⟨by omega,by omega⟩,λ q=>aQ hbd ?_,λ q=>aQ hbd ?_⟩
  ·rw[q]at h;exact h
  ·rw[q]at h;exact h
 ·have hlk:k.length=2:=by rw[hl,o];rfl
  have g0:=g0 (by omega)
  have g1:=g1 (by omega)
  refine bb (.tk 40 0<| .done) (by kernel_rfl) ?_
  simp only[go_sem,o,Int.reduceBEq,bZ,dI,hvl,g0,g1,t1,t2,t3]
  refine⟨⟨by omega,by omega⟩,⟨by omega,by omega⟩,λ q=>aQ hbd ?_,λ q=>aQ hbd ?_⟩
  ·rw[q]at h;exact h
  ·rw[q]at h;exact h
 ·have hlk:k.length=3:=by rw[hl,o];rfl
  have g0:=g0 (by omega)
  have a2:=hbit o
  rw[ha]at a2
  have w2:IntKind.i64.wrap (2 - (a:Int))=((2 - a:Nat):Int):=by rw[cq _ (by omega) (by omega)];omega
  have g2:=vI_at k (2 - a) (by omega)
  simp only[go_sem,o,Int.reduceBEq,bZ,ad,hvl,g0,g2,w2]
  refine⟨⟨by omega,by omega⟩,⟨by omega,by omega⟩,aQ hbd ?_⟩
  have a01:a=0∨a=1:=by omega
  rcases a01 with q|q<;> subst q
  ·rw[if_neg (by decide)]at h
   rw[show 2 - 0=2 from rfl,hc];exact h
  ·rw[if_pos rfl]at h
   rw[show 2 - 1=1 from rfl,hb];exact h
theorem app_of{old now:List Int}{l:Nat}{e:Ex}(hd:e.deep (l+1)=true)(h4:4≤e.op):App e (e.kids.map (kF old now)):=by
 have hkd:∀k∈e.kids,k.deep l=true:=λ k hk=>jc hd hk
 have hf:e.fits=true:=by simp only[Ex.deep,aB]at hd;exact hd.1
 simp only[Ex.fits,aB,av]at hf
 obtain⟨⟨ha,w1,w8⟩,hf⟩:=hf
 have hop:e.op≤14:=by
  unfold Ex.arity at ha
  split at ha
  ·omega
  ·split at ha
   ·omega
   ·split at ha
    ·omega
    ·split at ha<;> omega
 have hkw:∀i,(e.kids.map (kF old now)).getD i 0<2^(e.kw i).toNat:=λ i=>by
  rw[au,aN]
  rcases aC i e.kids.length with hi|hi
  ·rw[ap hi]
   have:=uv (old:=old) (now:=now) l e.kids[i] (hkd _ (bI hi))
   simp only[bJ,b9,Ex.kw]
   rw[au,ap hi]
   exact this
  ·rw[bm hi]
   exact Nat.pow_pos (by omega)
 rw[if_neg (by omega),if_neg (by omega)]at hf
 refine⟨⟨h4,hop⟩,⟨w1,w8⟩,by rw[ac];omega,λ i=> ?_,λ _ h10 i hi=> ?_,λ o=> ?_⟩
 ·rw[au,aN]
  rcases aC i e.kids.length with hi|hi
  ·rw[ap hi]
   have h1:=uv (old:=old) (now:=now) l e.kids[i] (hkd _ (bI hi))
   have h2:e.kids[i].w≤8:=by
    have:=hkd _ (bI hi)
    cases l with
    |zero=>simp [Ex.deep]at this
    |succ l=>
     simp only[Ex.deep,aB,Ex.fits,av]at this
     exact this.1.1.2.2
   have:=qb (w:=e.kids[i].w.toNat) (by omega)
   simp only[bJ,b9]
   omega
  ·rw[bm hi];simp
 ·rw[ac]at hi
  have h0:=hkw i
  have:e.kw i=e.w:=by
   by_cases o4:e.op=4
   ·rw[if_pos o4,av]at hf
    have:e.kids.length=1:=by rw[o4]at ha;simp [Ex.arity]at ha;omega
    have:i=0:=by omega
    subst this;exact hf.2
   ·rw[if_neg o4,if_neg (by omega),if_neg (by omega),av]at hf
    have:e.kids.length=2:=by rw[Ex.arity,if_neg (by omega),if_neg o4,if_pos (by omega)]at ha;omega
    have:i=0∨i=1:=by omega
    rcases this with q|q<;> subst q
    ·exact hf.2.1
    ·exact hf.2.2
  rw[this]at h0;exact h0
 ·rw[if_neg (by omega),if_neg (by omega),if_pos o,av]at hf
  have:=hkw 0
  rw[hf.2.1]at this
  exact this
theorem apply1_r(e:Ex)(o:e.op=1)(d:D)(Z:St)(G:Glob)(R:A→St→Prop)(h:R (di e.n) Z):AC Tryz.prog G 145 [.d (eD e),.d d] Z R:=by
 unfold eD
 refine bM a9 Tryz.func145 rfl Tryz.ntmps145 (by simp only[go_sem]) λ hbd=> ?_
 simp only[ae,aj,Nat.reduceAdd,Nat.reduceSub,af,ag,ah,ak]
 simp only[go_sem,o,Int.reduceBEq]
 exact aQ hbd h
theorem fits_op{e:Ex}(hf:e.fits=true):1≤e.op∧e.kids.length≤3:=by
 simp only[Ex.fits,aB,av]at hf
 obtain⟨⟨ha,w1,w8⟩,hf⟩:=hf
 unfold Ex.arity at ha
 split at ha
 ·omega
 ·split at ha
  ·omega
  ·split at ha
   ·omega
   ·split at ha<;> omega
theorem value_r(old now:List Int)(ho:old.length≤reachBytes)(hn:now.length≤reachBytes)(l:Nat):∀(e:Ex) (hok:e.Ok) (hd:e.deep l=true) (Z:St) (G:Glob) (R:A→St→Prop) (h:R (dn (kF old now e)) Z),AC Tryz.prog G 115 [.d e.d,dL old,dL now] Z R:=by
 induction l with
 |zero=>intro e hok hd;simp [Ex.deep]at hd
 |succ l ih=>
  intro e hok hdp Z G R h
  obtain⟨hk,hks⟩:=hok
  have hkd:∀k∈e.kids,k.deep l=true:=λ k hk=>jc hdp hk
  have hf:e.fits=true:=by simp only[Ex.deep,aB]at hdp;exact hdp.1
  have hn0:=uj hf
  have hop:=fits_op hf
  have hw:1≤e.w∧e.w≤8:=by
   simp only[Ex.fits,aB,av]at hf;exact hf.1.2
  rw[Bn]at h
  rw[Ex.d_eq]
  refine bD [5] a9 Tryz.func115 rfl Tryz.ntmps115 (by simp only[go_sem]) λ hbd=> ?_
  simp only[ae,aj,Nat.reduceAdd,Nat.reduceSub,af,ag,ah,ak]
  by_cases o2:e.op=2
  ·simp only[ss,o2,if_true,Int.reduceEq,if_false]at h
   simp only[go_sem,o2,Int.reduceBEq]
   refine bb (.tk 3 0<| .pure 3<| .tk 2 4<| .pure 6<| .take 7<| .done) (by kernel_rfl) ?_
   try simp only[go_sem]
   refine mN (di (now.getD e.n.toNat 0)) ⟨λ Z'=>bH (at_r now e.n hn0 hn _ _ _ ⟨rfl,rfl⟩),?_⟩
   try simp only[go_sem]
   refine mN (dn (lowb (now.getD e.n.toNat 0) e.w.toNat)) ⟨λ Z'=>bH (low_r _ e.w hw _ _ _ ⟨rfl,rfl⟩),?_⟩
   try simp only[go_sem]
   exact aQ hbd h
  have b2:(e.op==2)=false:=by simp [o2]
  simp only[go_sem,b2]
  refine bc (λ fr st=>¬e.op=3∧fr=%[.o,dL old,dL now,.ref Z.length 0|D6 (D4 [.o,.o,.o,.o,.o,.o])]∧st=Z++[exA e.op e.w e.n (e.kids.map Ex.d)]) ?_ ?_
  ·by_cases o3:e.op=3
   ·simp only[ss,o3,if_true,Int.reduceEq,if_false]at h
    simp only[go_sem,o3,Int.reduceBEq]
    refine bb (.tk 3 0<| .pure 3<| .tk 2 4<| .pure 6<| .take 7<| .done) (by kernel_rfl) ?_
    try simp only[go_sem]
    refine mN (di (old.getD e.n.toNat 0)) ⟨λ Z'=>bH (at_r old e.n hn0 ho _ _ _ ⟨rfl,rfl⟩),?_⟩
    try simp only[go_sem]
    refine mN (dn (lowb (old.getD e.n.toNat 0) e.w.toNat)) ⟨λ Z'=>bH (low_r _ e.w hw _ _ _ ⟨rfl,rfl⟩),?_⟩
    try simp only[go_sem]
    exact aQ hbd h
   have b3:(e.op==3)=false:=by simp [o3]
   simp only[go_sem,b3]
   exact Wk.mask [1,2,3] ⟨o3,rfl,rfl⟩
  rintro fr st ⟨o3,rfl,rfl⟩
  simp only[go_sem,ac]
  obtain⟨kv,hkv⟩:∃kv,e.kids.map (kF old now)=kv:=⟨_,rfl⟩
  rw[hkv]at h
  have hkvl:kv.length=e.kids.length:=by rw[←hkv];simp
  refine aS (λ m fr st=>∃j:Nat,j≤e.kids.length∧m=e.kids.length - j∧fr=%[.o,dL old,dL now,.ref Z.length 0,.o,.o,.o,.rs (Z.length+1) 1 0 j (some 3),dn j|D6 (D4 [.o])]∧st=Z++[exA e.op e.w e.n (e.kids.map Ex.d),bY (vI (kv.take j))]) e.kids.length _ ⟨_,_,(bw.mask [1,2,3,7,8]).trans (bw.empty 7 1 (some 3) rfl),0,by omega,rfl,by rw[aF];rfl,by simp [vI,bY]⟩ ?_
  rintro m fr st ⟨j,hj,hm2,rfl,rfl⟩
  rcases aC j e.kids.length with hlt|hge
  ·have hdd:decide ((j:Int)<(e.kids.length:Int))=true:=by simp;omega
   obtain⟨k,hkk⟩:∃k,e.kids.getD j (.mk 0 0 0 [])=k:=⟨_,rfl⟩
   have hmem:k∈e.kids:=hkk▸mK hlt
   have e1:=pu hlt hkk
   have w2:=bC j (by simp only[reachBytes]at hk;omega)
   simp only[go_sem,hdd,ac,e1,ad]
   rw[←Ex.d_eq k]
   refine⟨⟨by omega,by omega⟩,bH (ih k (hks k hmem) (hkd k hmem) _ _ _ ?_)⟩
   have hkj:vI (kv.take (j+1))=vI (kv.take j)++[((kF old now k:Nat):Int)]:=by
    rw[bG 0 (by omega),vI,vI,aJ,←hkv,←hkk]
    congr 2
    rw[au,aN,au,ap hlt];rfl
   have hvl:(vI (kv.take j)).length=j:=by simp only[vI,ac,aP];omega
   simp only[go_sem,bY,w2,ac,ad]
   refine⟨⟨by simp;omega,by simp only[maxLen];omega,by omega⟩,Wk.keep [1,2,3,7,8] [0,3] (by decide) (aE _) hbd ⟨e.kids.length - (j+1),by omega,j+1,by omega,rfl,by simp only[go_sem],?_⟩⟩
   rw[hkj,aJ]
   simp only[go_sem,dj,cx,aM,bq]
  ·have hdd:decide ((j:Int)<(e.kids.length:Int))=false:=by simp;omega
   rw[aK (by omega)]
   have hvl:(vI kv).length=e.kids.length:=by simp only[vI,ac];omega
   simp only[go_sem,hdd,ac]
   refine bH (xS 1 1 0 ((vI kv).map iD) rfl (cJ _) ?_)
   simp only[go_sem,ac]
   rw[if_pos (by omega)]
   by_cases o1:e.op=1
   ·simp only[ss,if_pos o1]at h
    rw[show dn e.n.toNat=di ((e.n.toNat:Nat):Int)from rfl,show((e.n.toNat:Nat):Int)=e.n by omega]at h
    refine apply1_r e o1 _ _ _ _ ?_
    try simp only[go_sem]
    exact aQ hbd h
   have hap:=apply_r old now e kv (hkv▸app_of hdp (by omega))
   unfold eD at hap
   refine hap _ _ _ ?_
   try simp only[go_sem]
   exact aQ hbd h
theorem uu(e:Ex)(hok:e.Ok)(hf:e.formed=true)(old now:List Int)(ho:old.length≤reachBytes)(hn:now.length≤reachBytes)(Z:St)(G:Glob)(R:A→St→Prop)(h:R (dn (kF old now e)) Z):AC Tryz.prog G 76 [.d (eD e),dL old,dL now] Z R:=by
 have fo:=kO e hok
 have va:=value_r old now ho hn 40 e hok (r6 hf)
 rw[ed,hf]at fo
 rw[ed]at va
 unfold eD at*
 refine bM a9 Tryz.func76 rfl Tryz.ntmps76 (by simp only[go_sem]) λ hbd=> ?_
 simp only[ae,aj,Nat.reduceAdd,Nat.reduceSub,af,ag,ah,ak]
 try simp only[go_sem]
 refine bH (fo _ _ _ ?_)
 try simp only[go_sem]
 refine bH (va _ _ _ ?_)
 try simp only[go_sem]
 exact aQ hbd h
structure Good (p:Prg):Prop where
 sm:p.Small
 ok:p.Ok
 nm:NamesSz p
abbrev df(a b c:A):Option Ob:=some (.cells [a,b,c])
theorem nr(n:Nat)(p:List Nat)(k:Nat)(d:D):Go.Ab.ix n p (List.replicate k (A.d d))=List.replicate k (A.d d):=by
 induction k with
 |zero=>rfl
 |succ k ih=>simp only[af,go_sem,ih]
theorem lY(k sz:Nat):NilAL (List.replicate k (A.d .nils)) (List.replicate k (A.d (.sl sz []))):=by
 induction k with
 |zero=>exact .nil
 |succ k ih=>exact .cons (.d (.nil sz)) ih
theorem start_r(p:Prg)(hp:Good p)(Z:St)(G:Glob)(R:A→St→Prop)(h:R (.d (bX (bS p))) Z):AC Tryz.prog G 32 [.d (bK p)] Z R:=by
 have fo:=formed_r p hp.sm hp.nm hp.ok
 have hcn:=hp.sm.ncel
 have htn:=hp.sm.nthr
 unfold bK at*
 refine bD [3,8,15] a9 Tryz.func32 rfl Tryz.ntmps32 (by simp only[go_sem]) λ hbd=> ?_
 simp only[ae,aj,Nat.reduceAdd,Nat.reduceSub,af,ag,ah,ak]
 try simp only[go_sem]
 refine bc (λ fr st=>fr=%[.o,.ref Z.length 0,.ref (Z.length+1) 0|D6 (D5 [.o,.o,.o])]∧st=Z++[bN p,df (.d .nils) (.d .nils) (.d .nils)]) ?_ ?_
 ·simp only[aY,go_sem]
  refine bH (fo _ _ _ ?_)
  try simp only[go_sem]
  exact Wk.mask [1,2] ⟨rfl,rfl⟩
 rintro fr st ⟨rfl,rfl⟩
 simp only[aY,go_sem,ac]
 refine⟨⟨by omega,by omega,by omega,by omega⟩,?_⟩
 refine bc (λ fr st=>fr=%[.o,.ref Z.length 0,.ref (Z.length+1) 0,.ref (Z.length+3) 0|D6 (D5 [.o,.o])]∧st=Z++[bN p,df (.d .nils) (.d .nils) (.d .nils),some (.cells (List.replicate p.threads.length (.d (.sl 2 [])))),df (.d (bu (p.cells.map Cel.init))) (.d .nils) (.rs (Z.length+2) 1 0 p.threads.length (some 46))]) ?_ ?_
 ·simp only[aY,go_sem,ac]
  obtain⟨ini,hini⟩:∃ini,p.cells.map Cel.init=ini:=⟨_,rfl⟩
  have hil:ini.length=p.cells.length:=by rw[←hini];simp
  have hrep:(List.replicate p.threads.length [A.d D.nils]).flatten=List.replicate p.threads.length (A.d D.nils):=by simp
  rw[hini,hrep]
  refine aS (λ m fr st=>∃j:Nat,j≤p.cells.length∧m=p.cells.length - j∧fr=%[.o,.ref Z.length 0,.ref (Z.length+1) 0,.ref (Z.length+3) 0,dn j|D6 (D5 [.o])]∧st=Z++[bN p,df (.d .nils) (.d .nils) (.d .nils),some (.cells (List.replicate p.threads.length (.d (.sl 2 [])))),df (.rs (Z.length+4) 1 0 j (some 3)) (.d .nils) (.rs (Z.length+2) 1 0 p.threads.length (some 46)),bY (ini.take j)]) p.cells.length _ ?_ ?_
  ·refine Wk.via (bw.nilsO (Z:=Z) 2 rfl (lY _ 2)) ?_
   refine Wk.via (bw.emptyIn (Z:=Z) 3 0 1 (some 3) rfl rfl) ?_
   exact Wk.mask [1,2,3,4] ⟨0,by omega,by omega,rfl,by simp [bY]⟩
  rintro m fr st ⟨j,hj,hm,rfl,rfl⟩
  rcases aC j p.cells.length with hlt|hge
  ·have hd:decide ((j:Int)<(p.cells.length:Int))=true:=by simp;omega
   have w2:=bC j (by omega)
   have e1:=iM (l:=p.cells) hlt
   simp only[fb]at e1
   simp only[aY,go_sem,hd,ac]
   refine bb (.tk 12 0<| .done) (by kernel_rfl) ?_
   simp only[aY,go_sem,bY,w2,e1,ac,ad]
   refine⟨⟨by omega,by omega⟩,⟨by simp;omega,by simp only[maxLen];omega,by omega⟩,?_⟩
   refine Wk.keep [1,2,3,4] [0,1,2,3,6] (by decide) (aE _) hbd ⟨p.cells.length - (j+1),by omega,j+1,by omega,rfl,by simp only[go_sem],?_⟩
   have hx:ini.getD j 0=(p.cells.getD j fU).init:=by
    rw[←hini];simp only[au,aN,ap hlt];rfl
   rw[bG 0 (by omega),aJ,hx]
   simp only[go_sem,dj,cx,nr,aM,bq]
  ·have hd:decide ((j:Int)<(p.cells.length:Int))=false:=by simp;omega
   rw[aK (by omega)]
   simp only[aY,go_sem,hd,ac]
   refine Wk.via (bw.freezeIn (Z:=Z) 4 3 1 0 (ini.map iD) rfl (cJ _) rfl (by decide)) ?_
   simp only[go_sem,ac]
   rw[if_pos (by omega)]
   exact Wk.keep [1,2,3] [0,1,2,3] (by decide) (aE _) hbd ⟨by simp only[go_sem],by simp only[go_sem,nr,false_and,if_false,bu]⟩
 rintro fr st ⟨rfl,rfl⟩
 obtain⟨ini,hini⟩:∃ini,p.cells.map Cel.init=ini:=⟨_,rfl⟩
 obtain⟨ps,hps⟩:∃ps,(p.threads.map λ x:Thr=>if x.asleep then(-1:Int)else 0)=ps:=⟨_,rfl⟩
 have hpl:ps.length=p.threads.length:=by rw[←hps];simp
 have hbl:(List.replicate p.threads.length (D.sl 2 []))=p.threads.map λ _=>cu []:=by simp [cu,gY]
 unfold bS bX at h
 simp only[hini,hps,dZ,Function.comp_def,←hbl]at h
 simp only[hini]
 refine bc (λ fr st=>fr=%[.o,.o,.ref Z.length 0,.ref (Z.length+1) 0|D6 (D5 [.o,.o])]∧st=Z++[df (.d .nils) (.d .nils) (.d .nils),df (.d (bu ini)) (.d (bu ps)) (.d (.sl 1 (List.replicate p.threads.length (.sl 2 []))))]) ?_ ?_
 ·simp only[go_sem,ac]
  refine aS (λ m fr st=>∃j:Nat,j≤p.threads.length∧m=p.threads.length - j∧fr=%[.o,.ref Z.length 0,.ref (Z.length+1) 0,.ref (Z.length+3) 0,.o,dn j|D6 (D5 [])]∧st=Z++[bN p,df (.d .nils) (.d .nils) (.d .nils),some (.cells (List.replicate p.threads.length (.d (.sl 2 [])))),df (.d (bu ini)) (.rs (Z.length+4) 1 0 j (some 3)) (.rs (Z.length+2) 1 0 p.threads.length (some 46)),bY (ps.take j)]) p.threads.length _ ?_ ?_
  ·refine Wk.via (bw.emptyIn (Z:=Z) 3 1 1 (some 3) rfl rfl) ?_
   exact Wk.mask [1,2,3,5] ⟨0,by omega,by omega,rfl,by simp [bY]⟩
  rintro m fr st ⟨j,hj,hm,rfl,rfl⟩
  rcases aC j p.threads.length with hlt|hge
  ·have hd:decide ((j:Int)<(p.threads.length:Int))=true:=by simp;omega
   have w2:=bC j (by omega)
   have e1:=fe (l:=p.threads) hlt
   have hx:ps.getD j 0=if(p.threads.getD j fg).asleep then(-1:Int)else 0:=by
    rw[←hps];simp only[au,aN,ap hlt];rfl
   generalize p.threads.getD j fg=x at e1 hx
   simp only[go_sem,hd,e1,c8,bY,w2,ac,ad]
   refine⟨⟨by omega,by omega⟩,λ q=> ?_,λ q=> ?_⟩
   ·refine⟨⟨by simp;omega,by simp only[maxLen];omega,by omega⟩,?_⟩
    rw[q,if_pos rfl]at hx
    refine Wk.keep [1,2,3,5] [0,1,2,3,6] (by decide) (aE _) hbd ⟨p.threads.length - (j+1),by omega,j+1,by omega,rfl,by simp only[go_sem],?_⟩
    rw[bG 0 (by omega),aJ,hx]
    simp only[go_sem,dj,cx,nr,aM,bq,bu]
   ·refine⟨⟨by simp;omega,by simp only[maxLen];omega,by omega⟩,?_⟩
    rw[q,if_neg cX]at hx
    refine Wk.keep [1,2,3,5] [0,1,2,3,6] (by decide) (aE _) hbd ⟨p.threads.length - (j+1),by omega,j+1,by omega,rfl,by simp only[go_sem],?_⟩
    rw[bG 0 (by omega),aJ,hx]
    simp only[go_sem,dj,cx,nr,aM,bq,bu]
  ·have hd:decide ((j:Int)<(p.threads.length:Int))=false:=by simp;omega
   rw[aK (by omega)]
   simp only[go_sem,hd,ac]
   refine Wk.via (bw.freezeIn (Z:=Z) 4 3 1 0 (ps.map iD) rfl (cJ _) rfl (by decide)) ?_
   simp only[go_sem,ac,false_and,if_false]
   rw[if_pos (by omega)]
   refine Wk.via (bw.freezeIn (Z:=Z) 2 3 1 0 (List.replicate p.threads.length (.sl 2 [])) rfl ?_ rfl (by decide)) ?_
   ·have:=gV (λ _:Thr=>D.sl 2 []) (λ _=>⟨rfl,rfl⟩) p.threads
    rwa [gY,gY]at this
   simp only[go_sem,fd,and_self,if_true]
   exact Wk.keep [2,3] [1,3] (by decide) (aE _) hbd ⟨by simp only[go_sem],by simp only[go_sem,bu]⟩
 rintro fr st ⟨rfl,rfl⟩
 try simp only[go_sem]
 exact aQ hbd h
theorem ml(l:List Int)(hl:l.length≤1000)(Z:St)(G:Glob)(R:A→St→Prop)(h:R (.rs Z.length 1 0 l.length (some 3)) (Z++[bY l])):AC Tryz.prog G 113 [.d (bu l)] Z R:=by
 unfold bu
 refine bg a9 Tryz.func113 rfl Tryz.ntmps113 (by simp only[go_sem]) λ hbd=> ?_
 simp only[ae,aj,Nat.reduceAdd,Nat.reduceSub,af,ag,ah,ak]
 try simp only[go_sem]
 refine aS (λ m fr st=>∃j:Nat,j≤l.length∧m=l.length - j∧fr=%[.d (.sl 1 (l.map iD)),.o,.o,.rs Z.length 1 0 j (some 3),dn j|D4 [.o,.o,.o,.o,.o,.o]]∧st=Z++[bY (l.take j)]) l.length _ ?_ ?_
 ·exact⟨_,_,(bw.mask [0,3,4]).trans (bw.empty 3 1 (some 3) rfl),0,by omega,by omega,by simp [iX],by simp [bY]⟩
 rintro m fr st ⟨j,hj,hm,rfl,rfl⟩
 rcases aC j l.length with hlt|hge
 ·have hd:decide ((j:Int)<(l.length:Int))=true:=by simp;omega
  have w2:=bC j (by omega)
  simp only[go_sem,bY,hd,w2,bW hlt,ac,ad]
  refine⟨⟨by omega,by omega⟩,⟨by simp;omega,by simp only[maxLen];omega,by omega⟩,Wk.keep [0,3,4] [2] (by decide) (aE _) hbd ⟨l.length - (j+1),by omega,j+1,by omega,rfl,by simp only[go_sem],?_⟩⟩
  rw[bG 0 hlt,aJ]
  simp only[go_sem,dj,cx,aM,bq]
 ·have hd:decide ((j:Int)<(l.length:Int))=false:=by simp;omega
  obtain rfl:j=l.length:=by omega
  rw[aK (aE _)]
  simp only[go_sem,hd,ac]
  refine nn [0] (by decide) hbd ?_
  simp only[go_sem,bY,cx]
  exact h
def yb(m:List Int)(e:Ent)(j:Nat):List Int:=((e.cells.zip e.vals).take j).foldl (λ m q=>m.set q.1.toNat q.2) m
theorem ya(m:List Int)(e:Ent)(j:Nat)(hv:e.vals.length=e.cells.length)(h:j<e.cells.length):yb m e (j+1)=(yb m e j).set (e.cells.getD j 0).toNat (e.vals.getD j 0):=by
 unfold yb
 rw[gp,dG,ap (by rw[f9];omega)]
 simp only[Option.toList_some,cc,List.foldl_nil,List.getElem_zip,au,ap h,ap (show j<e.vals.length by omega),b9]
theorem BP(m:List Int)(e:Ent)(j:Nat):(yb m e j).length=m.length:=by
 unfold yb
 generalize (e.cells.zip e.vals).take j=l
 induction l generalizing m with
 |nil=>rfl
 |cons q l ih=>rw[cc,ih,aH]
structure EntIn (n:Nat) (e:Ent):Prop where
 len:e.vals.length=e.cells.length
 few:e.cells.length≤100
 cell:∀c∈e.cells,0≤c∧c<n
theorem put_r(m:List Int)(hm:m.length≤1000)(e:Ent)(he:EntIn m.length e)(Z:St)(G:Glob)(R:A→St→Prop)(h:R (.d (bu (oI m e))) Z):AC Tryz.prog G 112 [.d (bu m),.d (bO e)] Z R:=by
 obtain⟨hv,hf,hc⟩:=he
 unfold bO
 refine bM a9 Tryz.func112 rfl Tryz.ntmps112 (by simp only[go_sem]) λ hbd=> ?_
 simp only[ae,aj,Nat.reduceAdd,Nat.reduceSub,af,ag,ah,ak]
 try simp only[go_sem]
 refine bH (ml m hm _ _ _ ?_)
 simp only[bu,go_sem,ac]
 refine aS (λ k fr st=>∃j:Nat,j≤e.cells.length∧k=e.cells.length - j∧fr=%[.o,.o,.o,.ref Z.length 0,.o,.rs (Z.length+1) 1 0 m.length (some 3),dn j|D5 [.o,.o,.o,.o,.o,.o]]∧st=Z++[some (.cells [.d (bu e.cells),.d (bu e.vals)]),bY (yb m e j)]) e.cells.length _ (Wk.mask [3,5,6] ⟨0,by omega,by omega,rfl,rfl⟩) ?_
 rintro k fr st ⟨j,hj,hk,rfl,rfl⟩
 rcases aC j e.cells.length with hlt|hge
 ·have hd:decide ((j:Int)<(e.cells.length:Int))=true:=by simp;omega
  have w2:=bC j (by omega)
  have e1:=bW (l:=e.cells) hlt
  have e2:=bW (l:=e.vals) (j:=j) (by omega)
  have hcj:=hc (e.cells.getD j 0) (by rw[au,ap hlt];exact bI hlt)
  have hl:=BP m e j
  have hset:=kH (l:=yb m e j) (j:=(e.cells.getD j 0).toNat) (e.vals.getD j 0) (by omega)
  rw[←ya m e j hv hlt]at hset
  simp only[bu,go_sem,hd,w2,ac,ad,e1,e2]
  refine bb (.tk 13 0<| .done) (by kernel_rfl) ?_
  simp only[bu,bY,go_sem,w2,ac,ad,br,ci,e1,e2,hset,hl]
  exact⟨⟨by omega,by omega⟩,⟨by omega,by omega⟩,hcj,by omega,Wk.mask [3,5,6] ⟨e.cells.length - (j+1),by omega,j+1,by omega,rfl,rfl,rfl⟩⟩
 ·have hd:decide ((j:Int)<(e.cells.length:Int))=false:=by simp;omega
  have hw:yb m e j=oI m e:=by unfold yb oI;rw[aK (by rw[f9];omega)]
  rw[hw]
  simp only[bu,go_sem,hd,ac]
  refine de 1 1 0 ((oI m e).map iD) rfl (cJ _) ?_
  simp only[go_sem,ac]
  rw[if_pos (sF m e).symm]
  exact aQ hbd h
theorem view_r(c:Cfg)(t:Nat)(ht:t<c.buf.length)(hm:c.mem.length≤1000)(hf:(c.bufAt t).length≤100)(he:∀e∈c.bufAt t,EntIn c.mem.length e)(Z:St)(G:Glob)(R:A→St→Prop)(h:R (.d (bu (cT c t))) Z):AC Tryz.prog G 74 [.d (bX c),dn t] Z R:=by
 have eb:List.getD (c.buf.map cu) t default= .sl 2 ((c.bufAt t).map bO):=gH (l:=c.buf) ht
 obtain⟨B,hB⟩:∃B,c.bufAt t=B:=⟨_,rfl⟩
 have hv:cT c t=B.foldl oI c.mem:=by unfold cT;rw[hB]
 rw[hv]at h
 rw[hB]at eb hf he
 unfold bX
 refine bg a9 Tryz.func74 rfl Tryz.ntmps74 (by simp only[go_sem]) λ hbd=> ?_
 simp only[ae,aj,Nat.reduceAdd,Nat.reduceSub,af,ag,ah,ak]
 try simp only[go_sem]
 refine bH (kJ c.mem hm _ _ _ ?_)
 try simp only[go_sem]
 refine aS (λ k fr st=>∃j:Nat,j≤B.length∧k=B.length - j∧fr=%[.o,dn t,.ref Z.length 0,.o,.o,.d (bu ((B.take j).foldl oI c.mem)),dn j|D5 (D4 [])]∧st=Z++[some (.cells [.d (bu c.mem),.d (bu c.pos),.d (.sl 1 (c.buf.map cu))])]) B.length _ (Wk.mask [1,2,5,6] ⟨0,by omega,by omega,rfl,rfl⟩) ?_
 rintro k fr st ⟨j,hj,hk,rfl,rfl⟩
 rcases aC j B.length with hlt|hge
 ·have hd:decide ((j:Int)<(B.length:Int))=true:=by simp;omega
  have w2:=bC j (by omega)
  have e2:=gG (l:=B) hlt
  have hmem:B.getD j cD∈B:=by rw[au,ap hlt];exact bI hlt
  have hl:((B.take j).foldl oI c.mem).length=c.mem.length:=by
   generalize B.take j=L
   generalize c.mem=m0
   induction L generalizing m0 with
   |nil=>rfl
   |cons q L ih=>rw[cc,ih,sF]
  have hp:=put_r ((B.take j).foldl oI c.mem) (by omega) (B.getD j cD) (by rw[hl];exact he _ hmem)
  have hs:(B.take (j+1)).foldl oI c.mem=oI ((B.take j).foldl oI c.mem) (B.getD j cD):=by
   rw[bG cD hlt,dG];rfl
  unfold bO at hp
  simp only[go_sem,eb,e2,bO,hd,w2,ac,ad]
  refine⟨⟨by omega,by omega⟩,⟨by omega,by omega⟩,⟨by omega,by omega⟩,bH (hp _ _ _ ?_)⟩
  simp only[go_sem,w2]
  exact Wk.mask [1,2,5,6] ⟨B.length - (j+1),by omega,j+1,by omega,rfl,by rw[hs];rfl,rfl⟩
 ·have hd:decide ((j:Int)<(B.length:Int))=false:=by simp;omega
  rw[aK hge]
  simp only[go_sem,eb,hd,ac,ad]
  exact⟨⟨by omega,by omega⟩,aQ hbd h⟩
def mV(a b:Ent):Bool:=a.cells.any λ c=>b.cells.contains c
theorem A4(a b:Ent):mV a b=mV b a:=by
 rw[dD]
 simp only[mV,d8,dv]
 exact⟨λ ⟨x,h1,h2⟩=>⟨x,h2,h1⟩,λ ⟨x,h1,h2⟩=>⟨x,h2,h1⟩⟩
theorem gz{α:Type}{l:List α}{j:Nat}(d:α)(h:j<l.length){x:α}(hx:x∈l.take (j+1)):x∈l.take j∨x=l.getD j d:=by
 rw[bG d h]at hx
 rcases aW.1 hx with q|q
 ·exact .inl q
 ·exact .inr (cm.1 q)
theorem bv{α:Type}{l:List α}{j:Nat}(d:α)(h:j<l.length):l.getD j d∈l:=by
 rw[au,ap h];exact bI h
theorem meet_r(a b:Ent)(ha:a.cells.length≤100)(hb:b.cells.length≤100)(Z:St)(G:Glob)(R:A→St→Prop)(h:R (db (mV a b)) Z):AC Tryz.prog G 111 [.d (bO a),.d (bO b)] Z R:=by
 unfold bO
 refine bg a9 Tryz.func111 rfl Tryz.ntmps111 (by simp only[go_sem]) λ hbd=> ?_
 simp only[ae,aj,Nat.reduceAdd,Nat.reduceSub,af,ag,ah,ak]
 simp only[bu,go_sem,ac]
 refine aS (λ k fr st=>∃i:Nat,i≤a.cells.length∧k=a.cells.length - i∧(∀c∈a.cells.take i,c∉b.cells)∧fr=%[.o,.o,.ref Z.length 0,.ref (Z.length+1) 0,.o,dn i|D5 (D4 [.o,.o])]∧st=Z++[some (.cells [.d (bu a.cells),.d (bu a.vals)]),some (.cells [.d (bu b.cells),.d (bu b.vals)])]) a.cells.length _ (Wk.mask [2,3,5] ⟨0,by omega,by omega,by simp,rfl,rfl⟩) ?_
 rintro k fr st ⟨i,hi,hk,hno,rfl,rfl⟩
 rcases aC i a.cells.length with hlt|hge
 ·have hd:decide ((i:Int)<(a.cells.length:Int))=true:=by simp;omega
  have w2:=bC i (by omega)
  have e1:=bW (l:=a.cells) hlt
  simp only[bu,go_sem,hd,w2,ac,ad]
  refine aS (λ k fr st=>∃j:Nat,j≤b.cells.length∧k=b.cells.length - j∧(∀c∈b.cells.take j,c≠a.cells.getD i 0)∧fr=%[.o,.o,.ref Z.length 0,.ref (Z.length+1) 0,.o,dn i,dn j|D5 (D4 [.o])]∧st=Z++[some (.cells [.d (bu a.cells),.d (bu a.vals)]),some (.cells [.d (bu b.cells),.d (bu b.vals)])]) b.cells.length _ (Wk.mask [2,3,5,6] ⟨0,by omega,by omega,by simp,rfl,rfl⟩) ?_
  rintro k2 fr st ⟨j,hj,hk2,hne,rfl,rfl⟩
  rcases aC j b.cells.length with hl2|hg2
  ·have hd2:decide ((j:Int)<(b.cells.length:Int))=true:=by simp;omega
   have w3:=bC j (by omega)
   have e2:=bW (l:=b.cells) hl2
   simp only[bu,go_sem,hd2,w3,e1,e2,ac,ad]
   refine⟨⟨by omega,by omega⟩,⟨by omega,by omega⟩,λ q=>aQ hbd ?_,λ q=>Wk.mask [2,3,5,6] ⟨b.cells.length - (j+1),by omega,j+1,by omega,rfl,?_,rfl,rfl⟩⟩
   ·rw[show mV a b=true by
     simp only[mV,d8,dv]
     exact⟨_,bv 0 hlt,by rw[eq_of_beq q];exact bv 0 hl2⟩]at h
    exact h
   ·intro c hc
    rcases gz 0 hl2 hc with q2|q2
    ·exact hne c q2
    ·rw[q2];intro q3;rw[q3]at q;simp at q
  ·have hd2:decide ((j:Int)<(b.cells.length:Int))=false:=by simp;omega
   simp only[bu,go_sem,hd2,w2,ac,ad]
   refine Wk.mask [2,3,5] ⟨a.cells.length - (i+1),by omega,i+1,by omega,rfl,?_,rfl,rfl⟩
   intro c hc
   rcases gz 0 hlt hc with q2|q2
   ·exact hno c q2
   ·rw[q2];intro q3;rw[aK hg2]at hne;exact hne _ q3 rfl
 ·have hd:decide ((i:Int)<(a.cells.length:Int))=false:=by simp;omega
  simp only[bu,go_sem,hd,ac,ad]
  rw[aK hge]at hno
  rw[show mV a b=false by
   rw[fw];intro q
   simp only[mV,d8,dv]at q
   obtain⟨x,h1,h2⟩:=q
   exact hno x h1 h2]at h
  exact aQ hbd h
theorem Dr(l:List Ent)(e:Ent):nA l e=l.any λ o=>mV o e:=by
 unfold nA
 congr 1
 funext o
 rw[A4];rfl
theorem ready_r(m:Int)(l:List Ent)(hl:l.length≤100)(he:∀e∈l,e.cells.length≤100)(i:Nat)(hi:i<l.length)(Z:St)(G:Glob)(R:A→St→Prop)(h:R (db (eL m l i)) Z):AC Tryz.prog G 70 [di m,.d (cu l),dn i] Z R:=by
 unfold cu
 refine bD [3] a9 Tryz.func70 rfl Tryz.ntmps70 (by simp only[go_sem]) λ hbd=> ?_
 simp only[ae,aj,Nat.reduceAdd,Nat.reduceSub,af,ag,ah,ak]
 try simp only[go_sem]
 refine bc (λ fr st=>(i=0∨m=2)∧fr=%[.o,.d (.sl 2 (l.map bO)),dn i|D5 (D4 [.o])]∧st=Z) ?_ ?_
 ·try simp only[go_sem]
  refine⟨λ q=>cw ?_,λ q=>Wk.mask [1,2] ⟨?_,rfl,rfl⟩⟩
  ·have:eL m l i=false:=by
    simp only[aB,av,bne_iff_ne]at q
    simp only[eL]
    rw[show(i==0)=false by simp;omega,show(m==2)=false by simp;exact q.2];rfl
   rw[this]at h;exact h
  ·rcases cv i with z|z
   ·exact .inl z
   ·right
    rw[show decide ((0:Int)<(i:Int))=true by simp;omega]at q
    simpa using q
 rintro fr st ⟨hmi,rfl,rfl⟩
 have hr:eL m l i= !nA (l.take i) (l.getD i cD):=by
  unfold eL
  rcases hmi with z|z
  ·subst z;simp [nA]
  ·rw[show(m==2)=true by simp [z],ca]
   rcases cv i with z2|z2
   ·subst z2;simp [nA]
   ·rw[show(i==0)=false by simp;omega];rfl
 rw[hr,Dr]at h
 try simp only[go_sem]
 have ei:=gG (l:=l) hi
 have hei:=he _ (bv cD hi)
 generalize l.getD i cD=E at ei h hei
 refine aS (λ k fr st'=>∃j:Nat,j≤i∧k=i - j∧(∀o∈l.take j,mV o E=false)∧fr=%[.o,.d (.sl 2 (l.map bO)),dn i,.o,.o,.o,.o,dn j|D5 [.o,.o,.o,.o]]∧st'=st) i _ (Wk.mask [1,2,7] ⟨0,by omega,by omega,by simp,rfl,rfl⟩) ?_
 rintro k fr st' ⟨j,hj,hk,hno,rfl,rfl⟩
 rcases aC j i with hlt|hge
 ·have hd:decide ((j:Int)<(i:Int))=true:=by simp;omega
  have w2:=bC j (by omega)
  have ej:=gG (l:=l) (j:=j) (by omega)
  have hej:=he _ (bv cD (show j<l.length by omega))
  have ht:∀o∈l.take (j+1),o∈l.take j∨o=l.getD j cD:=λ o ho=>gz cD (by omega) ho
  have hmj:l.getD j cD∈l.take i:=by
   rw[au,←bL hlt,←au]
   exact bv cD (by rw[aP];omega)
  generalize l.getD j cD=O at ej hej ht hmj
  have mt:=meet_r O E hej hei
  unfold bO at mt
  simp only[go_sem,hd]
  refine bb (.tk 9 0<| .done) (by kernel_rfl) ?_
  simp only[go_sem,hd,ei,ej,bO,ac,ad]
  refine⟨⟨by omega,by omega⟩,⟨by omega,by omega⟩,bH (mt _ _ _ ?_)⟩
  simp only[go_sem,w2]
  refine⟨λ q=>cw ?_,λ q=>Wk.mask [1,2,7] ⟨i - (j+1),by omega,j+1,by omega,rfl,λ o ho=> ?_,rfl,rfl⟩⟩
  ·rw[show(l.take i).any (λ o=>mV o E)=true from d8.2 ⟨O,hmj,q⟩]at h
   exact h
  ·rcases ht o ho with z|z
   ·exact hno o z
   ·rw[z];exact q
 ·have hd:decide ((j:Int)<(i:Int))=false:=by simp;omega
  have:j=i:=by omega
  subst this
  simp only[go_sem,hd]
  rw[show(l.take j).any (λ o=>mV o E)=false from List.any_eq_false.2 λ o ho=>by rw[hno o ho];exact cX]at h
  exact cw h
end
end Go.Proofs.YtdpdbokicanpoaaGreatDoor
