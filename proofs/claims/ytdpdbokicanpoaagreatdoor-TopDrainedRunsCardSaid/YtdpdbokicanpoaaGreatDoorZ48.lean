import Derived.Test.YtdpdbokicanpoaaGreatDoorZ47
import Derived.Test.YtdpdbokicanpoaaGreatDoorAbRow
import Derived.Stop.Joined
import Derived.Test.YtdpdbokicanpoaaGreatDoorRA
import Derived.Test.YtdpdbokicanpoaaGreatDoorCards
import Derived.Test.YtdpdbokicanpoaaGreatDoorTie
set_option linter.unusedSimpArgs false
set_option linter.unusedVariables false
set_option maxHeartbeats 64000000
set_option maxRecDepth 100000
namespace Go.Proofs.YtdpdbokicanpoaaGreatDoor
section
open Go Go.Ab
def k9(op:Int):List Ex→Ex
 |[]=> .mk 0 0 0 []
 |x::r=>r.foldl (λ a b=> .mk op 1 0 [a,b]) x
theorem Bf(op:Int)(l:List Ex)(x:Ex)(h:l≠[]):k9 op (l++[x])= .mk op 1 0 [k9 op l,x]:=by
 cases l with
 |nil=>exact absurd rfl h
 |cons a r=>simp [k9,dG]
def kn(e:Ex)(c:Cfg):Bool:=fO c&&mu c.mem e==1
def uS(p:Prg)(mem:List Int)(i:Nat):Ex:= .mk 11 1 0 [.mk 2 (p.cells.getD i fU).w i [],.mk 1 (p.cells.getD i fU).w (mem.getD i 0) []]
def xW(p:Prg)(mem:List Int)(n:Nat):List Ex:=(List.range n).map (uS p mem)
def v6(p:Prg)(mem:List Int):Ex:=if p.cells.length=0 then .mk 1 1 1 []else k9 5 (xW p mem p.cells.length)
theorem sM(p:Prg)(mem:List Int)(n:Nat):(xW p mem n).length=n:=by simp [xW]
theorem isL_succ(p:Prg)(mem:List Int)(n:Nat):xW p mem (n+1)=xW p mem n++[uS p mem n]:=by simp [xW,eY]
theorem Ex.deep_up{l:Nat}:∀{e:Ex},e.deep l=true→e.deep (l+1)=true:=by
 induction l with
 |zero=>intro e h;exact absurd h (by simp [Ex.deep])
 |succ l ih=>
  intro e h
  rw[Ex.deep,aB,aZ]at h
  rw[Ex.deep,aB,aZ]
  exact⟨h.1,λ k hk=>ih (h.2 k hk)⟩
theorem Ex.deep_le{e:Ex}{l n:Nat}(h:e.deep l=true)(hn:l≤n):e.deep n=true:=by
 induction hn with
 |refl=>exact h
 |step _ ih=>exact Ex.deep_up ih
structure PtOk (p:Prg) (x:Ex):Prop where
 op:x.op≠1
 w:x.w=1
 ok:x.Ok
 n:x.nodes=3
 deep:x.deep 2=true
 over:x.over p.cells false=true
theorem Bo{p:Prg}(hs:p.Small)(hp:p.Ok){mem:List Int}(hm:MemOk p mem){i:Nat}(hi:i<p.cells.length):PtOk p (uS p mem i):=by
 have hn:=hs.ncel
 have hw:=AD hp (c:=(i:Int)) (by omega) (by omega)
 have hv:=hm.val i _ (pk 0 (by rw[hm.len];exact hi))
 simp only[Prg.cell,ad]at hw hv
 refine⟨by simp [uS,Ex.op],rfl,.mk (by simp [reachBytes,Ex.kids,uS]) ?_,rfl,?_,?_⟩
 ·intro k hk
  simp only[uS,Ex.kids,aV,bi,or_false]at hk
  rcases hk with rfl|rfl<;> exact .mk (by simp [reachBytes,Ex.kids]) (λ k hk=>by simp [Ex.kids]at hk)
 ·have z1:decide ((i:Int)<32)=true:=by simp;omega
  have z2:=hw.1
  have z3:=hw.2
  have z4:=hv.1
  have z5:=hv.2
  simp [-List.getD_eq_getElem?_getD,dA,eU,uS,Ex.deep,Ex.fits,Ex.arity,Ex.op,Ex.w,Ex.n,Ex.kids,Ex.kw,z2,z3,z4,z5]
  omega
 ·simp [uS,Ex.over,qc,Ex.overN,Ex.op,Ex.w,Ex.n]
  omega
theorem Cl(p:Prg):∀(r:List Ex) (a:Ex) (d:Nat),(∀x∈r,PtOk p x)→a.w=1→a.Ok→a.deep d=true→2≤d→a.over p.cells false=true→
  (r.foldl (λ a b=>Ex.mk 5 1 0 [a,b]) a).w=1∧(r.foldl (λ a b=>Ex.mk 5 1 0 [a,b]) a).Ok∧(r.foldl (λ a b=>Ex.mk 5 1 0 [a,b]) a).deep (d+r.length)=true∧(r.foldl (λ a b=>Ex.mk 5 1 0 [a,b]) a).over p.cells false=true∧(r.foldl (λ a b=>Ex.mk 5 1 0 [a,b]) a).nodes=a.nodes+4*r.length
 |[],a,d,_,h1,h2,h3,_,h4=>⟨h1,h2,h3,h4,rfl⟩
 |x::r,a,d,hr,h1,h2,h3,hd,h4=>by
  have hx:=hr x (by simp)
  have hxd:x.deep d=true:=Ex.deep_le hx.deep hd
  obtain⟨g1,g2,g3,g4,g5⟩:=Cl p r (.mk 5 1 0 [a,x]) (d+1) (λ y hy=>hr y (by simp [hy])) rfl
   (.mk (by simp [reachBytes,Ex.kids]) λ k hk=>by
    simp only[Ex.kids,aV,bi,or_false]at hk
    rcases hk with rfl|rfl
    ·exact h2
    ·exact hx.ok)
   (by
    have hw:=hx.w
    simp [Ex.deep,Ex.fits,Ex.arity,Ex.op,Ex.w,Ex.n,Ex.kids,Ex.kw,h3,hxd]
    exact⟨h1,hw⟩) (by omega)
   (by
    have ho:=hx.over
    simp [Ex.over,qc,Ex.overN,Ex.op,h4,ho])
  rw[cc]
  refine⟨g1,g2,by rw[ae,show d+(r.length+1)=d+1+r.length by omega];exact g3,g4,?_⟩
  rw[g5,ae]
  have hn:=hx.n
  simp only[Ex.nodes,Ex.nodesL]
  omega
theorem isL_mem{p:Prg}{mem:List Int}{n:Nat}{x:Ex}(h:x∈xW p mem n):∃i,i<n∧x=uS p mem i:=by
 simp only[xW,aI,eT]at h
 obtain⟨i,hi,rfl⟩:=h
 exact⟨i,hi,rfl⟩
theorem zB(p:Prg)(mem:List Int)(n:Nat):xW p mem (n+1)=uS p mem 0::((List.range n).map λ i=>uS p mem (i+1)):=by
 simp only[xW,List.range_succ_eq_map,aM,dZ]
 rfl
theorem isE_pt{p:Prg}(hs:p.Small)(hp:p.Ok){mem:List Int}(hm:MemOk p mem):(v6 p mem).Ok∧(v6 p mem).nodes≤600∧(v6 p mem).deep 40=true∧(v6 p mem).over p.cells false=true∧(v6 p mem).w=1:=by
 unfold v6
 by_cases h0:p.cells.length=0
 ·rw[if_pos h0]
  exact⟨.mk (by simp [reachBytes,Ex.kids]) (λ k hk=>by simp [Ex.kids]at hk),by decide,by decide,by simp [Ex.over,qc,Ex.overN,Ex.op],rfl⟩
 ·rw[if_neg h0]
  obtain⟨n,hn⟩:∃n,p.cells.length=n+1:=⟨p.cells.length - 1,by omega⟩
  have hnc:=hs.ncel
  rw[hn,zB]
  have h1:=Bo hs hp hm (i:=0) (by omega)
  obtain⟨g1,g2,g3,g4,g5⟩:=Cl p ((List.range n).map λ i=>uS p mem (i+1)) (uS p mem 0) 2 (λ x hx=>by
   simp only[aI,eT]at hx
   obtain⟨i,hi,rfl⟩:=hx
   exact Bo hs hp hm (by omega)) h1.w h1.ok h1.deep (by omega) h1.over
  have hl:((List.range n).map λ i=>uS p mem (i+1)).length=n:=by simp
  rw[hl]at g3 g5
  exact⟨g2,by show Ex.nodes (List.foldl _ _ _)≤600;rw[g5,h1.n];omega,Ex.deep_le g3 (by omega),g4,g1⟩
def vk(e:Ex):D:= .agg [iD (-1),iD 0,iD e.op,iD e.w,iD e.n,.sl 4 (e.kids.map Ex.d)]
abbrev sA(e:Ex):Option Ob:=some (.cells [.d (iD (-1)),.d (iD 0),.d (iD e.op),.d (iD e.w),.d (iD e.n),.d (.sl 4 (e.kids.map Ex.d))])
structure GolOk (p:Prg) (e:Ex):Prop where
 ok:e.Ok
 n:e.nodes≤600
 deep:e.deep 40=true
 over:e.over p.cells false=true
 w:e.w=1
theorem meetsU{G:Glob}(hG:G.g 0=some cB)(p:Prg)(hp:Good p)(e:Ex)(he:GolOk p e)(m:Int)(c:Cfg)(hf:Fits p m c)(Z:St)(R:A→St→Prop)(h:R (db (kn e c)) Z):AC Tryz.prog G 56 [.d (bX c),.d (vk e)] Z R:=by
 obtain⟨z1,z2,z3,z4⟩:=hf.sz hp
 have qu:=tI c (by omega)
 have ev:=xG e he.ok he.n he.deep c.mem c.mem (by simp only[reachBytes];omega) (by simp only[reachBytes];omega)
 rw[ed]at ev
 have z0:decide ((-1:Int)≥0)=false:=rfl
 have z0':decide ((0:Int)≤-1)=false:=rfl
 unfold kn at h
 unfold bX at qu
 unfold eD at ev
 unfold bX vk
 refine bg a9 Tryz.func56 rfl Tryz.ntmps56 (by simp only[go_sem]) λ hbd=> ?_
 simp only[ae,aj,Nat.reduceAdd,Nat.reduceSub,af,ag,ah,ak]
 simp only[bu,go_sem]
 refine bH (qu _ _ _ ?_)
 rcases Bool.eq_false_or_eq_true (fO c)with hq|hq
 ·rw[hq]at h ⊢
  simp only[bu,go_sem,z0,z0']
  refine bH (ev _ _ hG _ ?_)
  try simp only[go_sem]
  exact aQ hbd h
 ·rw[hq]at h ⊢
  simp only[bu,go_sem,z0,z0']
  exact aQ hbd h
theorem find1U{G:Glob}(hG:G.g 0=some cB)(p:Prg)(hp:Good p)(e:Ex)(he:GolOk p e)(m:Int)(c:Cfg)(hf:Fits p m c)(gx:Nat)(st:St)(hg:st[gx]? =some (sA e))(R:A→St→Prop)(h:∀l,R (db (kn e c)) (st++l)):AC Tryz.prog G 55 [.d (bX c),.ref gx 0] st R:=by
 have me:=meetsU hG p hp e he m c hf
 unfold bX vk at*
 refine bg a9 Tryz.func55 rfl Tryz.ntmps55 (by simp only[go_sem]) λ hbd=> ?_
 simp only[ae,aj,Nat.reduceAdd,Nat.reduceSub,af,ag,ah,ak]
 simp only[go_sem,iY hg,gU hg,fC]
 refine bH (me _ _ ?_)
 try simp only[go_sem]
 exact⟨_,_,bw.refl _ _ _ _,h _⟩
theorem aimsU{G:Glob}(hG:G.g 0=some cB)(p:Prg)(hp:Good p)(e:Ex)(he:GolOk p e)(Z:St)(R:A→St→Prop)(h:R (db true) Z):AC Tryz.prog G 54 [.d (bK p),.d (vk e)] Z R:=by
 have htn:=hp.sm.nthr
 have va:=ng e he.ok he.n p.cells false
 rw[he.deep,he.over,ed]at va
 have z0:decide ((-1:Int)< -1)=false:=rfl
 have z1:decide ((p.threads.length:Int)≤-1)=false:=by rw[ay];omega
 have z1':decide ((-1:Int)≥(p.threads.length:Int))=false:=by rw[ay];omega
 have z2:decide ((-1:Int)≥0)=false:=rfl
 have z2':decide ((0:Int)≤-1)=false:=rfl
 have z3:((1:Int)==1)=true:=rfl
 have hw:=he.w
 unfold eD aY at va
 unfold bK vk
 refine bg a9 Tryz.func54 rfl Tryz.ntmps54 (by simp only[go_sem]) λ hbd=> ?_
 simp only[ae,aj,Nat.reduceAdd,Nat.reduceSub,af,ag,ah,ak]
 simp only[aY,go_sem,z0,z1,z1',z2,z2',ac]
 refine bH (va _ _ hG _ ?_)
 simp only[go_sem,hw,z3]
 exact aQ hbd h
theorem wy(L:List Cho)(i:Nat)(hi:i<L.length):bU (L.map c7)=bU ((L.take i).map c7)++([.d (iD (L.getD i fE).thread),.d (iD (L.getD i fE).step),.d (iD (L.getD i fE).cell)]++bU ((L.drop (i+1)).map c7)):=by
 have e1:L=L.take i++([L.getD i fE]++L.drop (i+1)):=by
  rw[←aU,←bG fE hi,ct]
 have e2:bU (L.map c7)=bU ((L.take i).map c7)++(bU ([L.getD i fE].map c7)++bU ((L.drop (i+1)).map c7)):=by
  rw[←cZ,←cZ,←aJ,←aJ,←e1]
 exact e2
theorem pV(L:List Cho)(i:Nat)(hi:i≤L.length):(bU ((L.take i).map c7)).length=i*3:=by rw[fh,aP,cC hi]
theorem Cu(L:List Cho)(i:Nat)(hi:i<L.length):List.take 3 (List.drop (i*3) (bU (L.map c7)))=[.d (iD (L.getD i fE).thread),.d (iD (L.getD i fE).step),.d (iD (L.getD i fE).cell)]:=by
 rw[wy L i hi,Ez (pV L i (by omega))]
 rfl
theorem cho_put(L:List Cho)(i:Nat)(hi:i<L.length)(x:Cho):List.take (i*3) (bU (L.map c7))++[A.d (iD x.thread),A.d (iD x.step),A.d (iD x.cell)]++List.drop (i*3+3) (bU (L.map c7))=bU ((L.set i x).map c7):=by
 have hs:L.set i x=L.take i++([x]++L.drop (i+1)):=by
  rw[da,if_pos hi];rfl
 rw[hs,aJ,aJ,cZ,cZ]
 have e:=wy L i hi
 have l1:=pV L i (by omega)
 rw[e,List.take_left' l1,←List.drop_drop,Ez l1,aU]
 rfl
theorem yA{Z:St}{i:Nat}{o:Option Ob}(h:Z[i]? =some o):Z.set i o=Z:=by
 refine cz λ k=> ?_
 rw[aR]
 split
 ·next e=>subst e;rw[h];simp [aL h]
 ·rfl
theorem z9(L:List Cho)(i:Nat)(hi:i<L.length)(x:Cho):List.take (i*3) (bU (L.map c7))++A.d (iD x.thread)::A.d (iD x.step)::A.d (iD x.cell)::List.drop (i*3+3) (bU (L.map c7))=bU ((L.set i x).map c7):=by
 have:=cho_put L i hi x
 rw[aU]at this
 exact this
def oG(L:List Cho)(i:Nat):List Cho:=(List.range L.length).map λ k=>if k<i∨L.length - i≤k then L.getD (L.length - 1 - k) fE else L.getD k fE
theorem lQ(L:List Cho)(i:Nat):(oG L i).length=L.length:=by simp [oG]
theorem lR(L:List Cho)(i k:Nat)(hk:k<L.length):(oG L i)[k]? =some (if k<i∨L.length - i≤k then L.getD (L.length - 1 - k) fE else L.getD k fE):=by
 unfold oG
 rw[aN,List.getElem?_range hk];rfl
theorem CL(L:List Cho):oG L 0=L:=by
 refine cz λ k=> ?_
 rcases aC k L.length with h|h
 ·rw[lR L 0 k h,if_neg (by omega),au,ap h];rfl
 ·rw[bm (by rw[lQ];exact h),bm h]
theorem revI_end(L:List Cho)(i:Nat)(h:L.length≤2*i+1):oG L i=L.reverse:=by
 refine cz λ k=> ?_
 rcases aC k L.length with hk|hk
 ·rw[lR L i k hk,List.getElem?_reverse hk]
  by_cases c:k<i∨L.length - i≤k
  ·rw[if_pos c,au,ap (by omega)];rfl
  ·rw[if_neg c,show L.length - 1 - k=k by omega,au,ap hk];rfl
 ·rw[bm (by rw[lQ];exact hk),bm (by rw[cI];exact hk)]
theorem CM(L:List Cho)(i:Nat)(h:2*i+1<L.length):((oG L i).set i ((oG L i).getD (L.length - 1 - i) fE)).set (L.length - 1 - i) ((oG L i).getD i fE)=oG L (i+1):=by
 have e1:(oG L i).getD (L.length - 1 - i) fE=L.getD (L.length - 1 - i) fE:=by
  rw[au,lR L i _ (by omega),if_neg (by omega)];rfl
 have e2:(oG L i).getD i fE=L.getD i fE:=by
  rw[au,lR L i _ (by omega),if_neg (by omega)];rfl
 rw[e1,e2]
 refine cz λ k=> ?_
 rcases aC k L.length with hk|hk
 ·rw[lR L (i+1) k hk,aR,aR,aH,lQ,lR L i k hk]
  by_cases c1:L.length - 1 - i=k
  ·rw[if_pos c1,if_pos (by omega),if_pos (by omega),show L.length - 1 - k=i by omega]
  ·rw[if_neg c1]
   by_cases c2:i=k
   ·subst c2
    rw[if_pos rfl,if_pos (by omega),if_pos (by omega)]
   ·rw[if_neg c2]
    congr 1
    by_cases c3:k<i∨L.length - i≤k
    ·rw[if_pos c3,if_pos (by omega)]
    ·rw[if_neg c3,if_neg (by omega)]
 ·rw[bm (by simp [lQ];exact hk),bm (by rw[lQ];exact hk)]
theorem CK(L:List Cho)(hL:L.length≤10000)(id n:Nat)(hn:n=L.length)(Z:St)(hσ:Z[id]? =some (jE L))(G:Glob)(R:A→St→Prop)(h:R (.tup []) (Z.set id (jE L.reverse))):AC Tryz.prog G 57 [.rs id 3 0 n (some 37)] Z R:=by
 subst hn
 have hid:=aL hσ
 have w0:IntKind.i64.wrap ((L.length:Int) - 1)=(L.length:Int) - 1:=cq _ (by omega) (by omega)
 refine bM a9 Tryz.func57 rfl Tryz.ntmps57 (by simp only[go_sem]) λ hbd=> ?_
 simp only[ae,aj,Nat.reduceAdd,Nat.reduceSub,af,ag,ah,ak]
 simp only[go_sem,aO hσ,w0]
 refine aS (λ k fr st=>∃i:Nat,k=L.length - i∧2*i≤L.length∧fr=%[.rs id 3 0 L.length (some 37),.o,dn i,di ((L.length:Int) - 1 - i)|D5 (D4 [])]∧st=Z.set id (jE (oG L i))) L.length _ (Wk.mask [0,2,3] ⟨0,by omega,by omega,by simp [iX],by rw[CL];exact(yA hσ).symm⟩) ?_
 rintro k fr st ⟨i,hk,hi2,rfl,rfl⟩
 obtain⟨τ,hτ⟩:∃τ,Z.set id (jE (oG L i))=τ:=⟨_,rfl⟩
 have hτi:τ[id]? =some (jE (oG L i)):=by rw[←hτ];exact aT hid
 rw[hτ]
 rcases aC (2*i+1) L.length with hlt|hge
 ·have hd:decide ((i:Int)<(L.length:Int) - 1 - i)=true:=by simp;omega
  have w1:IntKind.i64.wrap ((i:Int)+1)=((i+1:Nat):Int):=by rw[cq _ (by omega) (by omega)];omega
  have w2:IntKind.i64.wrap ((L.length:Int) - 1 - i - 1)=(L.length:Int) - 1 - ((i+1:Nat):Int):=by rw[cq _ (by omega) (by omega)];omega
  have wn:((L.length:Int) - 1 - i).toNat=L.length - 1 - i:=by omega
  have hMl:=lQ L i
  have hsuc:=CM L i hlt
  obtain⟨M,hM⟩:∃M,oG L i=M:=⟨_,rfl⟩
  rw[hM]at hτi hMl hsuc
  have g1:=Cu M i (by omega)
  have g2:=Cu M (L.length - 1 - i) (by omega)
  have p1:=z9 M i (by omega) (M.getD (L.length - 1 - i) fE)
  have p2:=z9 (M.set i (M.getD (L.length - 1 - i) fE)) (L.length - 1 - i) (by rw[aH];omega) (M.getD i fE)
  have hfl:=fh M
  have hfl2:=fh (M.set i (M.getD (L.length - 1 - i) fE))
  rw[aH]at hfl2
  unfold jE at hτi
  have hτ2:(τ.set id (jE (M.set i (M.getD (L.length - 1 - i) fE))))[id]? =some (jE (M.set i (M.getD (L.length - 1 - i) fE))):=aT (aL hτi)
  unfold jE at hτ2
  simp only[go_sem,hd]
  refine bb (.tk 16 0<| .done) (by kernel_rfl) ?_
  simp only[go_sem,aO hτi,aX hτi,aO hτ2,aX hτ2,g1,g2,p1,p2,fC,w1,w2,wn,ad]
  refine⟨⟨by omega,by omega⟩,by omega,⟨by omega,by omega⟩,by omega,⟨by omega,by omega⟩,by omega,⟨by omega,by omega⟩,by omega,?_⟩
  refine Wk.mask [0,2,3] ⟨L.length - (i+1),by omega,i+1,rfl,by omega,rfl,?_⟩
  rw[←hτ,dT,dT,hsuc]
 ·have hd:decide ((i:Int)<(L.length:Int) - 1 - i)=false:=by simp;omega
  simp only[go_sem,hd]
  rw[←hτ,revI_end L i (by omega)]
  exact⟨_,_,bw.refl _ _ _ _,h⟩
theorem vq(V:List Vis)(i:Nat)(hi:i<V.length):List.drop (i*7) (bU (V.map jv))=[.d (bu (V.getD i e8).cfg.mem),.d (bu (V.getD i e8).cfg.pos),.d (.sl 1 ((V.getD i e8).cfg.buf.map cu)),.d (iD (V.getD i e8).frm),.d (iD (V.getD i e8).cho.thread),.d (iD (V.getD i e8).cho.step),.d (iD (V.getD i e8).cho.cell)]++bU ((V.drop (i+1)).map jv):=by
 have e1:V=V.take i++([V.getD i e8]++V.drop (i+1)):=by
  rw[←aU,←bG e8 hi,ct]
 have e3:bU (V.map jv)=bU ((V.take i).map jv)++(bU ([V.getD i e8].map jv)++bU ((V.drop (i+1)).map jv)):=by
  rw[←cZ,←cZ,←aJ,←aJ,←e1]
 have l1:(bU ((V.take i).map jv)).length=i*7:=by rw[fD,aP,cC (by omega)]
 rw[e3,Ez l1]
 rfl
theorem vis_frm(V:List Vis)(i:Nat)(hi:i<V.length):List.getD (bU (V.map jv)) (i*7+3) A.o= .d (iD (V.getD i e8).frm):=by
 have:=vq V i hi
 have e:(List.drop (i*7) (bU (V.map jv)))[3]? =some (.d (iD (V.getD i e8).frm)):=by rw[this];rfl
 rw[bE]at e
 rw[au,e];rfl
theorem vis_cho(V:List Vis)(i:Nat)(hi:i<V.length):List.take 3 (List.drop (i*7+4) (bU (V.map jv)))=[.d (iD (V.getD i e8).cho.thread),.d (iD (V.getD i e8).cho.step),.d (iD (V.getD i e8).cho.cell)]:=by
 rw[←List.drop_drop,vq V i hi]
 rfl
theorem Back.lt{V:List Vis}{k:Nat}{l:List Cho}(h:Back V k l):k<V.length:=by
 cases h with
 |root hk _=>exact aL hk
 |step hk _ _=>exact aL hk
theorem back_len{p:Prg}{m:Int}{S:BS}(h:BInv p m S){k:Nat}{l:List Cho}(hb:Back S.V k l):l.length≤k:=by
 induction hb with
 |root hk hf=>simp
 |step hk hf hb ih=>
  rename_i k j v l
  rcases cv k with h0|h0
  ·subst h0
   obtain⟨w,hw,hw1,hw2⟩:=h.root
   rw[hk]at hw;cases hw
   omega
  ·obtain⟨j2,h1,h2,h3,h4,h5⟩:=h.from_ k v hk h0
   rw[ae]
   omega
def FdJ(Z:St)(gx:Nat)(e:Ex)(L:List Cfg)(D:Nat→Prop)(st:St):Prop:=st[gx]? =some (sA e)∧Z.length≤st.length∧(∀k,D k↔k<Z.length∨k=gx)∧∀k,k<Z.length→st[k]? =Z[k]?
theorem BK {G:Glob} (hG:G.g 0=some cB) (hpan:∀a s,¬G.pan a s) (p:Prg) (hp:Good p) (m:Int) (hm:0≤m∧m≤2) (e:Ex) (he:GolOk p e) (lim:Nat) (hlim:1≤lim∧lim≤10000) (Z:St) (R:A→St→Prop)
  (hR1:∀S,Steps p m (kP p m) S→S.V.length=lim+1→(∀u∈S.V.take lim,kn e u.cfg=false)→R (.tup [.d .nils,di 2]) Z)
  (hR2:∀V v S l,Steps p m (kP p m) S→S.V=V++[v]→V.length<lim→kn e v.cfg=true→(∀u∈V,kn e u.cfg=false)→Back (V++[v]) V.length l→(l.length≤120→R (.tup [.d (.sl 3 (l.reverse.map c7)),di 0]) Z)∧(120<l.length→R (.tup [.d .nils,di 2]) Z))
  (hR3:∀S,Steps p m (kP p m) S→eX p m S=none→(∀u∈S.V,kn e u.cfg=false)→R (.tup [.d .nils,di 4]) Z):AC Tryz.prog G 24 [.d (bK p),di m,.d (vk e),dn lim] Z R:=by
 have pr:=B5 hG p hp m hm lim hlim
 have ai:=aimsU hG p hp e he
 unfold bK vk at*
 refine bD [5] a9 Tryz.func24 rfl Tryz.ntmps24 (by simp only[go_sem]) λ hbd=> ?_
 simp only[ae,aj,Nat.reduceAdd,Nat.reduceSub,af,ag,ah,ak]
 try simp only[go_sem]
 refine bH (pr _ _ ?_)
 try simp only[go_sem]
 refine gO (.bool true) ⟨λ _=>⟨rfl,bH (ai _ _ ?_)⟩,?_⟩
 ·simp only[go_sem]
 try simp only[go_sem]
 refine bc (λ fr st=>(∃x:Int,x≠0∧fr=D4 %[.o,.o,.o,.o,di x|D6 (D5 (D4 [.o,.o,.o,.o]))]∧st=Z∧R (.tup [.d .nils,di x]) Z)∨(∃V v S l,fr=D4 %[.o,.o,.ref Z.length 0,dn V.length,di 0|D6 (D5 (D4 [.o,.o,.o,.o]))]∧st=Z++[tu p m (.rs (Z.length+1) 7 0 (V.length+1) (some 126)),lO (V++[v])]∧Steps p m (kP p m) S∧S.V=V++[v]∧V.length<lim∧kn e v.cfg=true∧(∀u∈V,kn e u.cfg=false)∧Back (V++[v]) V.length l)) ?_ ?_
 ·try simp only[go_sem]
  have hat:∀(k:Nat) (l:St) (o:Option Ob),l[k]? =some o→(Z++l)[Z.length+k]? =some o:=λ k l o hk=>by rw[az (by omega),bk];exact hk
  refine bH (lz (bw.emptyIn (Z:=Z) 2 5 7 (some 126) rfl rfl) ?_)
  simp only[ff,fQ,aF,ae,aj,Nat.reduceAdd,aU,ah,ak]
  refine Cn hG hpan p hp m hm lim hlim (sid:=Z.length+2) (ia0:=Z.length+3) (g:=55) (cap:=[.ref (Z.length+1) 0]) (kn e) _ (by simp [jo,A.bd]) (FdJ Z (Z.length+1) e) (λ L D st ⟨j1,j2,j3,j4⟩ k hk=> ?_) (λ L D st st' ⟨j1,j2,j3,j4⟩ hk=> ?_) (λ L D st c hl ⟨j1,j2,j3,j4⟩ hf=>find1U hG p hp e he m c hf (Z.length+1) st j1 _ λ l=>⟨rfl,D,⟨?_,?_,j3,?_⟩,λ k hk=> .inl hk,λ k hk _=>aq hk,by simp⟩) (DJ0:=λ k=>k<Z.length∨k=Z.length+1) ⟨hat 1 _ _ rfl,by simp,λ k=>Iff.rfl,λ k hk=>aq hk⟩ (hat 2 _ _ rfl) (hat 3 _ _ rfl) ⟨by omega,by omega⟩ (by omega) _ (λ st S L D hS hl hno hJ=> ?_) (λ st V v D ia S hS1 hS2 hVl hac hno hs hv hJ hnD=> ?_) (λ st S D hS hb hle hno hJ=> ?_)
  ·rcases(j3 k).1 hk with z|z
   ·omega
   ·rw[z];exact aL j1
  ·have q1:=(hk _ ((j3 _).2 (.inr rfl))).trans j1
   exact⟨q1,by have:=aL q1;omega,j3,λ k h=>(hk _ ((j3 _).2 (.inl h))).trans (j4 k h)⟩
  ·rw[aq (aL j1)];exact j1
  ·rw[aF];omega
  ·intro k hk
   rw[aq (by omega)];exact j4 k hk
  ·obtain⟨j1,j2,j3,j4⟩:=hJ
   have hs5:=tj j4 j2
   try simp only[go_sem]
   rw[hs5]
   exact Wk.keep [12] [] (by decide) (aE _) hbd (.inl ⟨2,by decide,by simp only[go_sem],by simp only[go_sem,iC,bt],hR1 S hS hl hno⟩)
  ·obtain⟨j1,j2,j3,j4⟩:=hJ
   have hs5:=tj j4 j2
   have hia:Z.length≤ia:=by
    rcases aC ia Z.length with z|z
    ·exact absurd ((j3 ia).2 (.inl z)) hnD
    ·exact z
   have hne:ia≠Z.length+2:=λ z=>by
    rw[z,hs]at hv
    have r3:([.d (aY p.cells),.d (.sl 11 (p.modules.map iH)),.d (.sl 6 (p.locks.map iZ)),.d (.sl 7 (p.threads.map c8)),.d (iD m),.rs ia 7 0 (V.length+1) (some 126)]:List A)=bU ((V++[v]).map jv):=by
     injection hv with hv;injection hv with hv;injection hv
    have r4:=congrArg List.length r3
    rw[fD]at r4
    simp at r4
    omega
   have d1:(st.drop Z.length)[2]? =some (tu p m (.rs (Z.length+(ia - Z.length)) 7 0 (V.length+1) (some 126))):=by rw[bE,show Z.length+(ia - Z.length)=ia by omega];exact hs
   have db:(st.drop Z.length)[ia - Z.length]? =some (lO (V++[v])):=by rw[bE,show Z.length+(ia - Z.length)=ia by omega];exact hv
   obtain⟨l,hl⟩:=(fx hp.ok hS1).back V.length (by rw[hS2];simp)
   rw[hS2]at hl
   try simp only[go_sem]
   generalize st.drop Z.length=l4 at hs5 d1 db
   rw[hs5]
   have n1:((2:Nat)=ia - Z.length)=False:=eq_false (by omega)
   refine Wk.via ((bw.mask [10,11,12]).trans (bw.keep [2,ia - Z.length] ?_ (aE _) hbd)) ?_
   ·simp only[cR,aV,bi,or_false,not_false_eq_true,List.nodup_nil,and_true]
    omega
   simp only[iC,aM,bq,lD,au,d1,db,b9,bJ]
   simp only[go_sem,n1,if_false,bJ,cG]
   exact Wk.mask [10,11,12] (.inr ⟨V,v,S,l,rfl,rfl,hS1,hS2,hVl,hac,hno,hl⟩)
  ·obtain⟨j1,j2,j3,j4⟩:=hJ
   have hs5:=tj j4 j2
   try simp only[go_sem]
   rw[hs5]
   exact Wk.keep [12] [] (by decide) (aE _) hbd (.inl ⟨4,by decide,by simp only[go_sem],by simp only[go_sem,iC,bt],hR3 S hS hb hno⟩)
 rintro fr st (⟨x,hx,rfl,rfl,hRx⟩|⟨V,v,S,l,rfl,rfl,hS1,hS2,hVl,hac,hno,hl⟩)
 ·have z1:(x !=0)=true:=by simp [hx]
  simp only[go_sem,z1]
  exact xd hRx
 have z0:((0:Int)!=0)=false:=rfl
 obtain⟨W,hW⟩:∃W,V++[v]=W:=⟨_,rfl⟩
 have hWl:W.length=V.length+1:=by rw[←hW];simp
 have hll:=back_len (fx hp.ok hS1) (by rw[hS2];exact hl)
 obtain⟨h21,h22⟩:=hR2 V v S l hS1 hS2 hVl hac hno hl
 rw[hW]at hl ⊢
 simp only[go_sem,z0]
 refine aS (λ k fr st=>∃(j:Nat) (l1 l2:List Cho),k=l2.length∧Back W j l2∧l=l1++l2∧fr=D4 %[.o,.o,.ref Z.length 0,dn j,.o,.rs (Z.length+2) 3 0 l1.length (some 37)|D6 (D5 (D4 [.o,.o,.o]))]∧st=Z++[tu p m (.rs (Z.length+1) 7 0 (V.length+1) (some 126)),lO W,jE l1]) l.length _ ?_ ?_
 ·exact⟨_,_,(bw.mask [10,11,13]).trans (bw.empty 13 3 (some 37) rfl),V.length,[],l,rfl,hl,rfl,by rw[aF];rfl,by simp [bU]⟩
 rintro k fr st ⟨j,l1,l2,hk,hbk,hl12,rfl,rfl⟩
 have hj:=hbk.lt
 have hfr:=vis_frm W j hj
 have hch:=vis_cho W j hj
 have hWf:=fD W
 have hcf:=fh l1
 cases hbk with
 |root hk2 hf2=>
  rename_i u
  have e1:W.getD j e8=u:=jA hk2
  rw[e1]at hfr hch
  have z1:decide (u.frm≥0)=false:=by simp;omega
  have z1':decide ((0:Int)≤u.frm)=false:=by simp;omega
  rw[bt]at hl12
  subst hl12
  simp only[go_sem,hfr,z1,z1',ac,ad]
  refine⟨⟨by omega,by omega⟩,by omega,λ q=>dq hbd rfl (h22 (by
   have:(120:Int)<(l.length:Int):=by simpa using q
   omega)),λ q=> ?_⟩
  refine bH (CK l (by omega) (Z.length+2) _ rfl _ (by simp) _ _ ?_)
  have h3:∀a b c x,(Z++[a,b,c]).set (Z.length+2) x=Z++[a,b,x]:=λ a b c x=>by simp [List.set_append]
  rw[h3]
  try simp only[go_sem]
  refine de 2 3 0 (l.reverse.map c7) rfl (kZ _) ?_
  simp only[go_sem,ac,cI,and_self,if_true]
  exact dq hbd rfl (h21 (by
   have:¬(120:Int)<(l.length:Int):=by simpa using q
   omega))
 |step hk2 hf2 hb2=>
  rename_i j2 u l3
  have e1:W.getD j e8=u:=jA hk2
  rw[e1]at hfr hch
  have hl1:l1.length≤l.length:=by rw[hl12,aF];omega
  have z1:decide (u.frm≥0)=true:=by simp;omega
  have z1':decide ((0:Int)≤u.frm)=true:=by simp;omega
  simp only[go_sem,hfr,hch,z1,z1',fC,ac,ad]
  refine⟨⟨by omega,by omega⟩,by omega,⟨by omega,by omega⟩,by omega,⟨hcf,by simp only[maxLen];omega,by omega⟩,⟨by omega,by omega⟩,by omega,?_⟩
  rw[hf2]
  refine Wk.keep [10,11,13] [0,1,4] (by decide) (aE _) hbd ⟨l3.length,by rw[hk,ae];omega,j2,l1++[u.cho],l3,rfl,hb2,by rw[hl12,aU];rfl,by simp only[go_sem,aF,ae,aj],?_⟩
  rw[jE,lc]
  simp only[go_sem,dj,cG]
theorem Fk{G:Glob}(hG:G.g 0=some cB)(hpan:∀a s,¬G.pan a s)(p:Prg)(hp:Good p)(m:Int)(hm:0≤m∧m≤2)(L:List Cho)(hL:fK p m (bS p) L)(hLl:L.length≤120)(Z:St)(R:A→St→Prop)(h:R (.tup [.d (.sl 3 ((iS p m (bS p) L).map bX)),db true]) Z):AC Tryz.prog G 12 [.d (bK p),di m,.d (.sl 3 (L.map c7))] Z R:=by
 have ru:=Run_p hG hpan p hp m hm L hL hLl
 obtain⟨Y,hY⟩:∃Y,iS p m (bS p) L=Y:=⟨_,rfl⟩
 have hYl:Y.length=L.length+1:=by rw[←hY,kV]
 rw[hY]at h ru
 have z0:((0:Int)==0)=true:=rfl
 have z1:((L.length:Int)==(L.length:Int))=true:=by simp
 have w1:IntKind.i64.wrap ((L.length:Int)+1)=((Y.length:Nat):Int):=by rw[cq _ (by omega) (by omega),hYl];omega
 have z2:((Y.length:Int)==(Y.length:Int))=true:=by simp
 unfold bK at*
 refine bM a9 Tryz.func12 rfl Tryz.ntmps12 (by simp only[go_sem]) λ hbd=> ?_
 simp only[ae,aj,Nat.reduceAdd,Nat.reduceSub,af,ag,ah,ak]
 try simp only[go_sem]
 refine bH (ru _ _ ?_)
 simp only[go_sem,z0,z1,w1,z2,ac]
 exact dq hbd rfl h
theorem two_p(op w:Int)(a b:Ex)(Z:St)(G:Glob)(R:A→St→Prop)(h:R (.d (Ex.mk op w 0 [a,b]).d) Z):AC Tryz.prog G 50 [di op,di w,.d a.d,.d b.d] Z R:=by
 rw[Ex.d_eq a,Ex.d_eq b]
 refine bg a9 Tryz.func50 rfl Tryz.ntmps50 (by simp only[go_sem]) λ hbd=> ?_
 simp only[ae,aj,Nat.reduceAdd,Nat.reduceSub,af,ag,ah,ak]
 try simp only[go_sem]
 refine nY (bw.deep [3] 6) ?_
 simp only[go_sem]
 have e:(Ex.mk op w 0 [a,b]).d= .agg [iD op,iD w,iD 0,.sl 4 [.agg [iD a.op,iD a.w,iD a.n,.sl 4 (a.kids.map Ex.d)],.agg [iD b.op,iD b.w,iD b.n,.sl 4 (b.kids.map Ex.d)]]]:=by
  rw[←Ex.d_eq a,←Ex.d_eq b,Ex.d_eq];rfl
 rw[e]at h
 exact dq hbd rfl h
theorem is_p(e:Ex)(h1:e.op≠1)(n w:Int)(Z:St)(G:Glob)(R:A→St→Prop)(h:R (db false) Z):AC Tryz.prog G 123 [.d (eD e),di n,di w] Z R:=by
 have z1:(e.op==1)=false:=by simp [h1]
 unfold eD
 refine bg a9 Tryz.func123 rfl Tryz.ntmps123 (by simp only[go_sem]) λ hbd=> ?_
 simp only[ae,aj,Nat.reduceAdd,Nat.reduceSub,af,ag,ah,ak]
 simp only[go_sem,z1]
 exact aQ hbd h
theorem dEx_at{l:List Ex}{j:Nat}(h:j<l.length):List.getD (l.map Ex.d) j default=eD (l.getD j (.mk 0 0 0 [])):=by
 rw[dQ (d:= .mk 0 0 0 []) h,ed]
structure FoOk (x:Ex):Prop where
 op:x.op≠1
 w:x.w=1
 formed:x.formed=true
 ok:x.Ok
 n:x.nodes≤10
theorem fold_p(op:Int)(L:List Ex)(h1:1≤L.length)(h2:L.length≤20)(hx:∀x∈L,FoOk x)(hF:(k9 op L).formed=true)(hO:(k9 op L).Ok)(Z:St)(G:Glob)(R:A→St→Prop)(h:R (.d (k9 op L).d) Z):AC Tryz.prog G 92 [.d (.sl 4 (L.map Ex.d)),di op,di 1] Z R:=by
 have z0:((1:Int)!=1)=false:=rfl
 have wz:IntKind.i64.wrap ((1:Int) - 1)=0:=by decide
 refine iN [8,10] a9 Tryz.func92 rfl Tryz.ntmps92 (by simp only[go_sem]) λ hbd=> ?_
 simp only[ae,aj,Nat.reduceAdd,Nat.reduceSub,af,ag,ah,ak]
 try simp only[go_sem]
 refine bc (λ fr st=>fr=%[.d (.sl 4 (L.map Ex.d)),di op,di 1,.o,.o,.o,.ref Z.length 0,db false|D7 (D5 (D4 []))]∧st=Z++[some (.cells [di 0,di 0,di 0,.d .nils])]) ?_ ?_
 ·try simp only[go_sem]
  refine aS (λ k fr st=>∃j:Nat,j≤L.length∧k=L.length - j∧fr=%[.d (.sl 4 (L.map Ex.d)),di op,di 1,.o,.o,.o,.ref Z.length 0,db false,dn j|D7 (D5 [.o,.o,.o,.o,.o,.o,.o])]∧∃x,st=Z++[x]∧x=some (.cells [di 0,di 0,di 0,.d .nils])) L.length _ (Wk.mask [0,1,2,6,7,8] ⟨0,by omega,by omega,rfl,_,rfl,rfl⟩) ?_
  rintro k fr st ⟨j,hj,hk,rfl,x,rfl,rfl⟩
  rcases aC j L.length with hlt|hge
  ·have hd:decide ((j:Int)<(L.length:Int))=true:=by simp;omega
   have w2:=bC j (by omega)
   have e1:=dEx_at (l:=L) hlt
   have hX:=hx _ (bv (.mk 0 0 0 []) hlt)
   generalize L.getD j (.mk 0 0 0 [])=X at e1 hX
   obtain⟨x1,x2,x3,x4,x5⟩:=hX
   have fo:=kO X x4
   rw[x3,ed]at fo
   have is:=is_p X x1
   have zw:(X.w !=1)=false:=by simp [x2]
   unfold eD at e1 fo is
   simp only[go_sem,hd,e1,zw,ac,ad]
   refine⟨⟨by omega,by omega⟩,⟨by omega,by omega⟩,gO (.bool true) ⟨λ _=>⟨rfl,bH (fo _ _ _ ?_)⟩,?_⟩⟩
   ·simp only[go_sem]
   simp only[go_sem,e1,wz,ac,ad]
   refine⟨⟨by omega,by omega⟩,gO (.bool false) ⟨λ _=>⟨rfl,bH (is _ _ _ _ _ ?_)⟩,?_⟩⟩
   ·simp only[go_sem]
   simp only[go_sem,w2]
   exact Wk.mask [0,1,2,6,7,8] ⟨L.length - (j+1),by omega,j+1,by omega,rfl,rfl,_,rfl,rfl⟩
  ·have hd:decide ((j:Int)<(L.length:Int))=false:=by simp;omega
   simp only[go_sem,hd,ac]
   exact Wk.mask [0,1,2,6,7] ⟨rfl,rfl⟩
 rintro fr st ⟨rfl,rfl⟩
 refine bc (λ fr st=>fr=%[.d (.sl 4 (L.map Ex.d)),di op,di 1,.o,.o,.o,.ref Z.length 0|D7 (D5 (D4 [.o]))]∧st=Z++[some (.cells [di 0,di 0,di 0,.d .nils])]) ?_ ?_
 ·try simp only[go_sem]
  exact Wk.mask [0,1,2,6] ⟨rfl,rfl⟩
 rintro fr st ⟨rfl,rfl⟩
 try simp only[go_sem]
 refine bH (qw 1 1 _ _ _ ?_)
 rw[ed]
 simp only[eD,go_sem,fC]
 obtain⟨A,hA⟩:∃A:Nat→Ex,A=λ j=>if j=0 then .mk 1 1 1 []else k9 op (L.take j):=⟨_,rfl⟩
 have hA0:A 0= .mk 1 1 1 []:=by rw[hA];rfl
 refine aS (λ k fr st=>∃(j c:Nat),j≤L.length∧k=L.length - j∧c≤j*11∧fr=%[.d (.sl 4 (L.map Ex.d)),di op,di 1,.o,.o,.o,.ref Z.length 0,.o,.o,.ref (Z.length+1) 0,db (decide (j=0)),dn c,dn j|D7 (D5 [.o,.o,.o])]∧st=Z++[some (.cells [di 0,di 0,di 0,.d .nils]),exO (A j)]) L.length _ (Wk.mask [0,1,2,6,9,10,11,12] ⟨0,0,by omega,by omega,by omega,rfl,by rw[hA0]⟩) ?_
 rintro k fr st ⟨j,c,hj,hk,hc,rfl,rfl⟩
 have dc:decide ((c:Int)≤600)=true:=by simp;omega
 rcases aC j L.length with hlt|hge
 ·have hd:decide ((j:Int)<(L.length:Int))=true:=by simp;omega
  have w2:=bC j (by omega)
  have e1:=dEx_at (l:=L) hlt
  have hsn:=bG (.mk 0 0 0 []:Ex) hlt
  have hX:=hx _ (bv (.mk 0 0 0 []) hlt)
  generalize L.getD j (.mk 0 0 0 [])=X at e1 hX hsn
  obtain⟨x1,x2,x3,x4,x5⟩:=hX
  have is:=is_p X x1
  have sz:=w9 X x4 601 (by omega)
  rw[ed,cC (by omega)]at sz
  have wc:IntKind.i64.wrap ((c:Int)+(X.nodes:Int))=((c+X.nodes:Nat):Int):=by rw[cq _ (by omega) (by omega)];omega
  have wc2:IntKind.i64.wrap (((c+X.nodes:Nat):Int)+1)=((c+X.nodes+1:Nat):Int):=by rw[cq _ (by omega) (by omega)];omega
  unfold eD at e1 is sz
  simp only[go_sem,hd,dc,e1,ac,ad]
  refine⟨⟨by omega,by omega⟩,bH (is _ _ _ _ _ ?_)⟩
  simp only[go_sem,e1,ac,ad]
  refine⟨⟨by omega,by omega⟩,bH (sz _ _ _ ?_)⟩
  rcases cv j with hj0|hj0
  ·have z1:decide (j=0)=true:=by simp [hj0]
   have hA1:A (j+1)=X:=by
    rw[hA]
    show(if j+1=0 then _ else _)=_
    rw[if_neg (by omega),hsn,hj0,dV]
    rfl
   have zf:decide (j+1=0)=false:=by simp
   simp only[go_sem,wc,z1,e1,w2,ac]
   refine⟨⟨by omega,by omega⟩,Wk.mask [0,1,2,6,9,10,11,12] ⟨L.length - (j+1),by omega,j+1,c+X.nodes,by omega,rfl,by omega,by rw[zf];rfl,by rw[hA1]⟩⟩
  ·have z1:decide (j=0)=false:=by simp;omega
   have hA1:A (j+1)= .mk op 1 0 [A j,X]:=by
    rw[hA]
    show(if j+1=0 then _ else k9 op (L.take (j+1)))=Ex.mk op 1 0 [if j=0 then _ else k9 op (L.take j),X]
    rw[if_neg (by omega),if_neg (by omega),hsn,Bf]
    intro z
    have:=congrArg List.length z
    rw[aP,aj]at this
    omega
   have zf:decide (j+1=0)=false:=by simp
   have tw:=two_p op 1 (A j) X
   rw[ed,ed,ed,←hA1]at tw
   unfold eD at tw
   simp only[go_sem,wc,z1,e1,w2,fC,ac,ad]
   refine⟨⟨by omega,by omega⟩,bH (tw _ _ _ ?_)⟩
   simp only[go_sem,wc2,w2]
   exact Wk.mask [0,1,2,6,9,10,11,12] ⟨L.length - (j+1),by omega,j+1,c+X.nodes+1,by omega,rfl,by omega,by rw[zf];rfl,rfl⟩
 ·have hd:decide ((j:Int)<(L.length:Int))=false:=by simp;omega
  obtain rfl:j=L.length:=by omega
  have dg:decide ((600:Int)<(c:Int))=false:=by rw[ay];omega
  have hAL:A L.length=k9 op L:=by
   rw[hA]
   show(if L.length=0 then _ else _)=_
   rw[if_neg (by omega),bB]
  have fo:=kO _ hO
  rw[hF,ed]at fo
  rw[ed]at h
  unfold eD at fo h
  rw[hAL]
  simp only[go_sem,hd,dg,fC,ac]
  refine gO (.bool true) ⟨λ _=>⟨rfl,bH (fo _ _ _ ?_)⟩,?_⟩
  ·simp only[go_sem]
  simp only[go_sem,fC]
  exact aQ hbd h
theorem and_p(L:List Ex)(h1:1≤L.length)(h2:L.length≤20)(hx:∀x∈L,FoOk x)(hF:(k9 5 L).formed=true)(hO:(k9 5 L).Ok)(Z:St)(G:Glob)(R:A→St→Prop)(h:R (.d (k9 5 L).d) Z):AC Tryz.prog G 53 [.d (.sl 4 (L.map Ex.d))] Z R:=by
 have fo:=fold_p 5 L h1 h2 hx hF hO
 rw[ed]at h fo
 unfold eD at h fo
 refine bg a9 Tryz.func53 rfl Tryz.ntmps53 (by simp only[go_sem]) λ hbd=> ?_
 simp only[ae,aj,Nat.reduceAdd,Nat.reduceSub,af,ag,ah,ak]
 try simp only[go_sem]
 refine bH (fo _ _ _ ?_)
 simp only[go_sem,fC]
 exact aQ hbd h
theorem PtOk.fo{p:Prg}{x:Ex}(h:PtOk p x):FoOk x where
 op:=h.op
 w:=h.w
 formed:=by rw[Ex.formed,aB];exact⟨by rw[h.n];rfl,Ex.deep_le h.deep (by omega)⟩
 ok:=h.ok
 n:=by rw[h.n];omega
theorem isE_ok{p:Prg}(hp:Good p){mem:List Int}(hm:MemOk p mem):GolOk p (v6 p mem):=by
 obtain⟨h1,h2,h3,h4,h5⟩:=isE_pt hp.sm hp.ok hm
 exact⟨h1,h2,h3,h4,h5⟩
theorem fold_nil(Z:St)(G:Glob)(R:A→St→Prop)(h:R (.d (Ex.mk 1 1 1 []).d) Z):AC Tryz.prog G 92 [.d (.sl 4 []),di 5,di 1] Z R:=by
 have d0:decide ((0:Int)<((0:Nat):Int))=false:=by decide
 have dc:decide ((0:Int)≤600)=true:=by decide
 have dg:decide ((600:Int)<0)=false:=by decide
 refine iN [8,10] a9 Tryz.func92 rfl Tryz.ntmps92 (by simp only[go_sem]) λ hbd=> ?_
 simp only[ae,aj,Nat.reduceAdd,Nat.reduceSub,af,ag,ah,ak]
 try simp only[go_sem]
 refine bc (λ fr st=>fr=%[.d (.sl 4 []),di 5,di 1,.o,.o,.o,.ref Z.length 0,db false|D7 (D5 (D4 []))]∧st=Z++[some (.cells [di 0,di 0,di 0,.d .nils])]) ?_ ?_
 ·try simp only[go_sem]
  refine aS (λ k fr st=>fr=%[.d (.sl 4 []),di 5,di 1,.o,.o,.o,.ref Z.length 0,db false,di 0|D7 (D5 [.o,.o,.o,.o,.o,.o,.o])]∧∃x,st=Z++[x]∧x=some (.cells [di 0,di 0,di 0,.d .nils])) 0 _ (Wk.mask [0,1,2,6,7,8] ⟨rfl,_,rfl,rfl⟩) ?_
  rintro k fr st ⟨rfl,x,rfl,rfl⟩
  simp only[go_sem,aj,d0]
  exact Wk.mask [0,1,2,6,7] ⟨rfl,rfl⟩
 rintro fr st ⟨rfl,rfl⟩
 refine bc (λ fr st=>fr=%[.d (.sl 4 []),di 5,di 1,.o,.o,.o,.ref Z.length 0|D7 (D5 (D4 [.o]))]∧st=Z++[some (.cells [di 0,di 0,di 0,.d .nils])]) ?_ ?_
 ·try simp only[go_sem]
  exact Wk.mask [0,1,2,6] ⟨rfl,rfl⟩
 rintro fr st ⟨rfl,rfl⟩
 try simp only[go_sem]
 refine bH (qw 1 1 _ _ _ ?_)
 rw[ed]
 simp only[eD,Ex.op,Ex.w,Ex.n,Ex.kids,bq,go_sem,fC]
 refine aS (λ k fr st=>fr=%[.d (.sl 4 []),di 5,di 1,.o,.o,.o,.ref Z.length 0,.o,.o,.ref (Z.length+1) 0,db true,di 0,di 0|D7 (D5 [.o,.o,.o])]∧st=Z++[some (.cells [di 0,di 0,di 0,.d .nils]),some (.cells [di 1,di 1,di 1,.d (.sl 4 [])])]) 0 _ (Wk.mask [0,1,2,6,9,10,11,12] ⟨rfl,rfl⟩) ?_
 rintro k fr st ⟨rfl,rfl⟩
 have hO:(Ex.mk 1 1 1 []).Ok:= .mk (by simp [reachBytes,Ex.kids]) (λ k hk=>by simp [Ex.kids]at hk)
 have fo:=kO _ hO
 rw[show(Ex.mk 1 1 1 []).formed=true by decide,ed]at fo
 rw[ed]at h
 simp only[eD,Ex.op,Ex.w,Ex.n,Ex.kids,bq]at fo h
 simp only[go_sem,aj,d0,dc,dg,fC]
 refine gO (.bool true) ⟨λ _=>⟨rfl,bH (fo _ _ _ ?_)⟩,?_⟩
 ·simp only[go_sem]
 simp only[go_sem,fC]
 exact aQ hbd h
theorem and_nil(Z:St)(G:Glob)(R:A→St→Prop)(h:R (.d (Ex.mk 1 1 1 []).d) Z):AC Tryz.prog G 53 [.d (.sl 4 [])] Z R:=by
 have fo:=fold_nil
 rw[ed]at h fo
 simp only[eD,Ex.op,Ex.w,Ex.n,Ex.kids,bq]at h fo
 refine bg a9 Tryz.func53 rfl Tryz.ntmps53 (by simp only[go_sem]) λ hbd=> ?_
 simp only[ae,aj,Nat.reduceAdd,Nat.reduceSub,af,ag,ah,ak]
 try simp only[go_sem]
 refine bH (fo _ _ _ ?_)
 simp only[go_sem,fC]
 exact aQ hbd h
theorem r7Is_p(p:Prg)(hp:Good p)(mem:List Int)(hm:MemOk p mem)(Z:St)(G:Glob)(R:A→St→Prop)(h:R (.d (v6 p mem).d) Z):AC Tryz.prog G 23 [.d (bK p),.d (bu mem)] Z R:=by
 have hml:=hm.len
 have hnc:=hp.sm.ncel
 unfold bK
 refine bD [6] a9 Tryz.func23 rfl Tryz.ntmps23 (by simp only[go_sem]) λ hbd=> ?_
 simp only[ae,aj,Nat.reduceAdd,Nat.reduceSub,af,ag,ah,ak]
 try simp only[go_sem]
 refine bc (λ fr st=>fr=%[.o,.o,.o,.o,.ref (Z.length+1) 0,.d (.sl 4 ((xW p mem p.cells.length).map Ex.d))|D6 [.o,.o,.o,.o,.o,.o,.o]]∧∃x,st=Z++[x,some (.cells [di 0,di 0,di 0,.d .nils])]) ?_ ?_
 ·try simp only[go_sem]
  refine aS (λ k fr st=>∃j:Nat,j≤p.cells.length∧k=p.cells.length - j∧fr=%[.o,.d (bu mem),.ref Z.length 0,.o,.ref (Z.length+1) 0,.rs (Z.length+2) 4 0 j (some 64),dn j|D6 [.o,.o,.o,.o,.o,.o]]∧st=Z++[some (.cells [.d (aY p.cells),.d (.sl 11 (p.modules.map iH)),.d (.sl 6 (p.locks.map iZ)),.d (.sl 7 (p.threads.map c8))]),some (.cells [di 0,di 0,di 0,.d .nils]),some (.cells (bU ((xW p mem j).map Ex.d)))]) p.cells.length _ ?_ ?_
  ·refine Wk.via ((bw.mask [1,2,4,5,6]).trans (bw.empty 5 4 (some 64) rfl)) ?_
   simp only[go_sem,aF,ae,aj,Nat.reduceAdd,aU,ah,ak,ff,fQ]
   exact Wk.mask [1,2,4,5,6] ⟨0,by omega,by omega,rfl,rfl⟩
  rintro k fr st ⟨j,hj,hk,rfl,rfl⟩
  have hfl:=xC (xW p mem j)
  rw[sM]at hfl
  rcases aC j p.cells.length with hlt|hge
  ·have hd:decide ((j:Int)<(p.cells.length:Int))=true:=by simp;omega
   have hd2:decide ((j:Int)<(mem.length:Int))=true:=by simp;omega
   have w2:=bC j (by omega)
   have e1:List.getD (p.cells.map fb) j default=fb (p.cells.getD j fU):=dQ hlt
   have e2:=bW (l:=mem) (j:=j) (by omega)
   have ce:=Cv (j:Int) (p.cells.getD j fU).w
   have co:=qw (mem.getD j 0) (p.cells.getD j fU).w
   have tw:=two_p 11 1 (.mk 2 (p.cells.getD j fU).w j []) (.mk 1 (p.cells.getD j fU).w (mem.getD j 0) [])
   have hsn:=Fy (xW p mem j) (uS p mem j)
   rw[←isL_succ]at hsn
   have heq:Ex.mk 11 1 0 [.mk 2 (p.cells.getD j fU).w j [],.mk 1 (p.cells.getD j fU).w (mem.getD j 0) []]=uS p mem j:=rfl
   rw[heq]at tw
   generalize uS p mem j=q at tw hsn
   generalize p.cells.getD j fU=c at e1 ce co tw
   generalize mem.getD j 0=v at e2 co tw
   have k1:eD (.mk 2 c.w j [])= .agg [iD 2,iD c.w,iD j,.sl 4 []]:=rfl
   have k2:eD (.mk 1 c.w v [])= .agg [iD 1,iD c.w,iD v,.sl 4 []]:=rfl
   simp only[ed,k1,k2]at ce co tw
   simp only[aY,bu,go_sem,hd,hd2,e1,e2,fb,ac,ad]
   refine bb (.tk 8 0<| .tk 2 9<| .take 15<| .pure 8<| .tk 4 11<| .tk 3 16<| .pure 19<| .tk 4 20<| .done) (by kernel_rfl) ?_
   simp only[aY,bu,go_sem,hd,hd2,e1,e2,fb,ac,ad]
   refine⟨⟨by omega,by omega⟩,mN (.d (.agg [iD 2,iD c.w,iD j,.sl 4 []])) ⟨λ Z'=>bH (ce _ _ _ ⟨rfl,rfl⟩),?_⟩⟩
   simp only[aY,bu,go_sem,hd,hd2,e1,e2,fb,ac,ad]
   refine⟨⟨by omega,by omega⟩,⟨by omega,by omega⟩,mN (.d (.agg [iD 1,iD c.w,iD v,.sl 4 []])) ⟨λ Z'=>bH (co _ _ _ ⟨rfl,rfl⟩),?_⟩⟩
   simp only[aY,bu,go_sem,hd,hd2,e1,e2,fb,ac,ad]
   refine bH (tw _ _ _ ?_)
   simp only[eD,go_sem,w2,hfl,fC]
   refine⟨⟨by simp only[maxLen];omega,by omega⟩,Wk.keep [1,2,4,5,6] [0,1,4] (by decide) (aE _) hbd ⟨p.cells.length - (j+1),by omega,j+1,by omega,rfl,by simp only[go_sem],?_⟩⟩
   rw[hsn]
   simp only[go_sem,dj,cG,aY]
  ·have hd:decide ((j:Int)<(p.cells.length:Int))=false:=by simp;omega
   obtain rfl:j=p.cells.length:=by omega
   simp only[aY,go_sem,hd,ac]
   refine Wk.frz 2 4 0 ((xW p mem p.cells.length).map Ex.d) rfl (Fv _) ?_
   simp only[go_sem,ac,sM]
   exact Wk.keep [4,5] [0,1] (by decide) (aE _) hbd ⟨by simp only[go_sem],some (.cells [.d (.sl 6 (p.cells.map fb)),.d (.sl 11 (p.modules.map iH)),.d (.sl 6 (p.locks.map iZ)),.d (.sl 7 (p.threads.map c8))]),by simp only[go_sem]⟩
 rintro fr st ⟨rfl,x,rfl⟩
 try simp only[go_sem]
 rcases cv p.cells.length with h0|h0
 ·have e0:v6 p mem= .mk 1 1 1 []:=by rw[v6,if_pos h0]
  have an:=and_nil
  rw[e0,ed]at h
  rw[ed]at an
  rw[h0]
  have e1:xW p mem 0=[]:=rfl
  rw[e1,bq]
  refine bH (an _ _ _ ?_)
  have k1:eD (.mk 1 1 1 [])= .agg [iD 1,iD 1,iD 1,.sl 4 []]:=rfl
  rw[k1]at h ⊢
  simp only[go_sem,fC]
  exact aQ hbd h
 ·have e0:v6 p mem=k9 5 (xW p mem p.cells.length):=by rw[v6,if_neg (by omega)]
  obtain⟨o1,o2,o3,o4,o5⟩:=isE_pt hp.sm hp.ok hm
  have an:=and_p (xW p mem p.cells.length) (by rw[sM];omega) (by rw[sM];omega) (λ x hx=>by
   obtain⟨i,hi,rfl⟩:=isL_mem hx
   exact(Bo hp.sm hp.ok hm hi).fo) (by rw[←e0,Ex.formed,o3,dJ];exact dU o2) (by rw[←e0];exact o1)
  rw[←e0]at an
  generalize v6 p mem=q at an h
  rw[ed]at an h
  refine bH (an _ _ _ ?_)
  unfold eD at h ⊢
  simp only[go_sem,fC]
  exact aQ hbd h
theorem ud(l:List Asg):mQ (bU (l.map dM)) 5 0 (l.map dM):=lx λ x hx=>by
 obtain⟨a,-,rfl⟩:=aI.1 hx
 refine⟨rfl,λ y hy=> ?_⟩
 simp only[dM,D.cells,aV,bi,or_false]at hy
 rcases hy with rfl|rfl|rfl|rfl|rfl<;> rfl
theorem Ga(l:List Thr):mQ (bU (l.map c8)) 7 0 (l.map c8):=lx λ x hx=>by
 obtain⟨a,-,rfl⟩:=aI.1 hx
 refine⟨rfl,λ y hy=> ?_⟩
 simp only[c8,D.cells,aV,bi,or_false]at hy
 rcases hy with rfl|rfl|rfl|rfl|rfl|rfl|rfl<;> rfl
def lE:Ex:= .mk 1 1 1 []
def gC(t:Int):Stp:=⟨3,0,1,lE,[⟨t,lE⟩],false,0,0⟩
def jB(t:Int):Stp:=⟨2,1,2,lE,[⟨2+t,.mk 2 1 (1 - t) []⟩],false,0,0⟩
def iu(t:Int)(name:UInt8):Thr:=⟨[name],3,[lE,lE,lE],[0,0,0],[gC t,jB t],[],false⟩
def gN:Prg:=
  ⟨[⟨[77,46,120],1,0,-1,false,0⟩,⟨[77,46,121],1,0,-1,false,0⟩,⟨[116,58,114],1,1,0,false,0⟩,⟨[117,58,115],1,1,1,false,0⟩],
   [⟨[77],[65,110,110],lE,lE,[0,1]⟩],[],[iu 0 116,iu 1 117]⟩
def qv:List Int:=[1,1,0,0]
def xY:Ex:=v6 gN qv
def bgo(p:Prg)(m:Int):Nat→BS→Option BS
  |0,_=>none
  |n+1,S=>match eX p m S with
    |none=>some S
    |some T=>bgo p m n T
theorem wD{p:Prg}{m:Int}:∀{n:Nat} {S T:BS},bgo p m n S=some T→Steps p m S T∧eX p m T=none
  |0,S,T,h=>by simp [bgo]at h
  |n+1,S,T,h=>by
    rw[bgo]at h
    split at h
    · rename_i hb
      cases h
      exact⟨.refl,hb⟩
    · rename_i ρ hb
      obtain⟨h1,h2⟩:=wD h
      exact⟨(Steps.tail .refl hb).trans h1,h2⟩
def bto(p:Prg)(m:Int)(acc:Cfg→Bool):Nat→BS→Option BS
  |0,_=>none
  |n+1,S=>match eX p m S with
    |none=>none
    |some T=>if S.V.length<T.V.length∧acc (T.V.getLastD e8).cfg=true then some T else bto p m acc n T
theorem wC{p:Prg}{m:Int}{acc:Cfg→Bool}:∀{n:Nat} {S T:BS},bto p m acc n S=some T→Steps p m S T
  |0,S,T,h=>by simp [bto]at h
  |n+1,S,T,h=>by
    rw[bto]at h
    split at h
    · cases h
    · rename_i ρ hb
      split at h
      · cases h;exact Steps.tail .refl hb
      · exact(Steps.tail .refl hb).trans (wC h)
def wF(V:List Vis):Nat→Nat→Option (List Cho)
  |0,_=>none
  |n+1,k=>match V[k]? with
    |none=>none
    |some v=>if v.frm<0 then some []else(wF V n v.frm.toNat).map (v.cho:: ·)
theorem uN{V:List Vis}:∀{n k:Nat} {l:List Cho},wF V n k=some l→Back V k l
  |0,k,l,h=>by simp [wF]at h
  |n+1,k,l,h=>by
    rw[wF]at h
    split at h
    · cases h
    · rename_i v hv
      split at h
      · rename_i hf
        cases h
        exact .root hv hf
      · rename_i hf
        cases hb:wF V n v.frm.toNat with
        |none=>rw[hb]at h;cases h
        |some r=>
          rw[hb]at h
          cases h
          exact .step hv (by omega) (uN hb)
def crSC:Bool:=match bgo gN 0 400 (kP gN 0)with
  |some S=>S.V.all (λ u=> !kn xY u.cfg)&&decide (S.V.length≤600)
  |none=>false
theorem DG:crSC=true:=by decide+kernel
def crTSO:Bool:=match bto gN 1 (kn xY) 2000 (kP gN 1)with
  |some S=>decide (S.V.length≤600)&&(S.V.dropLast.all λ u=> !kn xY u.cfg)&&kn xY (S.V.getLastD e8).cfg&&(match wF S.V 100 (S.V.length - 1)with
    |some l=>l.length==6&&fO ((iS gN 1 (bS gN) l.reverse).getD 6 jm)&& !fO ((iS gN 1 (bS gN) l.reverse).getD 4 jm)
    |none=>false)
  |none=>false
theorem Bt:crTSO=true:=by decide+kernel
theorem vW{p:Prg}{m:Int}{S T:BS}(hS:Steps p m (kP p m) S)(hT:Steps p m (kP p m) T)(hb:eX p m T=none):∃W,T.V=S.V++W:=by
  rcases Steps.linear hS hT with h|h
  · exact Steps.grow h
  · have:=Steps.last h hb
    subst this
    exact⟨[],by simp⟩
theorem cr_sc{S:BS}(hS:Steps gN 0 (kP gN 0) S):S.V.length≤600∧∀u∈S.V,kn xY u.cfg=false:=by
  have h:=DG
  unfold crSC at h
  split at h
  · rename_i T hT
    rw[aB,aZ,av]at h
    obtain⟨h1,h2⟩:=wD hT
    obtain⟨W,hW⟩:=vW hS h1 h2
    rw[hW]at h
    refine⟨by have:=h.2;rw[aF]at this;omega,λ u hu=> ?_⟩
    simpa using h.1 u (cV _ hu)
  · cases h
theorem Bs:∃(T:BS) (V:List Vis) (v:Vis) (l:List Cho),Steps gN 1 (kP gN 1) T∧T.V=V++[v]∧T.V.length≤600∧(∀u∈V,kn xY u.cfg=false)∧kn xY v.cfg=true∧Back (V++[v]) V.length l∧l.length=6∧fO ((iS gN 1 (bS gN) l.reverse).getD 6 jm)=true∧fO ((iS gN 1 (bS gN) l.reverse).getD 4 jm)=false:=by
  have h:=Bt
  unfold crTSO at h
  split at h
  · rename_i T hT
    simp only[aB]at h
    obtain⟨⟨⟨h1,h2⟩,h3⟩,h4⟩:=h
    split at h4
    · rename_i l hl
      simp only[aB,bQ]at h4
      obtain⟨⟨h5,h6⟩,h7⟩:=h4
      have hne:T.V≠[]:=λ z=>by rw[z]at h3;exact absurd h3 (by decide)
      have e:T.V=T.V.dropLast++[T.V.getLastD e8]:=by
        rw[List.getLastD_eq_getLast?,List.getLast?_eq_some_getLast hne,b9]
        exact(List.dropLast_concat_getLast hne).symm
      have hb:=uN hl
      have hdl:T.V.dropLast.length=T.V.length - 1:=List.length_dropLast
      refine⟨T,T.V.dropLast,T.V.getLastD e8,l,wC hT,e,of_decide_eq_true h1,λ u hu=> ?_,h3,by rw[←e,hdl];exact hb,by simpa using h5,h6,h7⟩
      have:=aZ.1 h2 u hu
      simpa using this
    · cases h4
  · cases h
theorem ul{V W X:List Vis}{v w:Vis}{acc:Cfg→Bool}(h:(V++[v])++X=W++[w])(h1:acc v.cfg=true)(h2:∀u∈W,acc u.cfg=false):V=W∧v=w∧X=[]:=by
  rcases List.eq_nil_or_concat X with rfl|⟨Y,y,rfl⟩
  · rw[bt]at h
    have h3:=List.append_inj' h rfl
    exact⟨h3.1,by simpa using h3.2,rfl⟩
  · exfalso
    rw[List.concat_eq_append,←aU]at h
    have h3:=(List.append_inj' h rfl).1
    have:v∈W:=by rw[←h3];simp
    rw[h2 v this]at h1
    cases h1
theorem cr_find1{V:List Vis}{v:Vis}{S:BS}{l:List Cho}(hS:Steps gN 1 (kP gN 1) S)(hV:S.V=V++[v])(hac:kn xY v.cfg=true)(hno:∀u∈V,kn xY u.cfg=false)(hb:Back (V++[v]) V.length l):
    l.length=6∧fO ((iS gN 1 (bS gN) l.reverse).getD 6 jm)=true∧fO ((iS gN 1 (bS gN) l.reverse).getD 4 jm)=false:=by
  obtain⟨T,W,w,k,t1,t2,t3,t4,t5,t6,t7,t8,t9⟩:=Bs
  have hVW:V=W∧v=w:=by
    rcases Steps.linear hS t1 with h|h
    · obtain⟨X,hX⟩:=Steps.grow h
      rw[t2,hV]at hX
      obtain⟨a,b,_⟩:=ul hX.symm hac t4
      exact⟨a,b⟩
    · obtain⟨X,hX⟩:=Steps.grow h
      rw[t2,hV]at hX
      obtain⟨a,b,_⟩:=ul hX.symm t5 hno
      exact⟨a.symm,b.symm⟩
  obtain⟨rfl,rfl⟩:=hVW
  have:l=k:=Back.uniq hb t6
  subst this
  exact⟨t7,t8,t9⟩
theorem cr_lim1{S:BS}(hS:Steps gN 1 (kP gN 1) S)(hl:S.V.length=601)(hno:∀u∈S.V.take 600,kn xY u.cfg=false):False:=by
  obtain⟨T,W,w,k,t1,t2,t3,t4,t5,t6,t7,t8,t9⟩:=Bs
  rcases Steps.linear hS t1 with h|h
  · obtain⟨X,hX⟩:=Steps.grow h
    rw[hX,aF]at t3
    omega
  · obtain⟨X,hX⟩:=Steps.grow h
    have hw:w∈S.V.take 600:=by
      have hlen:T.V.length≤600:=t3
      rw[hX,List.take_append,aK hlen,t2]
      simp
    rw[hno w hw]at t5
    cases t5
theorem cr_end1{S:BS}(hS:Steps gN 1 (kP gN 1) S)(hb:eX gN 1 S=none)(hno:∀u∈S.V,kn xY u.cfg=false):False:=by
  obtain⟨T,W,w,k,t1,t2,t3,t4,t5,t6,t7,t8,t9⟩:=Bs
  obtain⟨X,hX⟩:=vW t1 hS hb
  have hw:w∈S.V:=by rw[hX,t2];simp
  rw[hno w hw]at t5
  cases t5
theorem DF(t:Int)(n:UInt8):ThrSm (iu t n) where
 points:=by simp [iu]
 nas:=by simp [iu]
 nmo:=by simp [iu]
 nst:=by show 2≤10;omega
 nlo:=by simp [iu]
 asserts e he:=by
  simp only[iu,aV,bi,or_false,or_self]at he
  rw[he];decide
 loops l hl:=by simp [iu]at hl
 steps s hs:=by
  simp only[iu,aV,bi,or_false]at hs
  rcases hs with rfl|rfl
  ·exact⟨by show lE.nodes≤40;decide,by show 1≤4;omega,λ a ha=>by
    simp only[gC,aV,bi,or_false]at ha
    rw[ha];show lE.nodes≤40;decide⟩
  ·exact⟨by show lE.nodes≤40;decide,by show 1≤4;omega,λ a ha=>by
    simp only[jB,aV,bi,or_false]at ha
    rw[ha]
    simp [Ex.nodes,Ex.nodesL]⟩
theorem DH:gN.Small where
 ncel:=by decide
 nmod:=by decide
 nlck:=by decide
 nthr:=by decide
 modules m hm:=by
  simp only[gN,aV,bi,or_false]at hm
  rw[hm];decide
 locks l hl:=by simp [gN]at hl
 threads x hx:=by
  simp only[gN,aV,bi,or_false]at hx
  rcases hx with rfl|rfl<;> exact DF _ _
theorem qX(p:Prg)(pair:Bool)(f:Int→Bool):p.truB lE pair f=true:=by
 simp [Prg.truB,lE,Ex.w,Ex.valid,Ex.formed,Ex.nodes,Ex.nodesL,Ex.deep,Ex.fits,Ex.arity,Ex.op,Ex.n,Ex.kids,Ex.over,qc,Ex.overN,Ex.allB,wI]
theorem pm(c:List Cel)(pair:Bool):lE.valid c pair=true:=by
 simp [lE,Ex.w,Ex.valid,Ex.formed,Ex.nodes,Ex.nodesL,Ex.deep,Ex.fits,Ex.arity,Ex.op,Ex.n,Ex.kids,Ex.over,qc,Ex.overN]
theorem tS(f:Int→Bool):lE.allB f=true:=by simp [lE,Ex.allB,wI]
theorem wo(t:Int)(n:UInt8)(ht:(t=0∧n=116)∨(t=1∧n=117)):ThrOk gN t (iu t n) where
 name:=by rcases ht with⟨rfl,rfl⟩|⟨rfl,rfl⟩<;> decide
 points:=by simp [iu]
 nas:=by simp [iu]
 nmo:=by simp [iu]
 mods m hm:=by
  simp only[iu,aV,bi,or_false,or_self]at hm
  rw[hm];decide
 asserts e he:=by
  simp only[iu,aV,bi,or_false,or_self]at he
  rw[he];exact qX _ _ _
 loops l hl:=by simp [iu]at hl
 steps s hs:=by
  simp only[iu,aV,bi,or_false]at hs
  rcases hs with rfl|rfl
  ·refine⟨⟨by simp [gC],by simp [gC,iu]⟩,⟨by simp [gC],by simp [gC,iu]⟩,⟨by simp [gC],by simp [gC,gN]⟩,by simp [gC],by simp [gC],by simp [gC,lE,Ex.w],pm _ _,?_,by simp [gC],?_⟩
   ·intro a ha
    simp only[gC,aV,bi,or_false]at ha
    rw[ha]
    rcases ht with⟨rfl,rfl⟩|⟨rfl,rfl⟩<;> exact⟨by decide,by decide,pm _ _⟩
   ·refine .inr (.inr (.inl ⟨rfl,tS _,λ a ha=> ?_,_,_,rfl,?_,?_,λ b hb=>by cases hb⟩))
    ·simp only[gC,aV,bi,or_false]at ha
     rw[ha];exact tS _
    ·rcases ht with⟨rfl,rfl⟩|⟨rfl,rfl⟩<;> decide
    ·rcases ht with⟨rfl,rfl⟩|⟨rfl,rfl⟩<;> decide
  ·refine⟨⟨by simp [jB],by simp [jB,iu]⟩,⟨by simp [jB],by simp [jB,iu]⟩,⟨by simp [jB],by simp [jB,gN]⟩,by simp [jB],by simp [jB],by simp [jB,lE,Ex.w],pm _ _,?_,by simp [jB],?_⟩
   ·intro a ha
    simp only[jB,aV,bi,or_false]at ha
    rw[ha]
    rcases ht with⟨rfl,rfl⟩|⟨rfl,rfl⟩<;> exact⟨by decide,by decide,by decide+kernel⟩
   ·refine .inr (.inl ⟨rfl,tS _,_,_,rfl,?_,?_,rfl,?_,?_,λ b hb=>by cases hb⟩)
    all_goals (rcases ht with⟨rfl,rfl⟩|⟨rfl,rfl⟩<;> decide)
theorem xN:gN.Ok where
 cells c hc:=by
  simp only[gN,aV,bi,or_false]at hc
  rcases hc with rfl|rfl|rfl|rfl<;> exact⟨by decide,by decide,by decide,by decide,by decide⟩
 cnames:=by decide
 modules m hm:=by
  simp only[gN,aV,bi,or_false]at hm
  rw[hm]
  refine⟨by decide,by decide,.inr (qX _ _ _),qX _ _ _,λ c hc=> ?_,by simp [qE]⟩
  simp only[aV,bi,or_false]at hc
  rcases hc with rfl|rfl<;> decide
 mnames:=by decide
 locks l hl:=by simp [gN]at hl
 lcells:=by decide
 threads t x hx:=by
  match t,hx with
  |0,hx=>
   simp only[gN,cA,Option.some.injEq]at hx
   subst hx
   exact wo _ _ (.inl ⟨rfl,rfl⟩)
  |1,hx=>
   simp only[gN,cA,cN,Option.some.injEq]at hx
   subst hx
   exact wo _ _ (.inr ⟨rfl,rfl⟩)
  |t+2,hx=>simp [gN]at hx
 tnames:=by decide
theorem z6:MemOk gN qv where
 len:=by decide
 val i v h:=by
  match i,h with
  |0,h|1,h|2,h|3,h=>
   simp only[qv,cA,cN,Option.some.injEq]at h
   subst h
   decide
  |i+4,h=>simp [qv]at h
def crT(j:Nat):Thr:=iu j (if j=0 then 116 else 117)
def crO(a:A):Option Ob:=some (.cells [.d (aY gN.cells),.d (.sl 11 (gN.modules.map iH)),.d (.sl 6 []),a])
def stpA(s:Stp):List A:=[di s.kind,di s.src,di s.dst,di s.guard.op,di s.guard.w,di s.guard.n,.d (.sl 4 (s.guard.kids.map Ex.d)),.d (.sl 5 (s.set.map dM)),db s.rel,di s.target,di s.mod]
theorem xB(l:List Thr):(bU (l.map c8)).length=l.length*7:=by
  have:=mg (sz:=7) (xs:=l.map c8) λ x hx=>by
    obtain⟨d,-,rfl⟩:=aI.1 hx
    rfl
  simpa using this
theorem flat_dp(n0 f:Nat)(J:List Nat)(l:St)(xs:List D):(bU xs).map (xX n0 J l (f+1))=bU xs:=by
  unfold bU
  simp [List.map_flatMap,Function.comp_def,dpA_d]
theorem NilAL.app{x y:List A}(h:NilAL x y):∀l:List A,NilAL (l++x) (l++y)
  |[]=>h
  |a::l=> .cons (.refl a) (NilAL.app h l)
theorem thr_snoc(l:List Thr)(x:Thr):bU ((l++[x]).map c8)=bU (l.map c8)++[.d (.str x.name),.d (iD x.points),.d (.sl 4 (x.asserts.map Ex.d)),.d (bu x.mods),.d (.sl 11 (x.steps.map eP)),.d (.sl 6 (x.loops.map pt)),.d (.bool x.asleep)]:=by
  rw[aJ,cZ];rfl
theorem DE(Z:St)(G:Glob)(R:A→St→Prop)(h:R (.d (bK gN)) Z):AC Tryz.prog G 26 [] Z R:=by
  refine bD [7,8] a9 Tryz.func26 rfl Tryz.ntmps26 (by simp only[go_sem]) λ hbd=> ?_
  simp only[ae,aj,Nat.reduceAdd,Nat.reduceSub,af,ag,ah,ak]
  try simp only[go_sem]
  refine bH (one_ac _ _ _ ?_)
  simp only[eD,Ex.op,Ex.w,Ex.n,Ex.kids,bq,go_sem]
  refine aS (λ k fr st=>∃j:Nat,j≤2∧k=2 - j∧fr=%[.ref Z.length 0,.ref (Z.length+1) 0,.ref (Z.length+2) 0,dn j|D6 (D5 [.o,.o,.o,.o])]∧st=Z++[some (.cells [.d .nils,.d .nils,.d .nils,.d .nils]),some (.cells [di 1,di 1,di 1,.d (.sl 4 [])]),crO (.rs (Z.length+3) 7 0 j (some 84)),some (.cells (bU (((List.range j).map crT).map c8)))]) 2 _ ?_ ?_
  · refine Wk.via (bw.deep [2,3,4] 8) ?_
    simp only[go_sem]
    refine Wk.via ((bw.mask [0,1,2,3]).trans (bw.keep [0,1,5] (by decide) (aE _) hbd)) ?_
    simp only[go_sem]
    refine Wk.via (bw.emptyIn (Z:=Z) 2 3 7 (some 84) rfl rfl) ?_
    simp only[go_sem]
    refine Wk.via (bw.nilsO (Z:=Z) 2 rfl (.cons (.refl _) (.cons (.refl _) (.cons (.d (.nil 6)) (.cons (.refl _) .nil))))) ?_
    exact Wk.mask [0,1,2,3] ⟨0,by omega,by omega,rfl,rfl⟩
  rintro k fr st ⟨j,hj,hk,rfl,rfl⟩
  rcases aC j 2 with hlt|hge
  · have hd:decide ((j:Int)<2)=true:=by simp;omega
    have hd':decide ((j:Int)≥2)=false:=by simp;omega
    have w2:=bC j (by omega)
    unfold crO
    simp only[go_sem,hd]
    refine bc (λ fr st=>fr=%[.ref Z.length 0,.ref (Z.length+1) 0,.ref (Z.length+2) 0,dn j,.ref (Z.length+4) 0|D6 (D5 [.o,.o,.o])]∧st=Z++[some (.cells [.d .nils,.d .nils,.d .nils,.d .nils]),some (.cells [di 1,di 1,di 1,.d (.sl 4 [])]),crO (.rs (Z.length+3) 7 0 j (some 84)),some (.cells (bU (((List.range j).map crT).map c8))),some (.cells (stpA (gC j)))]) ?_ ?_
    · simp only[go_sem,hd]
      refine Wk.via (bw.freezeIn (Z:=Z) 4 5 5 0 [dM ⟨j,lE⟩] rfl (ud [⟨j,lE⟩]) rfl (by decide)) ?_
      simp only[go_sem,ae,aj,and_self,if_true,false_and,if_false]
      exact Wk.keep [0,1,2,3,4] [0,1,2,3,5] (by decide) (aE _) hbd ⟨by simp only[go_sem],by simp only[go_sem,crO];rfl⟩
    rintro fr st ⟨rfl,rfl⟩
    unfold crO stpA
    try simp only[go_sem]
    refine bc (λ fr st=>fr=%[.ref Z.length 0,.ref (Z.length+1) 0,.ref (Z.length+2) 0,dn j,.ref (Z.length+4) 0,.ref (Z.length+5) 0|D6 (D5 [.o,.o])]∧st=Z++[some (.cells [.d .nils,.d .nils,.d .nils,.d .nils]),some (.cells [di 1,di 1,di 1,.d (.sl 4 [])]),crO (.rs (Z.length+3) 7 0 j (some 84)),some (.cells (bU (((List.range j).map crT).map c8))),some (.cells (stpA (gC j))),some (.cells (stpA (jB j)))]) ?_ ?_
    · have v1:IntKind.i64.wrap (2+(j:Int))=2+j:=cq _ (by omega) (by omega)
      have v2:IntKind.i64.wrap (1 - (j:Int))=1 - j:=cq _ (by omega) (by omega)
      have ce:=Cv (1 - (j:Int)) 1
      simp only[ed,eD,Ex.op,Ex.w,Ex.n,Ex.kids,bq]at ce
      refine bb (.tk 4 1<| .pure 5<| .take 0<| .take 6<| .alt 7 (.tk 3 8<| .done)<| .alt 9 (.tk 2 7<| .take 10<| .done)<| .stop) (by kernel_rfl) ?_
      simp only[go_sem,v1,v2]
      refine mN (.d (.agg [iD 2,iD 1,iD (1 - (j:Int)),.sl 4 []])) ⟨λ Z'=>bH (ce _ _ _ ⟨rfl,rfl⟩),?_⟩
      simp only[go_sem,v1,v2]
      refine⟨?_,?_⟩
      · refine Wk.via (bw.freezeIn (Z:=Z) 5 6 5 0 [dM ⟨2+j,.mk 2 1 (1 - j) []⟩] rfl (ud [⟨2+j,.mk 2 1 (1 - j) []⟩]) rfl (by decide)) ?_
        simp only[go_sem,ae,aj,and_self,if_true,false_and,if_false]
        exact Wk.keep [0,1,2,3,4,5] [0,1,2,3,4,6] (by decide) (aE _) hbd ⟨by simp only[go_sem],by simp only[go_sem,crO];rfl⟩
      · refine Wk.via (bw.freezeIn (Z:=Z) 6 5 5 0 [dM ⟨2+j,.mk 2 1 (1 - j) []⟩] rfl (ud [⟨2+j,.mk 2 1 (1 - j) []⟩]) rfl (by decide)) ?_
        simp only[go_sem,ae,aj,and_self,if_true,false_and,if_false]
        exact Wk.keep [0,1,2,3,4,5] [0,1,2,3,4,5] (by decide) (aE _) hbd ⟨by simp only[go_sem],by simp only[go_sem,crO];rfl⟩
    rintro fr st ⟨rfl,rfl⟩
    unfold crO stpA
    have hfl:=xB ((List.range j).map crT)
    rw[ac,List.length_range]at hfl
    have hjj:j=0∨j=1:=by omega
    refine bb (.tk 2 0<| .take 3<| .tk 3 6<| .tk 2 11<| .alt 2 (.tk 2 4<| .alt 9 (.alt 10 (.tk 6 13<| .done)<| .alt 13 (.take 10<| .tk 5 14<| .done)<| .stop)<| .alt 10 (.alt 9 (.tk 6 13<| .done)<| .alt 13 (.take 9<| .tk 5 14<| .done)<| .stop)<| .alt 13 (.alt 9 (.take 10<| .tk 5 14<| .done)<| .alt 10 (.take 9<| .tk 5 14<| .done)<| .stop)<| .stop)<| .alt 9 (.alt 2 (.tk 2 4<| .alt 10 (.tk 6 13<| .done)<| .alt 13 (.take 10<| .tk 5 14<| .done)<| .stop)<| .alt 10 (.alt 2 (.tk 2 4<| .tk 6 13<| .done)<| .alt 13 (.take 2<| .tk 2 4<| .tk 5 14<| .done)<| .stop)<| .alt 13 (.alt 2 (.tk 2 4<| .take 10<| .tk 5 14<| .done)<| .alt 10 (.take 2<| .tk 2 4<| .tk 5 14<| .done)<| .stop)<| .stop)<| .alt 10 (.alt 2 (.tk 2 4<| .alt 9 (.tk 6 13<| .done)<| .alt 13 (.take 9<| .tk 5 14<| .done)<| .stop)<| .alt 9 (.alt 2 (.tk 2 4<| .tk 6 13<| .done)<| .alt 13 (.take 2<| .tk 2 4<| .tk 5 14<| .done)<| .stop)<| .alt 13 (.alt 2 (.tk 2 4<| .take 9<| .tk 5 14<| .done)<| .alt 9 (.take 2<| .tk 2 4<| .tk 5 14<| .done)<| .stop)<| .stop)<| .alt 13 (.alt 2 (.tk 2 4<| .alt 9 (.take 10<| .tk 5 14<| .done)<| .alt 10 (.take 9<| .tk 5 14<| .done)<| .stop)<| .alt 9 (.alt 2 (.tk 2 4<| .take 10<| .tk 5 14<| .done)<| .alt 10 (.take 2<| .tk 2 4<| .tk 5 14<| .done)<| .stop)<| .alt 10 (.alt 2 (.tk 2 4<| .take 9<| .tk 5 14<| .done)<| .alt 9 (.take 2<| .tk 2 4<| .tk 5 14<| .done)<| .stop)<| .stop)<| .stop) (by kernel_rfl) ?_
    have es:∀k:Nat,(k=0∨k=1)→List.getD [A.d (D.str [116]),A.d (D.str [117])] k A.o= .d (.str (crT k).name):=λ k hk=>by rcases hk with rfl|rfl<;> rfl
    simp only[go_sem,w2,hfl,es j hjj,ad,br,ci]
    have hr:(List.range (j+1)).map crT=(List.range j).map crT++[crT j]:=by rw[eY,aJ];rfl
    have hs:=thr_snoc ((List.range j).map crT) (crT j)
    rw[←hr]at hs
    repeat' with_reducible apply And.intro
    all_goals first
      |omega
      |(simp only[maxLen];omega)
      |(
         refine Wk.via (bw.deep [6,7,8,9,10] 8) ?_
         simp only[go_sem,aJ,flat_dp]
         refine Wk.via (bw.nilsO (Z:=Z) 11 rfl (NilAL.app (.cons (.refl _) (.cons (.refl _) (.cons (.refl _) (.cons (.refl _) (.cons (.refl _) (.cons (.d (.nil 6)) (.cons (.refl _) .nil))))))) _)) ?_
         simp only[go_sem]
         exact Wk.keep [0,1,2,3] [0,1,2,11] (by decide) (aE _) hbd ⟨2 - (j+1),by omega,j+1,by omega,rfl,by simp only[go_sem],by rw[hs];simp only[go_sem];rfl⟩)
      |trace_state
  · obtain rfl:j=2:=by omega
    have hd:decide (((2:Nat):Int)<2)=false:=by decide
    have e2:(List.range 2).map crT=gN.threads:=rfl
    rw[e2]
    unfold crO
    simp only[go_sem,hd]
    refine de 3 7 0 (gN.threads.map c8) rfl (Ga _) ?_
    simp only[go_sem,ac]
    exact dq hbd rfl h
theorem nH:Good gN where
 sm:=DH
 ok:=xN
 nm:=⟨λ c hc=>by
   simp only[gN,aV,bi,or_false]at hc
   rcases hc with rfl|rfl|rfl|rfl<;> simp [reachBytes],
  λ m hm=>by
   simp only[gN,aV,bi,or_false]at hm
   subst hm
   simp [reachBytes],
  λ x hx=>by
   simp only[gN,aV,bi,or_false]at hx
   rcases hx with rfl|rfl<;> simp [reachBytes,iu]⟩
theorem yV{G:Glob}(hG:G.g 0=some cB)(hpan:∀a s,¬G.pan a s)(Z:St)(R:A→St→Prop)(h:R (db true) Z):AC Tryz.prog G 6 [] Z R:=by
 have cr:=DE
 have hE:GolOk gN xY:=isE_ok nH z6
 have is:∀(Z:St) (G:Glob) (R:A→St→Prop),R (.d xY.d) Z→AC Tryz.prog G 23 [.d (bK gN),.d (bu qv)] Z R:=r7Is_p gN nH qv z6
 have f0:=BK hG hpan gN nH 0 (by omega) xY hE 600 (by omega)
 have f1:=BK hG hpan gN nH 1 (by omega) xY hE 600 (by omega)
 have ru:=Run_p hG hpan gN nH 1 (by omega)
 refine bD [3,4,5,6] a9 Tryz.func6 rfl Tryz.ntmps6 (by simp only[go_sem]) λ hbd=> ?_
 simp only[ae,aj,Nat.reduceAdd,Nat.reduceSub,af,ag,ah,ak]
 try simp only[go_sem]
 refine bH (cr _ _ _ ?_)
 unfold bK at*
 try simp only[go_sem]
 refine bc (λ fr st=>fr=%[db false,.ref Z.length 0,.ref (Z.length+1) 0|D7 [.o,.o,.o,.o]]∧st=Z++[some (.cells [.d (aY gN.cells),.d (.sl 11 (gN.modules.map iH)),.d (.sl 6 (gN.locks.map iZ)),.d (.sl 7 (gN.threads.map c8))]),sA xY]) ?_ ?_
 ·try simp only[go_sem]
  refine bH (xS 1 1 0 (qv.map iD) rfl (cJ qv) ?_)
  simp only[go_sem,ac]
  show AC Tryz.prog G 23 [_,.d (bu qv)] _ _
  refine is _ _ _ ?_
  rw[ed]
  unfold eD
  try simp only[go_sem]
  exact Wk.keep [0,1,2] [0,2] (by decide) (aE _) hbd ⟨by simp only[go_sem],by simp only[go_sem]⟩
 rintro fr st ⟨rfl,rfl⟩
 refine bc (λ fr st=>fr=%[db false,.ref Z.length 0,.ref (Z.length+1) 0,.o,di 4|D7 [.o,.o]]∧st=Z++[some (.cells [.d (aY gN.cells),.d (.sl 11 (gN.modules.map iH)),.d (.sl 6 (gN.locks.map iZ)),.d (.sl 7 (gN.threads.map c8))]),sA xY]) ?_ ?_
 ·try simp only[go_sem]
  refine bH (f0 _ _ (λ S hS hl _=> ?_) (λ V v S l hS hV hl hac hno hb=> ?_) (λ S hS hb hno=> ?_))
  ·exact absurd (cr_sc hS).1 (by omega)
  ·have:=(cr_sc hS).2 v (by rw[hV];simp)
   rw[this]at hac;cases hac
  ·try simp only[go_sem]
   exact Wk.mask [0,1,2,4] ⟨rfl,rfl⟩
 rintro fr st ⟨rfl,rfl⟩
 refine bc (λ fr st=>∃l:List Cho,l.length=6∧fK gN 1 (bS gN) l.reverse∧fO ((iS gN 1 (bS gN) l.reverse).getD 6 jm)=true∧fO ((iS gN 1 (bS gN) l.reverse).getD 4 jm)=false∧fr=%[db false,.ref Z.length 0,.o,.o,di 4,.d (.sl 3 (l.reverse.map c7)),di 0|D7 []]∧st=Z++[some (.cells [.d (aY gN.cells),.d (.sl 11 (gN.modules.map iH)),.d (.sl 6 (gN.locks.map iZ)),.d (.sl 7 (gN.threads.map c8))]),sA xY]) ?_ ?_
 ·try simp only[go_sem]
  refine bH (f1 _ _ (λ S hS hl hno=> ?_) (λ V v S l hS hV hl hac hno hb=> ?_) (λ S hS hb hno=> ?_))
  ·exact(cr_lim1 hS hl hno).elim
  ·obtain⟨l6,q6,q4⟩:=cr_find1 hS hV hac hno hb
   have hl120:l.length≤120:=by omega
   refine⟨λ _=> ?_,λ z=>absurd z (by omega)⟩
   try simp only[go_sem]
   have hp:=(Back.path (fx xN hS) (by rw[hV];exact hb)).1
   exact Wk.mask [0,1,4,5,6] ⟨l,l6,hp,q6,q4,rfl,rfl⟩
  ·exact(cr_end1 hS hb hno).elim
 rintro fr st ⟨l,l6,hrun,q6,q4,rfl,rfl⟩
 have hY:=kV (p:=gN) (m:=1) l.reverse (bS gN)
 have hfY:=nD xN (jl xN 1) hrun
 have ru2:=ru l.reverse hrun (by rw[cI];omega)
 rw[cI,l6]at hY ru2
 obtain⟨Y,hYe⟩:∃Y,iS gN 1 (bS gN) l.reverse=Y:=⟨_,rfl⟩
 rw[hYe]at hY hfY ru2 q6 q4
 refine bc (λ fr st=>fr=%[db false,.o,.o,.o,di 4,.d (.sl 3 (l.reverse.map c7)),di 0,.d (.sl 3 (Y.map bX)),di 0,di 6|D6 (D5 (D4 [.o,.o,.o,.o,.o]))]∧st=Z) ?_ ?_
 ·try simp only[go_sem]
  refine bH (ru2 _ _ ?_)
  try simp only[go_sem]
  exact Wk.keep [0,4,5,6,7,8,9] [] (by decide) (aE _) hbd ⟨by simp only[go_sem]<;> rfl,by simp only[go_sem,iC,bt]⟩
 rintro fr st ⟨rfl,rfl⟩
 have c3:((l.reverse.length:Int)==6)=true:=by rw[cI,l6];rfl
 have c5:((Y.length:Int)==7)=true:=by rw[hY];rfl
 have c1:((4:Int)==4)=true:=rfl
 have c2:((0:Int)==0)=true:=rfl
 have c4:((6:Int)==6)=true:=rfl
 have t6:Int.toNat 6=6:=rfl
 have t4:Int.toNat 4=4:=rfl
 have e6:=pE (l:=Y) (j:=6) (by omega)
 have e4:=pE (l:=Y) (j:=4) (by omega)
 have g6:=(hfY _ (bv jm (l:=Y) (j:=6) (by omega))).nbuf
 have g4:=(hfY _ (bv jm (l:=Y) (j:=4) (by omega))).nbuf
 have hth:gN.threads.length=2:=rfl
 have u6:=tI (Y.getD 6 jm) (by omega)
 have u4:=tI (Y.getD 4 jm) (by omega)
 rw[q6]at u6
 rw[q4]at u4
 generalize Y.getD 6 jm=y6 at e6 u6
 generalize Y.getD 4 jm=y4 at e4 u4
 have k6:bX y6= .agg [bu y6.mem,bu y6.pos,.sl 1 (y6.buf.map cu)]:=rfl
 have k4:bX y4= .agg [bu y4.mem,bu y4.pos,.sl 1 (y4.buf.map cu)]:=rfl
 rw[k6]at e6 u6
 rw[k4]at e4 u4
 simp only[go_sem,c1,c2,c3,c4,c5,t6,t4,e6,e4,ac]
 refine⟨⟨by omega,by omega⟩,gO (.bool true) ⟨λ _=>⟨rfl,bH (u6 _ _ _ ?_)⟩,?_⟩⟩
 ·simp only[go_sem]
 simp only[go_sem,c1,c2,c3,c4,c5,t6,t4,e6,e4,ac]
 refine⟨⟨by omega,by omega⟩,gO (.bool false) ⟨λ _=>⟨rfl,bH (u4 _ _ _ ?_)⟩,?_⟩⟩
 ·simp only[go_sem]
 simp only[go_sem,c1,c2,c3,c4,c5,t6,t4,e6,e4,ac]
 exact xd h
end
section
open Go Go.Ab
section
variable {p:Prg} {m:Int} {S T:BS}
end
end
section
open Go Go.Ab
section
variable {p:Prg} {m:Int} {t:Nat} {c:Cfg}
theorem Gk(hf:Fits p m c)(h:∀u,u<p.threads.length→u≠t→c.bufAt u=[]):E3 p m c t=[]:=by
 refine List.filter_eq_nil_iff.2 λ x hx hq=> ?_
 simp only[aB,cg,bQ,ck]at hq
 obtain⟨u,i,hu,h1,h2,h3,_⟩:=Ft hf hx hq.1
 have:=h u hu (λ e=>hq.2 (by rw[h1,e]))
 rw[this]at h2
 simp at h2
structure DrI (p:Prg) (m:Int) (t n:Nat) (c:Cfg) (v:Option (List Int)):Prop where
 run:∃L,fK p m (bS p) L∧jG p m (bS p) L=c
 tot:Fa c+n≤9
 view:∀w,v=some w→w=cT c t∧E3 p m c t=[]∧0<p.cells.length
theorem F3{p:Prg}{m:Int}{c:Cfg}(h:∃L,fK p m (bS p) L∧jG p m (bS p) L=c){x:Cho}(hx:x∈fY p m c):∃L,fK p m (bS p) L∧jG p m (bS p) L=fV p m c x:=by
 obtain⟨L,h1,h2⟩:=h
 refine⟨L++[x],mz.2 ⟨h1,by rw[h2];exact hx⟩,?_⟩
 unfold jG at h2 ⊢
 rw[dG,h2];rfl
theorem dr_oth(hf:Fits p m c){n:Nat}{v:Option (List Int)}(h:DrI p m t n c v){x:Cho}(hx:x∈E3 p m c t):DrI p m t (n+1) (fV p m c x) none∧v=none:=by
 have hx2:=eZ.1 hx
 have hs:x.step= -1:=by
  have:=hx2.2
  simp only[aB,cg]at this
  exact this.1
 obtain⟨u,i,hu,h1,h2,h3,h4⟩:=Ft hf hx2.1 hs
 refine⟨⟨F3 h.run hx2.1,?_,λ w hw=>by cases hw⟩,?_⟩
 ·rw[h4]
  have:=Fm h2
  have:=h.tot
  omega
 ·cases v with
  |none=>rfl
  |some w=>
   rw[(h.view w rfl).2.1]at hx
   cases hx
theorem GS{u i s:Nat}(hne:u≠s):(rC c u i).bufAt s=c.bufAt s:=by
 unfold rC
 rw[wB,if_neg (λ h=>hne h.1)]
theorem dr_own(hf:Fits p m c){n:Nat}{v:Option (List Int)}(h:DrI p m t n c v)(ho:E3 p m c t=[]){x:Cho}(hx:x∈y9 p m c t):DrI p m t (n+1) (fV p m c x) (some (cT c t)):=by
 have hx2:=eZ.1 hx
 have hq:=hx2.2
 simp only[aB,cg]at hq
 obtain⟨u,i,hu,h1,h2,h3,h4⟩:=Ft hf hx2.1 hq.1
 have e:u=t:=by have:=hq.2;rw[h1]at this;omega
 subst e
 have hfn:Fits p m (rC c u i):=Dw hf h2
 refine⟨F3 h.run hx2.1,?_,λ w hw=> ?_⟩
 ·rw[h4]
  have:=Fm h2
  have:=h.tot
  omega
 ·cases hw
  rw[h4]
  refine⟨(GC hf h2 h3).symm,Gk hfn λ s hs hne=> ?_,?_⟩
  ·rw[GS (Ne.symm hne)]
   exact Gv hs hne ho
  ·have hin:(c.bufAt u).getD i cD∈c.bufAt u:=by rw[au,ap h2];exact bI h2
   have he:=(hf.bufOk u).2 _ hin
   obtain⟨a,r,har⟩:=List.exists_cons_of_ne_nil he.pos
   have:=(eJ.1 (he.cell 0 a (by rw[har];rfl)).1).1
   omega
theorem dr_end(hf:Fits p m c)(ht:t<p.threads.length)(ho:E3 p m c t=[])(hw:y9 p m c t=[]):fO c=true∧c.mem=cT c t∧Fits p 0 c:=by
 have hn:=all_nil hf λ u hu=>by
  by_cases e:u=t
  ·rw[e];exact Gu ht hw
  ·exact Gv hu e ho
 refine⟨?_,?_,GQ hf hn⟩
 ·unfold fO
  rw[aZ]
  intro l hl
  rw[hn l hl];rfl
 ·exact(yi (Gu ht hw)).symm
theorem dr_met(hp:p.Ok){n:Nat}{v:Option (List Int)}(h:DrI p m t n c v){S:BS}(hS:Steps p m (kP p m) S)(hb:eX p m S=none):c∈S.V.map Vis.cfg:=by
 obtain⟨L,h1,h2⟩:=h.run
 rw[←h2]
 exact Gw hp hS hb h1
end
end
section
open Go Go.Ab
theorem PrgSz.nm{p:Prg}(hz:PrgSz p):NamesSz p:=⟨hz.names,λ m hm=>⟨(hz.modules m hm).1,(hz.modules m hm).2.1⟩,λ x hx=>(hz.threads x hx).1⟩
theorem Fits.sz'{p:Prg}{m:Int}{c:Cfg}(hf:Fits p m c)(hp:Good p):CfgSz c:=by
 obtain⟨h1,h2,h3,h4⟩:=hf.sz hp
 exact⟨by omega,by omega,by omega,λ l hl=>⟨by have:=(h4 l hl).1;omega,λ e he=>by have:=(h4 l hl).2 e he;omega⟩⟩
end
section
open Go Go.Ab Go.RowKit Go.ChangeShapes Go.WideShapes
theorem own:ownKnob Tryz.prog.godebug=none:=by kernel_rfl
theorem gMasks : Tryz.prog.globalNamed "relyguard/expr.masks" = some 0 := by kernel_rfl
abbrev zz : List (String × DataW Unit) := [("relyguard/expr.masks", Rows.laid_relyguard_expr_masks)]
theorem FB(os:Os)(args:Array Value):laidMetH Tryz.prog zz ((World.doorLaid Tryz.prog 400 os).forCall (λ _ _=>0) ⟨#[],args,[]⟩).memory:=
 laidMetH_of_parts3 (fuel:=8) (laidMet_of_run' 8 (by kernel_rfl) (by kernel_rfl)) (by kernel_rfl) (by kernel_rfl)
abbrev maskT:TypeId:=205
theorem tMasks:(Tryz.prog.globals[0]?).map (·.type)=some maskT:=by kernel_rfl
theorem closedG:ox Tryz.prog [maskT,3]=true:=by kernel_rfl
def zH:Glob:=⟨λ g=>match g with|0=>some cB|_=>none,λ _ _=>False⟩
theorem Dt{W:World}(h:laidMetH Tryz.prog zz W):∀(g:Nat) (x:D),zH.g g=some x→RepA [] W (.ea x 0) (.pointer (some ⟨g,0,none⟩)):=by
 rw[MakeChecks.laidMetH_plain _ _ _ (by kernel_rfl)]at h
 obtain⟨ps,⟨g0,t0,cs0,f0,p0,q0,hg0,ht0,hv0,hd0,_,_⟩,_,_⟩:=h
 obtain rfl:=Option.some.inj (gMasks.symm.trans hg0)
 obtain rfl:=Option.some.inj (tMasks.symm.trans ht0)
 intro g x hx
 match g with
 |0=>
  simp only[zH,Option.some.injEq]at hx
  subst hx
  have:=laid_ea closedG (by simp) gMasks hv0 hd0 3
  have e:m7 Tryz.prog (f0+3) maskT Rows.laid_relyguard_expr_masks (H:=Unit)=cB:=by with_unfolding_all rfl
  rw[e]at this
  exact this
 |g+1=>simp [zH]at hx
-- data of the laws' types
theorem kY{α:Type}{f:α→D}{p:α→Prop}:∀{xs:List D},(∀x∈xs,∃y,x=f y∧p y)→∃l:List α,xs=l.map f∧∀y∈l,p y
 |[],_=>⟨[],rfl,λ y hy=>by cases hy⟩
 |x::xs,h=>by
  obtain⟨y,rfl,hy⟩:=h x (by simp)
  obtain⟨l,rfl,hl⟩:=kY (f:=f) (p:=p) (xs:=xs) λ z hz=>h z (by simp [hz])
  exact⟨y::l,rfl,λ z hz=>by rcases aV.1 hz with rfl|hz;exact hy;exact hl z hz⟩
section
variable {n:Nat} {x:D}
theorem fS{N:Nat}(h:iQ Tryz.prog N n 3 x):∃z,x=iD z∧True:=by
 obtain _|n:=n
 ·exact h.elim
 simp only[iQ,Tryz.underlying3]at h
 obtain⟨z,rfl,hw⟩:=h
 exact⟨z,rfl,trivial⟩
theorem uy{N:Nat}(h:iQ Tryz.prog N n 4 x):∃b,x= .bool b∧True:=by
 obtain _|n:=n
 ·exact h.elim
 simp only[iQ,Tryz.underlying4]at h
 obtain⟨b,rfl⟩:=h
 exact⟨b,rfl,trivial⟩
theorem sP{N:Nat}(h:iQ Tryz.prog N n 9 x):∃b,x= .str b∧b.length≤N:=by
 obtain _|n:=n
 ·exact h.elim
 simp only[iQ,Tryz.underlying9]at h
 exact h
theorem FA{N:Nat}(h:iQ Tryz.prog N n 5 x):∃z:Int,x= .int .u8 z∧0≤z∧z<256:=by
 obtain _|n:=n
 ·exact h.elim
 simp only[iQ,Tryz.underlying5]at h
 obtain⟨z,rfl,hw⟩:=h
 have e1:IntKind.u8.min=0:=by decide
 have e2:IntKind.u8.max=255:=by decide
 simp [Lit.wf,e1,e2]at hw
 exact⟨z,rfl,by omega,by omega⟩
theorem Fd{N:Nat}(h:iQ Tryz.prog N n 28 x):∃l:List Int,x= .sl 1 (l.map ET)∧l.length≤N∧∀z∈l,0≤z∧z<256:=by
 obtain _|n:=n
 ·exact h.elim
 simp only[iQ,Tryz.underlying28,go_sem]at h
 obtain⟨xs,rfl,hl,hx⟩:=h
 obtain⟨l,rfl,hlk⟩:=kY (f:=ET) λ x hx'=>FA (hx x hx')
 exact⟨l,rfl,by simpa using hl,hlk⟩
theorem ux{N:Nat}(h:iQ Tryz.prog N n 31 x):∃l:List Int,x=bu l∧l.length≤N:=by
 obtain _|n:=n
 ·exact h.elim
 simp only[iQ,Tryz.underlying31,go_sem]at h
 obtain⟨xs,rfl,hl,hx⟩:=h
 obtain⟨l,rfl,-⟩:=kY (f:=iD) λ x hx'=>fS (hx x hx')
 exact⟨l,rfl,by simpa using hl⟩
end
theorem Cq(n:Nat):∀{x:D},(iQ Tryz.prog reachBytes n 64 x→∃e:Ex,x=e.d∧e.Ok)∧(iQ Tryz.prog reachBytes n 62 x→∃l:List Ex,x= .sl 4 (l.map Ex.d)∧l.length≤reachBytes∧∀k∈l,k.Ok):=by
 induction n with
 |zero=>exact⟨λ h=>h.elim,λ h=>h.elim⟩
 |succ n ih=>
  intro x
  refine⟨λ h=> ?_,λ h=> ?_⟩
  ·simp only[iQ,Tryz.underlying64]at h
   obtain⟨ds,rfl,hl,hx⟩:=h
   match ds,hl with
   |[a,b,c,d],_=>
    obtain⟨o,rfl,-⟩:=fS (hx 0 _ a rfl rfl)
    obtain⟨w,rfl,-⟩:=fS (hx 1 _ b rfl rfl)
    obtain⟨m,rfl,-⟩:=fS (hx 2 _ c rfl rfl)
    obtain⟨l,rfl,hll,hlk⟩:=ih.2 (hx 3 _ d rfl rfl)
    exact⟨.mk o w m l,by rw[Ex.d_eq];rfl,.mk hll hlk⟩
  ·simp only[iQ,Tryz.underlying62,go_sem]at h
   obtain⟨xs,rfl,hl,hx⟩:=h
   obtain⟨l,rfl,hlk⟩:=kY λ x hx'=>ih.1 (hx x hx')
   exact⟨l,rfl,by simpa using hl,hlk⟩
section
variable {n:Nat} {x:D}
theorem rt(h:iQ Tryz.prog reachBytes n 64 x):∃e:Ex,x=eD e∧e.Ok:=by
 obtain⟨e,rfl,he⟩:=(Cq n).1 h
 exact⟨e,ed e,he⟩
theorem dty_cel(h:iQ Tryz.prog reachBytes n 88 x):∃c,x=fb c∧c.name.length≤reachBytes:=by
 obtain _|n:=n
 ·exact h.elim
 simp only[iQ,Tryz.underlying88]at h
 obtain⟨ds,rfl,hl,hx⟩:=h
 match ds,hl with
 |[a,b,c,d,e,f],_=>
  obtain⟨o,rfl,ho⟩:=sP (hx 0 _ a rfl rfl)
  obtain⟨w,rfl,-⟩:=fS (hx 1 _ b rfl rfl)
  obtain⟨m,rfl,-⟩:=fS (hx 2 _ c rfl rfl)
  obtain⟨m2,rfl,-⟩:=fS (hx 3 _ d rfl rfl)
  obtain⟨m3,rfl,-⟩:=uy (hx 4 _ e rfl rfl)
  obtain⟨m4,rfl,-⟩:=fS (hx 5 _ f rfl rfl)
  exact⟨⟨o,w,m,m2,m3,m4⟩,rfl,ho⟩
theorem dty_cels(h:iQ Tryz.prog reachBytes n 22 x):∃l,x=aY l∧l.length≤reachBytes∧∀c∈l,c.name.length≤reachBytes:=by
 obtain _|n:=n
 ·exact h.elim
 simp only[iQ,Tryz.underlying22,go_sem]at h
 obtain⟨xs,rfl,hl,hx⟩:=h
 obtain⟨l,rfl,hk⟩:=kY λ x hx'=>dty_cel (hx x hx')
 exact⟨l,rfl,by simpa using hl,hk⟩
theorem dty_ctr(h:iQ Tryz.prog reachBytes n 76 x):∃m,x=iH m∧m.name.length≤reachBytes∧m.owner.length≤reachBytes∧m.rely.Ok∧m.guar.Ok∧m.frame.length≤reachBytes:=by
 obtain _|n:=n
 ·exact h.elim
 simp only[iQ,Tryz.underlying76]at h
 obtain⟨ds,rfl,hl,hx⟩:=h
 match ds,hl with
 |[a,b,c,d,e],_=>
  obtain⟨o,rfl,ho⟩:=sP (hx 0 _ a rfl rfl)
  obtain⟨w,rfl,hw⟩:=sP (hx 1 _ b rfl rfl)
  obtain⟨m,rfl,hm⟩:=rt (hx 2 _ c rfl rfl)
  obtain⟨m2,rfl,hm2⟩:=rt (hx 3 _ d rfl rfl)
  obtain⟨m3,rfl,hm3⟩:=ux (hx 4 _ e rfl rfl)
  exact⟨⟨o,w,m,m2,m3⟩,rfl,ho,hw,hm,hm2,hm3⟩
theorem dty_ctrs(h:iQ Tryz.prog reachBytes n 23 x):∃l:List Ctr,x= .sl 11 (l.map iH)∧l.length≤reachBytes∧∀m∈l,m.name.length≤reachBytes∧m.owner.length≤reachBytes∧m.rely.Ok∧m.guar.Ok∧m.frame.length≤reachBytes:=by
 obtain _|n:=n
 ·exact h.elim
 simp only[iQ,Tryz.underlying23,go_sem]at h
 obtain⟨xs,rfl,hl,hx⟩:=h
 obtain⟨l,rfl,hk⟩:=kY λ x hx'=>dty_ctr (hx x hx')
 exact⟨l,rfl,by simpa using hl,hk⟩
theorem dty_lck(h:iQ Tryz.prog reachBytes n 79 x):∃m,x=iZ m∧m.inv.Ok:=by
 obtain _|n:=n
 ·exact h.elim
 simp only[iQ,Tryz.underlying79]at h
 obtain⟨ds,rfl,hl,hx⟩:=h
 match ds,hl with
 |[a,b,c],_=>
  obtain⟨o,rfl,-⟩:=fS (hx 0 _ a rfl rfl)
  obtain⟨w,rfl,hw⟩:=rt (hx 1 _ b rfl rfl)
  obtain⟨m,rfl,-⟩:=fS (hx 2 _ c rfl rfl)
  exact⟨⟨o,w,m⟩,rfl,hw⟩
theorem dty_lcks(h:iQ Tryz.prog reachBytes n 24 x):∃l:List Lck,x= .sl 6 (l.map iZ)∧l.length≤reachBytes∧∀m∈l,m.inv.Ok:=by
 obtain _|n:=n
 ·exact h.elim
 simp only[iQ,Tryz.underlying24,go_sem]at h
 obtain⟨xs,rfl,hl,hx⟩:=h
 obtain⟨l,rfl,hk⟩:=kY λ x hx'=>dty_lck (hx x hx')
 exact⟨l,rfl,by simpa using hl,hk⟩
theorem dty_asg(h:iQ Tryz.prog reachBytes n 95 x):∃m,x=dM m∧m.to.Ok:=by
 obtain _|n:=n
 ·exact h.elim
 simp only[iQ,Tryz.underlying95]at h
 obtain⟨ds,rfl,hl,hx⟩:=h
 match ds,hl with
 |[a,b],_=>
  obtain⟨o,rfl,-⟩:=fS (hx 0 _ a rfl rfl)
  obtain⟨w,rfl,hw⟩:=rt (hx 1 _ b rfl rfl)
  exact⟨⟨o,w⟩,rfl,hw⟩
theorem dty_asgs(h:iQ Tryz.prog reachBytes n 91 x):∃l:List Asg,x= .sl 5 (l.map dM)∧l.length≤reachBytes∧∀m∈l,m.to.Ok:=by
 obtain _|n:=n
 ·exact h.elim
 simp only[iQ,Tryz.underlying91,go_sem]at h
 obtain⟨xs,rfl,hl,hx⟩:=h
 obtain⟨l,rfl,hk⟩:=kY λ x hx'=>dty_asg (hx x hx')
 exact⟨l,rfl,by simpa using hl,hk⟩
theorem dty_stp(h:iQ Tryz.prog reachBytes n 93 x):∃s,x=eP s∧StpSz s:=by
 obtain _|n:=n
 ·exact h.elim
 simp only[iQ,Tryz.underlying93]at h
 obtain⟨ds,rfl,hl,hx⟩:=h
 match ds,hl with
 |[a,b,c,d,e,f,g,i],_=>
  obtain⟨o,rfl,-⟩:=fS (hx 0 _ a rfl rfl)
  obtain⟨w,rfl,-⟩:=fS (hx 1 _ b rfl rfl)
  obtain⟨m,rfl,-⟩:=fS (hx 2 _ c rfl rfl)
  obtain⟨m2,rfl,hm2⟩:=rt (hx 3 _ d rfl rfl)
  obtain⟨m3,rfl,h1,h2⟩:=dty_asgs (hx 4 _ e rfl rfl)
  obtain⟨m4,rfl,-⟩:=uy (hx 5 _ f rfl rfl)
  obtain⟨m5,rfl,-⟩:=fS (hx 6 _ g rfl rfl)
  obtain⟨m6,rfl,-⟩:=fS (hx 7 _ i rfl rfl)
  exact⟨⟨o,w,m,m2,m3,m4,m5,m6⟩,rfl,hm2,h1,h2⟩
theorem dty_stps(h:iQ Tryz.prog reachBytes n 81 x):∃l:List Stp,x= .sl 11 (l.map eP)∧l.length≤reachBytes∧∀m∈l,StpSz m:=by
 obtain _|n:=n
 ·exact h.elim
 simp only[iQ,Tryz.underlying81,go_sem]at h
 obtain⟨xs,rfl,hl,hx⟩:=h
 obtain⟨l,rfl,hk⟩:=kY λ x hx'=>dty_stp (hx x hx')
 exact⟨l,rfl,by simpa using hl,hk⟩
theorem dty_lop(h:iQ Tryz.prog reachBytes n 97 x):∃m,x=pt m∧m.body.length≤reachBytes∧m.var.Ok:=by
 obtain _|n:=n
 ·exact h.elim
 simp only[iQ,Tryz.underlying97]at h
 obtain⟨ds,rfl,hl,hx⟩:=h
 match ds,hl with
 |[a,b,c],_=>
  obtain⟨o,rfl,-⟩:=fS (hx 0 _ a rfl rfl)
  obtain⟨w,rfl,hw⟩:=ux (hx 1 _ b rfl rfl)
  obtain⟨m,rfl,hm⟩:=rt (hx 2 _ c rfl rfl)
  exact⟨⟨o,w,m⟩,rfl,hw,hm⟩
theorem dty_lops(h:iQ Tryz.prog reachBytes n 82 x):∃l:List Lop,x= .sl 6 (l.map pt)∧l.length≤reachBytes∧∀m∈l,m.body.length≤reachBytes∧m.var.Ok:=by
 obtain _|n:=n
 ·exact h.elim
 simp only[iQ,Tryz.underlying82,go_sem]at h
 obtain⟨xs,rfl,hl,hx⟩:=h
 obtain⟨l,rfl,hk⟩:=kY λ x hx'=>dty_lop (hx x hx')
 exact⟨l,rfl,by simpa using hl,hk⟩
theorem dty_thr(h:iQ Tryz.prog reachBytes n 84 x):∃t,x=c8 t∧t.name.length≤reachBytes∧ThrSz t:=by
 obtain _|n:=n
 ·exact h.elim
 simp only[iQ,Tryz.underlying84]at h
 obtain⟨ds,rfl,hl,hx⟩:=h
 match ds,hl with
 |[a,b,c,d,e,f,g],_=>
  obtain⟨o,rfl,ho⟩:=sP (hx 0 _ a rfl rfl)
  obtain⟨w,rfl,-⟩:=fS (hx 1 _ b rfl rfl)
  obtain⟨m,rfl,a1,a2⟩:=(Cq n).2 (hx 2 _ c rfl rfl)
  obtain⟨m2,rfl,a3⟩:=ux (hx 3 _ d rfl rfl)
  obtain⟨m3,rfl,a4,a5⟩:=dty_stps (hx 4 _ e rfl rfl)
  obtain⟨m4,rfl,a6,a7⟩:=dty_lops (hx 5 _ f rfl rfl)
  obtain⟨m5,rfl,-⟩:=uy (hx 6 _ g rfl rfl)
  exact⟨⟨o,w,m,m2,m3,m4,m5⟩,rfl,ho,a1,a2,a3,a4,a5,a6,a7⟩
theorem dty_thrs(h:iQ Tryz.prog reachBytes n 25 x):∃l:List Thr,x= .sl 7 (l.map c8)∧l.length≤reachBytes∧∀t∈l,t.name.length≤reachBytes∧ThrSz t:=by
 obtain _|n:=n
 ·exact h.elim
 simp only[iQ,Tryz.underlying25,go_sem]at h
 obtain⟨xs,rfl,hl,hx⟩:=h
 obtain⟨l,rfl,hk⟩:=kY λ x hx'=>dty_thr (hx x hx')
 exact⟨l,rfl,by simpa using hl,hk⟩
theorem FV(h:iQ Tryz.prog reachBytes n 27 x):∃p,x=bK p∧PrgSz p:=by
 obtain _|n:=n
 ·exact h.elim
 simp only[iQ,Tryz.underlying27]at h
 obtain⟨ds,rfl,hl,hx⟩:=h
 match ds,hl with
 |[a,b,c,d],_=>
  obtain⟨o,rfl,a1,a2⟩:=dty_cels (hx 0 _ a rfl rfl)
  obtain⟨w,rfl,a3,a4⟩:=dty_ctrs (hx 1 _ b rfl rfl)
  obtain⟨m,rfl,a5,a6⟩:=dty_lcks (hx 2 _ c rfl rfl)
  obtain⟨m2,rfl,a7,a8⟩:=dty_thrs (hx 3 _ d rfl rfl)
  exact⟨⟨o,w,m,m2⟩,rfl,a1,a2,a3,a4,a5,a6,a7,a8⟩
end
end
section
open Go Go.Ab
theorem mod2(x:Int)(h:0≤x∧x<256):∃m:Int,x.tmod 2=m - 1∧1≤m∧m≤2:=by
 have h1:=EA 2 h.1
 have h2:=Ev x (show(0:Int)<2 by omega)
 exact⟨x.tmod 2+1,by omega,by omega,by omega⟩
theorem modN(x:Int)(n:Nat)(h:0≤x)(hn:0<n):∃t:Nat,x.tmod (n:Int)=(t:Int)∧t<n:=by
 have h1:=EA (n:Int) h
 have h2:=Ev x (show(0:Int)<(n:Int)by omega)
 exact⟨(x.tmod (n:Int)).toNat,by omega,by omega⟩
abbrev EL(c:Cfg):Option Ob:=some (.cells [.d (bu c.mem),.d (bu c.pos),.d (.sl 1 (c.buf.map cu))])
def GA:Option (List Int)→D
 |none=> .nils
 |some w=>bu w
def VwIs(O:List Cho)(v:Option (List Int))(w:List Int):Prop:=(O≠[]∧v=none)∨(O=[]∧v=some w)
structure LsOk (p:Prg) (m:Int) (t n:Nat) (c:Cfg) (v:Option (List Int)) (O W X:List Cho):Prop where
 len:X.length≤39
 mem:∀x∈X,x∈fY p m c∧DrI p m t (n+1) (fV p m c x) v
 nil:X=[]→O=[]∧W=[]
theorem Gd {G:Glob} (hG:G.g 0=some cB) (hpan:∀a s,¬G.pan a s) (p:Prg) (hz:PrgSz p) (md th:Int) (hmd:0≤md∧md<256) (hth:0≤th∧th<256) (picks order:List Int) (hpk:picks.length≤reachBytes) (hp0:∀x∈picks,0≤x∧x<256) (hok:order.length≤reachBytes) (ho0:∀x∈order,0≤x∧x<256)
  (Z:St) (R:A→St→Prop) (h:R (db true) Z):AC Tryz.prog G 4 [.d (bK p),.d (.int .u8 md),.d (.sl 1 (picks.map ET)),.d (.int .u8 th),.d (.sl 1 (order.map ET))] Z R:=by
 have up:=yV hG hpan
 have sm:=FQ p hz
 have wm:IntKind.i64.wrap md=md:=cq _ (by omega) (by omega)
 have z2:((2:Int)==0)=false:=rfl
 obtain⟨m,hm,hm2⟩:=mod2 md hmd
 have wm1:IntKind.i64.wrap (m - 1)=m - 1:=cq _ (by omega) (by omega)
 have wm2:IntKind.i64.wrap (1+(m - 1))=m:=by rw[cq _ (by omega) (by omega)];omega
 unfold bK at*
 refine bD [5,6,8,11,23,25,28,29,32,33,35,36,38,39] a9 Tryz.func4 rfl Tryz.ntmps4 (by simp only[go_sem]) λ hbd=> ?_
 simp only[ae,aj,Nat.reduceAdd,Nat.reduceSub,af,ag,ah,ak]
 try simp only[go_sem]
 refine bH (up _ _ ?_)
 simp only[go_sem,wm,wm1,wm2,z2,hm]
 refine⟨by decide,?_⟩
 refine bc (λ fr st=>p.Small∧p.Ok∧0<p.threads.length∧fr=%[.o,.o,.d (.sl 1 (picks.map ET)),.d (.int .u8 th),.d (.sl 1 (order.map ET)),.ref Z.length 0,.o,.o,.o,.o,db false,db true,di m|D7 (D7 (D6 (D5 [.o,.o,.o,.o])))]∧st=Z++[bN p]) ?_ ?_
 ·try simp only[go_sem]
  refine bH (sm _ _ _ λ b hb=> ?_)
  cases b with
  |false=>
   try simp only[go_sem]
   refine gO (.bool true) ⟨λ z=>Bool.noConfusion z,?_⟩
   try simp only[go_sem]
   exact dq hbd rfl h
  |true=>
   obtain⟨h1,h2⟩:=hb rfl
   have ok:=ok_r p h1 hz.nm
   unfold bK at ok
   try simp only[go_sem]
   refine gO (.bool true) ⟨λ _=>⟨rfl,bH (ok _ _ _ λ b hb=> ?_)⟩,?_⟩
   ·have:b=true:=hb.2 h2
    simp only[this,go_sem]
   rcases cv p.threads.length with h0|h0
   ·have c0:((p.threads.length:Int)==0)=true:=by rw[h0];rfl
    simp only[go_sem,c0,ac]
    exact dq hbd rfl h
   ·have c0:((p.threads.length:Int)==0)=false:=by rw[ck];omega
    simp only[go_sem,c0,ac]
    exact Wk.mask [2,3,4,5,10,11,12] ⟨h1,h2,h0,rfl,rfl⟩
 rintro fr st ⟨h1,h2,h0,rfl,rfl⟩
 have hp:Good p:=⟨h1,h2,hz.nm⟩
 have hmm:0≤m∧m≤2:=by omega
 have rc:=Fl hG hpan p hp m hmm 600 (by omega)
 have wk:=Gi p hp m hmm picks hpk hp0
 have rn:=Fk hG hpan p hp m hmm
 have en:=λ c (hf:Fits p m c)=>Gh hG hpan p hp m hmm c hf
 have nx:=λ c (hf:Fits p m c) x (hx:x∈fY p m c)=>nextU hG hpan p hp m hmm c hf x hx
 obtain⟨t,ht,htn⟩:=modN th p.threads.length hth.1 h0
 have vw:=λ c (hf:Fits p m c)=>ViewU hG p hp m c hf t htn
 unfold bK at rc wk rn en nx vw
 unfold bX at en nx vw
 refine bc (λ fr st=>∃L,fK p m (bS p) L∧L.length≤40∧fr=%[.o,.o,.o,.d (.int .u8 th),.d (.sl 1 (order.map ET)),.ref Z.length 0,.o,.o,.o,.o,db false,db true,di m,.d (.sl 3 ((iS p m (bS p) L).map bX)),db true|D7 (D7 (D6 (D5 [.o,.o])))]∧st=Z++[bN p]) ?_ ?_
 ·try simp only[go_sem]
  refine bb (.tk 4 1<| .alt 0 (.tk 7 5<| .done)<| .alt 5 (.take 0<| .tk 6 6<| .done)<| .stop) (by kernel_rfl) ?_
  try simp only[go_sem]
  refine⟨?_,?_⟩
  all_goals (
   refine bH (wk _ _ _ λ L hL hLl=> ?_)
   try simp only[go_sem]
   refine bH (rn L hL (by omega) _ _ ?_)
   try simp only[go_sem]
   exact Wk.mask [3,4,5,10,11,12,13,14] ⟨L,hL,hLl,rfl,rfl⟩)
 rintro fr st ⟨L,hL,hL40,rfl,rfl⟩
 have hYl:=kV (p:=p) (m:=m) L (bS p)
 have hYf:=nD hp.ok (jl hp.ok m) hL
 have hYe:(iS p m (bS p) L).getD L.length jm=jG p m (bS p) L:=by
  have h1:=nX (p:=p) (m:=m) (l:=L) (c:=bS p) (i:=L.length) (aE _)
  rw[aK (aE _)]at h1
  exact jA h1
 have hef:Fits p m (jG p m (bS p) L):=zK hp.ok (jl hp.ok m) hL
 obtain⟨Y,hY⟩:∃Y,iS p m (bS p) L=Y:=⟨_,rfl⟩
 rw[hY]at hYl hYe
 rw[hY]
 obtain⟨c,hc⟩:∃c,jG p m (bS p) L=c:=⟨_,rfl⟩
 have hdr:DrI p m t 0 c none:=⟨⟨L,hL,hc⟩,by have:=total_le hp.sm hef;rw[hc]at this;omega,λ w hw=>by cases hw⟩
 rw[hc]at hYe hef
 refine bc (λ fr st=>fr=%[.o,.o,.o,.d (.int .u8 th),.d (.sl 1 (order.map ET)),.ref Z.length 0,.o,.o,.o,.o,db false,db true,di m,.d (.sl 3 (Y.map bX))|D7 (D7 (D6 (D5 [.o,.o,.o])))]∧st=Z++[bN p]) ?_ ?_
 ·try simp only[go_sem]
  exact Wk.mask [3,4,5,10,11,12,13] ⟨rfl,rfl⟩
 rintro fr st ⟨rfl,rfl⟩
 have wl:IntKind.i64.wrap ((Y.length:Int) - 1)=(L.length:Int):=by rw[hYl,cq _ (by omega) (by omega)];omega
 have wt:IntKind.i64.wrap th=th:=cq _ (by omega) (by omega)
 have wt2:IntKind.i64.wrap (t:Int)=(t:Int):=by have:=hp.sm.nthr;exact cq _ (by omega) (by omega)
 have Eb:((p.threads.length:Int)==0)=false:=by rw[ck];omega
 have ex:=pE (l:=Y) (j:=L.length) (by omega)
 rw[hYe]at ex
 have kc:bX c= .agg [bu c.mem,bu c.pos,.sl 1 (c.buf.map cu)]:=rfl
 rw[kc]at ex
 simp only[go_sem,wl,ex,wt,wt2,Eb,ht,ac,ad]
 refine⟨⟨by omega,by omega⟩,by omega,?_⟩
 refine bc (λ fr st=>fr=%[.o,.o,.o,.o,.d (.sl 1 (order.map ET)),.ref Z.length 0,.o,.o,.o,.o,db false,db true,di m,.o,.o,.ref (Z.length+1) 0,dn t,.d .nils|D7 (D7 (D6 (D4 [.o,.o,.o,.o,.o,.o,.o])))]∧st=Z++[bN p,EL c]) ?_ ?_
 ·try simp only[go_sem]
  exact Wk.mask [4,5,10,11,12,15,16,17] ⟨rfl,rfl⟩
 rintro fr st ⟨rfl,rfl⟩
 refine bc (λ fr st=>∃n c' v,DrI p m t n c' v∧Fits p m c'∧fO c'=true∧c'.mem=cT c' t∧Fits p 0 c'∧fr=%[.o,.o,.o,.o,.o,.ref Z.length 0,.o,.o,.o,.o,db false,db true,di m,.o,.o,.ref (Z.length+1) 0,.o,.d (bu c'.mem)|D7 (D7 (D6 (D4 [.o,.o,.o,.o,.o,.o,.o])))]∧st=Z++[bN p,EL c']) ?_ ?_
 ·try simp only[go_sem]
  refine aS (λ k fr st=>∃n c' v,k=24 - n∧DrI p m t n c' v∧Fits p m c'∧fr=%[.o,.o,.o,.o,.d (.sl 1 (order.map ET)),.ref Z.length 0,.o,.o,.o,.o,db false,db true,di m,.o,.o,.ref (Z.length+1) 0,dn t,.d (GA v),dn n|D7 (D7 (D6 (D4 [.o,.o,.o,.o,.o,.o])))]∧st=Z++[bN p,EL c']) 24 _ (Wk.mask [4,5,10,11,12,15,16,17,18] ⟨0,c,none,by omega,hdr,hef,rfl,rfl⟩) ?_
  rintro k fr st ⟨n,c',v,hk,hd,hf,rfl,rfl⟩
  clear ex kc hYe hdr hef hc
  have hn9:=hd.tot
  have hdn:decide ((n:Int)<24)=true:=by simp;omega
  have wn:=bC n (by omega)
  have enc:=en c' hf
  have htot:=qy hp hf
  simp only[go_sem,hdn]
  refine bc (λ fr st=>fr=%[.o,.o,.o,.o,.d (.sl 1 (order.map ET)),.ref Z.length 0,.o,.o,.o,.o,db false,db true,di m,.o,.o,.ref (Z.length+1) 0,dn t,.d (GA v),dn n,.d (.sl 3 ((E3 p m c' t).map c7)),.d (.sl 3 ((y9 p m c' t).map c7))|D7 (D7 (D6 (D4 [.o,.o,.o,.o])))]∧st=Z++[bN p,EL c']) ?_ ?_
  ·try simp only[go_sem]
   refine bH (enc _ _ ?_)
   obtain⟨C,hC⟩:∃C,fY p m c'=C:=⟨_,rfl⟩
   have ho:E3 p m c' t=C.filter λ x=>x.step== -1&& !(x.thread==(t:Int)):=by rw[←hC];rfl
   have hw:y9 p m c' t=C.filter λ x=>x.step== -1&&x.thread==(t:Int):=by rw[←hC];rfl
   rw[hC]at htot ⊢
   rw[ho,hw]
   simp only[go_sem,ac]
   refine aS (λ k fr st=>∃i:Nat,i≤C.length∧k=C.length - i∧fr=%[.o,.o,.o,.o,.d (.sl 1 (order.map ET)),.ref Z.length 0,.o,.o,.o,.o,db false,db true,di m,.o,.o,.ref (Z.length+1) 0,dn t,.d (GA v),dn n,.rs (Z.length+2) 3 0 ((C.take i).filter λ x=>x.step== -1&& !(x.thread==(t:Int))).length (some 37),.rs (Z.length+3) 3 0 ((C.take i).filter λ x=>x.step== -1&&x.thread==(t:Int)).length (some 37)|D6 (D5 (D4 %[.o,.o,.o,.d (.sl 3 (C.map c7)),dn C.length,dn i|D7 (D6 (D4 [.o,.o,.o,.o,.o,.o]))]))]∧st=Z++[bN p,EL c',jE ((C.take i).filter λ x=>x.step== -1&& !(x.thread==(t:Int))),jE ((C.take i).filter λ x=>x.step== -1&&x.thread==(t:Int))]) C.length _ ?_ ?_
   ·refine Wk.via ((bw.mask [4,5,10,11,12,15,16,17,18,19,20,80,81,82]).trans (bw.empty 19 3 (some 37) rfl)) ?_
    simp only[go_sem,aF,ae,aj,Nat.reduceAdd,aU,ah,ak,ff,fQ]
    refine Wk.via (bw.empty 20 3 (some 37) rfl) ?_
    simp only[go_sem,aF,ae,aj,Nat.reduceAdd,aU,ah,ak,ff,fQ]
    exact Wk.mask [4,5,10,11,12,15,16,17,18,19,20,80,81,82] ⟨0,by omega,by omega,rfl,rfl⟩
   rintro k fr st ⟨i,hi,hk2,rfl,rfl⟩
   rcases aC i C.length with hlt|hge
   ·have hd2:decide ((i:Int)<(C.length:Int))=true:=by simp;omega
    have w2:=bC i (by omega)
    have e1:=uF hlt
    have hsn:=bG fE hlt
    have hF:=fh ((C.take i).filter λ x=>x.step== -1&& !(x.thread==(t:Int)))
    have hW:=fh ((C.take i).filter λ x=>x.step== -1&&x.thread==(t:Int))
    have hFl:((C.take i).filter λ x=>x.step== -1&& !(x.thread==(t:Int))).length≤39:=Es (ez _ _) (by rw[aP];omega)
    have hWl:((C.take i).filter λ x=>x.step== -1&&x.thread==(t:Int)).length≤39:=Es (ez _ _) (by rw[aP];omega)
    have hsF:=congrArg (List.filter λ x=>x.step== -1&& !(x.thread==(t:Int))) hsn
    have hsW:=congrArg (List.filter λ x=>x.step== -1&&x.thread==(t:Int)) hsn
    rw[du]at hsF hsW
    generalize C.getD i fE=x at e1 hsF hsW
    generalize hFe:((C.take i).filter λ x=>x.step== -1&& !(x.thread==(t:Int)))=F at hF hFl hsF
    generalize hWe:((C.take i).filter λ x=>x.step== -1&&x.thread==(t:Int))=W at hW hWl hsW
    have kx:c7 x= .agg [iD x.thread,iD x.step,iD x.cell]:=rfl
    rw[kx]at e1
    cases hs:(x.step== -1)with
    |false=>
     simp only[List.filter_cons,List.filter_nil,hs,Ew,eG,if_false,bt]at hsF hsW
     simp only[go_sem,hd2,e1,hs,w2,ac,ad]
     exact⟨⟨by omega,by omega⟩,Wk.keep [4,5,10,11,12,15,16,17,18,19,20,80,81,82] [0,1,2,3] (by decide) (aE _) hbd ⟨C.length - (i+1),by omega,i+1,by omega,rfl,by rw[hsF,hsW];simp only[go_sem],by rw[hsF,hsW];simp only[go_sem]⟩⟩
    |true=>
     cases ht2:(x.thread==(t:Int))with
     |true=>
      simp only[List.filter_cons,List.filter_nil,hs,ht2,ca,g9,eG,if_false,if_true,bt]at hsF hsW
      simp only[go_sem,hd2,e1,hs,ht2,w2,hW,fC,ac,ad]
      refine⟨⟨by omega,by omega⟩,⟨by simp only[maxLen];omega,by omega⟩,Wk.keep [4,5,10,11,12,15,16,17,18,19,20,80,81,82] [0,1,2,6] (by decide) (aE _) hbd ⟨C.length - (i+1),by omega,i+1,by omega,rfl,by rw[hsF,hsW];simp only[go_sem,aF,ae,aj],?_⟩⟩
      rw[hsF,hsW,jE,jE,lc]
      simp only[go_sem,dj,cG]
     |false=>
      simp only[List.filter_cons,List.filter_nil,hs,ht2,ca,eC,gL,dJ,eG,if_false,if_true,bt]at hsF hsW
      simp only[go_sem,hd2,e1,hs,ht2,w2,hF,fC,ac,ad]
      refine⟨⟨by omega,by omega⟩,⟨by simp only[maxLen];omega,by omega⟩,Wk.keep [4,5,10,11,12,15,16,17,18,19,20,80,81,82] [0,1,6,3] (by decide) (aE _) hbd ⟨C.length - (i+1),by omega,i+1,by omega,rfl,by rw[hsF,hsW];simp only[go_sem,aF,ae,aj],?_⟩⟩
      rw[hsF,hsW,jE,jE,lc]
      simp only[go_sem,dj,cG]
   ·have hd2:decide ((i:Int)<(C.length:Int))=false:=by simp;omega
    rw[aK hge]
    simp only[go_sem,hd2]
    refine Wk.frz 2 3 0 ((C.filter λ x=>x.step== -1&& !(x.thread==(t:Int))).map c7) rfl (kZ _) ?_
    simp only[go_sem,ac,and_self,if_true,false_and,and_false,if_false]
    refine Wk.frz 3 3 0 ((C.filter λ x=>x.step== -1&&x.thread==(t:Int)).map c7) rfl (kZ _) ?_
    simp only[go_sem,ac,and_self,if_true,false_and,and_false,if_false]
    exact Wk.keep [4,5,10,11,12,15,16,17,18,19,20] [0,1] (by decide) (aE _) hbd ⟨by simp only[go_sem],by simp only[go_sem]⟩
  rintro fr st ⟨rfl,rfl⟩
  have hOm:∀x∈E3 p m c' t,x∈fY p m c':=λ x hx=>(eZ.1 hx).1
  have hWm:∀x∈y9 p m c' t,x∈fY p m c':=λ x hx=>(eZ.1 hx).1
  have hOl:(E3 p m c' t).length≤39:=Es (ez _ _) htot
  have hWl:(y9 p m c' t).length≤39:=Es (ez _ _) htot
  have hOs:=λ x (hx:x∈E3 p m c' t)=>dr_oth hf hd hx
  have hWs:=λ (ho:E3 p m c' t=[]) x (hx:x∈y9 p m c' t)=>dr_own hf hd ho hx
  have hEnd:=λ (ho:E3 p m c' t=[]) (hw:y9 p m c' t=[])=>dr_end hf htn ho hw
  have hview:=hd.view
  have hvl:=(wT hf t).len
  obtain⟨O,hO⟩:∃O,E3 p m c' t=O:=⟨_,rfl⟩
  obtain⟨W,hW⟩:∃W,y9 p m c' t=W:=⟨_,rfl⟩
  rw[hO]at hOm hOl hOs hWs hEnd hview
  rw[hW]at hWm hWl hWs hEnd
  rw[hO,hW]
  have vwc:=vw c' hf
  refine bc (λ fr st=>∃v1,VwIs O v1 (cT c' t)∧fr=%[.o,.o,.o,.o,.d (.sl 1 (order.map ET)),.ref Z.length 0,.o,.o,.o,.o,db false,db true,di m,.o,.o,.ref (Z.length+1) 0,dn t,.d (GA v1),dn n,.d (.sl 3 (O.map c7)),.d (.sl 3 (W.map c7))|D7 (D7 (D6 (D4 [.o,.o,.o,.o])))]∧st=Z++[bN p,EL c']) ?_ ?_
  ·cases O with
   |nil=>
    have c0:(((0:Nat):Int)==0)=true:=rfl
    cases v with
    |none=>
     have hv0:GA none= .nils:=rfl
     simp only[go_sem,c0,hv0,ac]
     refine bH (vwc _ _ ?_)
     try simp only[go_sem]
     exact Wk.mask [4,5,10,11,12,15,16,17,18,19,20] ⟨some (cT c' t),.inr ⟨rfl,rfl⟩,rfl,rfl⟩
    |some w=>
     obtain⟨hw1,_,hw3⟩:=hview w rfl
     have hv0:GA (some w)= .sl 1 (w.map iD):=rfl
     have hne:w.map iD≠[]:=λ z=>by
      have:=congrArg List.length z
      rw[ac,aj,hw1]at this
      omega
     simp only[go_sem,c0,hv0,F8 _ _ hne,ac]
     exact Wk.mask [4,5,10,11,12,15,16,17,18,19,20] ⟨some (cT c' t),.inr ⟨rfl,rfl⟩,by rw[←hw1];rfl,rfl⟩
   |cons x r=>
    obtain rfl:v=none:=(hOs x (by simp)).2
    have hv0:GA none= .nils:=rfl
    have c0:(((x::r).length:Int)==0)=false:=by rw[ck,ae];omega
    have c1:(((r.length+1:Nat):Int)==0)=false:=c0
    simp only[go_sem,c0,c1,hv0,ac,ae]
    exact Wk.mask [4,5,10,11,12,15,16,17,18,19,20] ⟨none,.inl ⟨by simp,rfl⟩,rfl,rfl⟩
  rintro fr st ⟨v1,hv1,rfl,rfl⟩
  try simp only[go_sem]
  refine bc (λ fr st=>∃X:List Cho,LsOk p m t n c' v1 O W X∧fr=%[.o,.o,.o,.o,.d (.sl 1 (order.map ET)),.ref Z.length 0,.o,.o,.o,.o,db false,db true,di m,.o,.o,.ref (Z.length+1) 0,dn t,.d (GA v1),dn n,.o,.o,.o,.o,.d (.sl 3 (X.map c7))|D7 (D7 (D6 (D4 [.o])))]∧st=Z++[bN p,EL c']) ?_ ?_
  ·cases O with
   |nil=>
    have c0:(((0:Nat):Int)==0)=true:=rfl
    have hX:∀x∈W,x∈fY p m c'∧DrI p m t (n+1) (fV p m c' x) v1:=λ x hx=>⟨hWm x hx,by
     rcases hv1 with⟨z,_⟩|⟨_,z⟩
     ·exact absurd rfl z
     ·rw[z];exact hWs rfl x hx⟩
    have hL:LsOk p m t n c' v1 [] W W:=⟨hWl,hX,λ z=>⟨rfl,z⟩⟩
    simp only[go_sem,c0,ac]
    exact Wk.mask [4,5,10,11,12,15,16,17,18,23] ⟨W,hL,rfl,rfl⟩
   |cons x r=>
    have c1:(((r.length+1:Nat):Int)==0)=false:=by rw[ck];omega
    have hX:∀y∈x::r,y∈fY p m c'∧DrI p m t (n+1) (fV p m c' y) v1:=λ y hy=>⟨hOm y hy,by
     rcases hv1 with⟨_,z⟩|⟨z,_⟩
     ·rw[z];exact(hOs y hy).1
     ·cases z⟩
    have hL:LsOk p m t n c' v1 (x::r) W (x::r):=⟨hOl,hX,λ z=>by cases z⟩
    simp only[go_sem,c1,ac,ae]
    exact Wk.mask [4,5,10,11,12,15,16,17,18,23] ⟨x::r,hL,rfl,rfl⟩
  rintro fr st ⟨X,hL,rfl,rfl⟩
  have hXl:=hL.len
  rcases cv X.length with hx0|hx0
  ·have hXn:=cM.1 hx0
   obtain⟨ho,hw⟩:=hL.nil hXn
   have he:=hEnd ho hw
   have hvv:GA v1=bu c'.mem:=by
    rcases hv1 with⟨z,_⟩|⟨_,z⟩
    ·exact absurd ho z
    ·rw[z,he.2.1];rfl
   have c0:((X.length:Int)==0)=true:=by rw[hx0];rfl
   refine bc (λ _ _=>False) ?_ (λ _ _ h=>h.elim)
   rw[hvv]
   simp only[go_sem,c0,ac]
   exact Wk.mask [5,10,11,12,15,17] ⟨n,c',v,hd,hf,he.1,he.2.1,he.2.2,rfl,rfl⟩
  have c0:((X.length:Int)==0)=false:=by rw[ck];omega
  refine bc (λ fr st=>fr=%[.o,.o,.o,.o,.d (.sl 1 (order.map ET)),.ref Z.length 0,.o,.o,.o,.o,db false,db true,di m,.o,.o,.ref (Z.length+1) 0,dn t,.d (GA v1),dn n,.o,.o,.o,.o,.d (.sl 3 (X.map c7))|D7 (D7 (D6 (D4 [.o])))]∧st=Z++[bN p,EL c']) ?_ ?_
  ·simp only[go_sem,c0,ac]
   exact Wk.mask [4,5,10,11,12,15,16,17,18,23] ⟨rfl,rfl⟩
  rintro fr st ⟨rfl,rfl⟩
  try simp only[go_sem]
  refine bc (λ fr st=>∃j:Nat,j<X.length∧fr=%[.o,.o,.o,.o,.d (.sl 1 (order.map ET)),.ref Z.length 0,.o,.o,.o,.o,db false,db true,di m,.o,.o,.ref (Z.length+1) 0,dn t,.d (GA v1),dn n,.o,.o,.o,.o,.d (.sl 3 (X.map c7)),dn j|D7 (D7 (D6 (D4 [])))]∧st=Z++[bN p,EL c']) ?_ ?_
  ·rcases aC n order.length with hlt|hge
   ·have hd2:decide ((n:Int)<(order.length:Int))=true:=by simp;omega
    have e1:=Gn (l:=order) hlt
    have hx:=ho0 _ (bv 0 hlt)
    generalize order.getD n 0=x at e1 hx
    have wx:IntKind.i64.wrap x=x:=cq _ (by omega) (by omega)
    obtain⟨j,hj,hjX⟩:=modN x X.length hx.1 hx0
    have Ee:IntKind.i64.wrap (j:Int)=(j:Int):=cq _ (by omega) (by omega)
    simp only[go_sem,hd2,e1,ET,wx,c0,hj,Ee,ac,ad]
    exact⟨⟨by omega,by omega⟩,by omega,Wk.mask [4,5,10,11,12,15,16,17,18,23,24] ⟨j,hjX,rfl,rfl⟩⟩
   ·have hd2:decide ((n:Int)<(order.length:Int))=false:=by simp;omega
    simp only[go_sem,hd2,ac,ad]
    exact Wk.mask [4,5,10,11,12,15,16,17,18,23,24] ⟨0,hx0,rfl,rfl⟩
  rintro fr st ⟨j,hj,rfl,rfl⟩
  have ex:=uF hj
  obtain⟨hxc,hxd⟩:=hL.mem _ (bv fE hj)
  generalize X.getD j fE=x at ex hxc hxd
  have hfn:=rp hp.ok hf hxc
  have nxx:=nx c' hf x hxc
  generalize fV p m c' x=c2 at hxd hfn nxx
  have kx:c7 x= .agg [iD x.thread,iD x.step,iD x.cell]:=rfl
  rw[kx]at ex nxx
  refine bc (λ fr st=>fr=%[.o,.o,.o,.o,.d (.sl 1 (order.map ET)),.ref Z.length 0,.o,.o,.o,.o,db false,db true,di m,.o,.o,.ref (Z.length+1) 0,dn t,.d (GA v1),dn n,.o,.o,.o,.o,.o,.o,.ref (Z.length+2) 0,di 0|D7 (D7 (D6 [.o,.o,.o,.o,.o,.o]))]∧st=Z++[bN p,EL c',EL c2]) ?_ ?_
  ·try simp only[go_sem]
   refine bb (.tk 7 0<| .alt 7 (.tk 6 8<| .done)<| .alt 11 (.tk 4 7<| .tk 2 12<| .done)<| .stop) (by kernel_rfl) ?_
   simp only[go_sem,ex,ac,ad]
   refine⟨⟨by omega,by omega⟩,?_,?_⟩
   ·refine bH (nxx _ _ ?_)
    try simp only[go_sem]
    exact Wk.mask [4,5,10,11,12,15,16,17,18,25,26] ⟨rfl,rfl⟩
   ·refine bH (nxx _ _ ?_)
    try simp only[go_sem]
    exact Wk.mask [4,5,10,11,12,15,16,17,18,25,26] ⟨rfl,rfl⟩
  rintro fr st ⟨rfl,rfl⟩
  have n0:((0:Int)!=0)=false:=rfl
  refine bc (λ fr st=>fr=%[.o,.o,.o,.o,.d (.sl 1 (order.map ET)),.ref Z.length 0,.o,.o,.o,.o,db false,db true,di m,.o,.o,.ref (Z.length+1) 0,dn t,.d (GA v1),dn n,.o,.o,.o,.o,.o,.o,.ref (Z.length+2) 0|D7 (D7 (D6 [.o,.o,.o,.o,.o,.o,.o]))]∧st=Z++[bN p,EL c',EL c2]) ?_ ?_
  ·simp only[go_sem,n0]
   exact Wk.mask [4,5,10,11,12,15,16,17,18,25] ⟨rfl,rfl⟩
  rintro fr st ⟨rfl,rfl⟩
  simp only[go_sem,wn]
  exact Wk.keep [4,5,10,11,12,15,16,17,18] [0,1] (by decide) (aE _) hbd ⟨24 - (n+1),by omega,n+1,c2,v1,rfl,hxd,hfn,by simp only[go_sem],by simp only[go_sem]⟩
 rintro fr st ⟨n,c',v,hd,hf,hq,hm',hf0,rfl,rfl⟩
 have hcs:=hf.sz' hp
 obtain⟨s1,s2,s3,s4⟩:=hf.sz hp
 have qd:=tI c' (by omega)
 have ii:=qj c'.mem c'.mem (by simp only[reachBytes];omega) (by simp only[reachBytes];omega)
 have s12:=FH c' (by omega) (by omega) (by omega) λ l hl=>⟨by have:=(s4 l hl).1;omega,λ e he=>by have:=(s4 l hl).2 e he;omega⟩
 have ft:=Bh p hp 0 (by omega) c' hf0
 rw[hq]at qd
 rw[beq_self_eq_true]at ii
 have kc2:bX c'= .agg [bu c'.mem,bu c'.pos,.sl 1 (c'.buf.map cu)]:=rfl
 unfold bK at ft
 rw[kc2]at qd s12 ft
 refine bc (λ fr st=>fr=%[.o,.o,.o,.o,.o,.ref Z.length 0,.o,.o,.o,.o,db false,db true,di m,.o,.o,.ref (Z.length+1) 0|D7 (D7 (D6 (D5 [.o])))]∧st=Z++[bN p,EL c']) ?_ ?_
 ·try simp only[go_sem]
  refine bH (qd _ _ _ ?_)
  try simp only[go_sem]
  refine gO (.bool true) ⟨λ _=>⟨rfl,bH (ii _ _ _ ?_)⟩,?_⟩
  ·simp only[go_sem]
  try simp only[go_sem]
  refine gO (.bool true) ⟨λ _=>⟨rfl,bH (s12 _ _ _ ?_)⟩,?_⟩
  ·simp only[go_sem]
  try simp only[go_sem]
  refine gO (.bool true) ⟨λ _=>⟨rfl,bH (ft _ _ _ ?_)⟩,?_⟩
  ·simp only[go_sem]
  try simp only[go_sem]
  exact Wk.mask [5,10,11,12,15] ⟨rfl,rfl⟩
 rintro fr st ⟨rfl,rfl⟩
 have e2:((2:Int)==2)=true:=rfl
 have e02:((0:Int)==2)=false:=rfl
 have e00:((0:Int)==0)=true:=rfl
 refine bc (λ fr st=>(fr=D4 %[.o,.o,db false,db true,.o,.o,.o,.ref (Z.length+1) 0|D4 %[.o,.o,.o,.d .nils,di 2|D7 (D7 (D6 [.o,.o,.o,.o]))]]∨∃σ:List Cfg,σ.length≤600∧c'∈σ∧(∀d∈σ,Fits p m d)∧fr=D4 %[.o,.o,db false,db true,.o,.o,.o,.ref (Z.length+1) 0|D4 %[.o,.o,.o,.d (.sl 3 (σ.map bX)),di 0|D7 (D7 (D6 [.o,.o,.o,.o]))]])∧st=Z++[bN p,EL c']) ?_ ?_
 ·try simp only[go_sem]
  refine bH (rc _ _ (λ S hS hl=> ?_) (λ S hS hb hle=> ?_))
  ·try simp only[go_sem]
   exact Wk.mask [10,11,15,27,28] ⟨.inl rfl,rfl⟩
  ·have hin:=dr_met hp.ok hd hS hb
   have hSf:∀d∈S.V.map Vis.cfg,Fits p m d:=λ d hd=>by
    obtain⟨v,hv,rfl⟩:=aI.1 hd
    exact(fx hp.ok hS).fits v hv
   have hlen:(S.V.map Vis.cfg).length≤600:=by rw[ac];exact hle
   generalize S.V.map Vis.cfg=σ at hin hSf hlen
   try simp only[go_sem]
   exact Wk.mask [10,11,15,27,28] ⟨.inr ⟨σ,hlen,hin,hSf,rfl⟩,rfl⟩
 rintro fr st ⟨rfl|⟨σ,hZl,hZin,hZf,rfl⟩,rfl⟩
 ·simp only[go_sem,e2,e00,e02]
  refine gO (.bool true) ⟨λ z=>Bool.noConfusion z,?_⟩
  simp only[go_sem,e2,e00,e02]
  exact dq hbd rfl h
 ·have ri:=r7In_r σ (by omega) (λ d hd=>(hZf d hd).sz' hp) c' hcs
  rw[dU hZin,kc2]at ri
  simp only[go_sem,e2,e00,e02]
  refine gO (.bool true) ⟨λ _=>⟨rfl,bH (ri _ _ _ ?_)⟩,?_⟩
  ·simp only[go_sem]
  simp only[go_sem,e2,e00,e02]
  exact dq hbd rfl h
end
section
open Go Go.Ab Go.RowKit Go.ChangeShapes Go.WideShapes
theorem EX(os:Os)(started:os.Started)(H:Type)(enc:TypeId×Value→H):
  ReturnsInHanded {} Tryz.checked os 4 .any (λ w args=>(Rows.topDrainedRunsSpec.pre enc Tryz.prog Tryz.f4 [] false w args∧laidMetH Tryz.prog zz w)∧sizedMet enc Tryz.prog Tryz.f4 (OpenSpec.ofChange Rows.topDrainedRunsSpec) false w args)
   (Rows.topDrainedRunsSpec.post enc Tryz.prog Tryz.f4 false true false false):=by
 refine returnsInHanded_of_change_and (C:=Tryz.checked) (X:=λ w _=>laidMetH Tryz.prog zz w) (λ _ _ _ hh h=>h.of_heap hh) own started (by kernel_rfl) Tryz.func4
  (ChangeSpec.witness_shaped (enc:=enc) (C:=Tryz.checked) (os:=os) (X:=λ w _=>laidMetH Tryz.prog zz w) false (World.doorLaid Tryz.prog 400 os) #[.agg #[.slice none 0 0,.slice none 0 0,.slice none 0 0,.slice none 0 0],.int .u8 0,.slice none 0 0,.int .u8 0,.slice none 0 0] 8 rfl (World.shaped_of_RefB (by kernel_rfl) (by kernel_rfl)) (by kernel_rfl) (by kernel_rfl) (by kernel_rfl) (FB os _)) ?_
 intro W base args ds gs before hval hW _ hz hL _
 refine BA (G:=zH) (S:=[3,4,5,9,22,23,24,25,27,28,31,61,62,64,76,79,81,82,84,88,91,93,95,97]) (tb:=4) hW hval (by kernel_rfl) (by rw[Tryz.params4];kernel_rfl) (by kernel_rfl) (by rw[Tryz.params4];kernel_rfl) rfl (by kernel_rfl) Tryz.underlying4 (λ ds hds=> ?_) (Dt hL) hz (λ xs hx=> ?_)
 ·rw[Tryz.params4]at hds
  match ds,hds with
  |[d0,d1,d2,d3,d4],_=>rfl
 ·skip
  rw[Tryz.params4]at hx
  generalize args.toList=vs at hx
  cases hx with
  |cons h0 _ hx=>
   obtain⟨n0,h0⟩:=h0
   obtain⟨x0,rfl,k0⟩:=FV h0
   cases hx with
   |cons h1 _ hx=>
    obtain⟨n1,h1⟩:=h1
    obtain⟨x1,rfl,k1⟩:=FA h1
    cases hx with
    |cons h2 _ hx=>
     obtain⟨n2,h2⟩:=h2
     obtain⟨x2,rfl,k2⟩:=Fd h2
     cases hx with
     |cons h3 _ hx=>
      obtain⟨n3,h3⟩:=h3
      obtain⟨x3,rfl,k3⟩:=FA h3
      cases hx with
      |cons h4 _ hx=>
       obtain⟨n4,h4⟩:=h4
       obtain⟨x4,rfl,k4⟩:=Fd h4
       cases hx
       exact Gd (G:=zH) rfl (λ _ _ h=>h) x0 k0 x1 x3 k1 k3 x2 x4 k2.1 k2.2 k4.1 k4.2 [] _ rfl
theorem EY:joinedFacts Tryz.prog 4 Tryz.f4 Rows.topDrainedRunsSpec Rows.topDrainedRunsRow=true:=by
 rw[joinedFacts,Fu,A8,makes]
 kernel_rfl
theorem topDrainedRuns_said:Rows.TopDrainedRunsSaid:=
 OpenClaim.holds_of_wide 4 Tryz.f4 rfl rfl rfl rfl rfl rfl rfl ⟨rfl,rfl,rfl,rfl,rfl⟩ rfl rfl rfl rfl rfl (by kernel_rfl) Tryz.func4 EY
  (of_decide_eq_true (by kernel_rfl)) (by unfold Func.isWrapper;first|(rw[if_pos (by decide+kernel)];kernel_rfl)|(rw[if_neg (by decide+kernel)];exact⟨rfl,rfl⟩))
  (λ os started H enc _=>EX os started H enc)
theorem topDrainedRuns_holds:Rows.TopDrainedRunsCardSaid:=
 Claim7.holds_tied_plain_at .later [] [.data] true (true, "481e929e10f95d8d9e32f2971ffa875cc5c9739ab9656d7a30d7a83b4ed81727") false
  topDrainedRuns_said (λ _ h=>by cases h) (by kernel_rfl) (λ _ h=>by cases h) topDrainedRuns_row_tie rfl ⟨rfl,rfl⟩ (by kernel_rfl) rfl
  (λ f fn hf hfn=>by
   obtain rfl : f = 4 := Option.some.inj ((show Tryz.prog.funcNamed "relyguard/relyguardtop.TopDrainedRuns" = some 4 by kernel_rfl).symm.trans hf) |>.symm
   obtain rfl:fn=Tryz.f4:=(Option.some.inj (Tryz.func4.symm.trans hfn)).symm
   exact⟨by kernel_rfl,λ j t ht=>by
    rw[Tryz.params4]at ht
    have hm:t∈[27,5,28,5,28]:=by simpa using Array.mem_of_getElem? ht
    have hall:([27,5,28,5,28].all λ u=> !Tryz.prog.wantsStandIn u)=true:=by kernel_rfl
    exact(show Tryz.prog.wantsStandIn t=false by simpa using aZ.1 hall t hm)⟩)
  (by kernel_rfl)
end
end Go.Proofs.YtdpdbokicanpoaaGreatDoor
