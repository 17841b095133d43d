import Derived.Test.YtdpdbokicanpoaaGreatDoorZ42
set_option linter.unusedSimpArgs false
set_option linter.unusedVariables false
set_option maxHeartbeats 64000000
set_option maxRecDepth 100000
namespace Go.Proofs.YtdpdbokicanpoaaGreatDoor
section
open Go Go.Ab
theorem xx(e:Ex):e.kids.length≤e.nodes:=by
 rw[Ex.nodes_eq]
 have:∀l:List Ex,l.length≤(l.map Ex.nodes).sum:=by
  intro l
  induction l with
  |nil=>simp
  |cons a l ih=>
   have:=Ex.nodes_eq a
   simp only[ae,aM,Ey]
   omega
 have:=this e.kids
 omega
theorem zh:∀(n:Nat) (e:Ex),e.nodes≤n→n≤1000→e.Ok
 |0,e,h,_=>by rw[Ex.nodes_eq]at h;omega
 |n+1,e,h,hn=>by
  have h1:=xx e
  refine .mk (by simp [reachBytes];omega) λ k hk=>zh n k ?_ (by omega)
  have:k.nodes≤(e.kids.map Ex.nodes).sum:=by
   have:∀{l:List Nat} {x:Nat},x∈l→x≤l.sum:=by
    intro l
    induction l with
    |nil=>intro x hx;cases hx
    |cons a l ih=>
     intro x hx
     rw[Ey]
     rcases aV.1 hx with rfl|hx
     ·omega
     ·have:=ih hx;omega
   exact this (aI.2 ⟨k,hk,rfl⟩)
  rw[Ex.nodes_eq]at h
  omega
theorem lF{e:Ex}(h:e.nodes≤40):e.Ok:=zh 40 e h (by omega)
theorem BR(p:Prg):p.viB (-1)=p.shB:=by
 funext c
 rw[dD,jT,eJ,or_self]
def sW(p:Prg):Prop:=(∀l∈p.locks,LckOk p l)∧(p.locks.map Lck.cell).Nodup
theorem locks_r(p:Prg)(hs:p.Small)(hc:lL p)(Z:St)(G:Glob)(R:A→St→Prop)(h:∀c:Int,(c=0↔sW p)→R (di c) Z):AC Tryz.prog G 66 [.d (bK p)] Z R:=by
 have hn:=hs.ncel
 have hnl:=hs.nlck
 unfold bK
 refine bD [5,7,12] a9 Tryz.func66 rfl Tryz.ntmps66 (by simp only[go_sem]) λ hbd=> ?_
 simp only[ae,aj,Nat.reduceAdd,Nat.reduceSub,af,ag,ah,ak]
 simp only[aY,go_sem,ac]
 refine aS (λ m fr st=>∃j:Nat,j≤p.locks.length∧m=p.locks.length - j∧(∀c∈p.locks.take j,LckOk p c)∧((p.locks.take j).map Lck.cell).Nodup∧fr=%[.o,.ref Z.length 0,.o,dn j|D7 (D4 [.o,.o,.o,.o,.o,.o])]∧st=Z++[bN p]) p.locks.length _ (Wk.mask [1,3] ⟨0,by omega,by omega,by simp,by simp,rfl,rfl⟩) ?_
 rintro m fr st ⟨j,hj,hm,hall,hnd,rfl,rfl⟩
 rcases aC j p.locks.length with hlt|hge
 ·have hd:decide ((j:Int)<(p.locks.length:Int))=true:=by simp only[av];omega
  have w2:=bC j (by omega)
  obtain⟨l,hl⟩:∃l,p.locks.getD j mJ=l:=⟨_,rfl⟩
  have hlm:l∈p.locks:=by rw[←hl];exact bT mJ hlt
  have g1:List.getD (p.locks.map iZ) j default=iZ l:=by rw[xw hlt,hl]
  simp only[aY,go_sem,hd,ac]
  refine bc (λ fr st=>fr=%[.o,.ref Z.length 0,.o,dn j,.ref (Z.length+1) 0|D7 (D4 [.o,.o,.o,.o,.o])]∧st=Z++[bN p,lckO l]) ?_ ?_
  ·simp only[aY,go_sem,hd,g1,iZ,ac,ad]
   exact⟨⟨by omega,by omega⟩,Wk.mask [1,3,4] ⟨rfl,rfl⟩⟩
  rintro fr st ⟨rfl,rfl⟩
  refine bc (λ fr st=>(p.shB l.cell=true∧(p.cell l.cell).w=1∧(p.cell l.cell).ghost=false∧0≤l.mod∧l.mod<p.modules.length)∧fr=%[.o,.ref Z.length 0,.o,dn j,.ref (Z.length+1) 0|D7 (D4 [.o,.o,.o,.o,.o])]∧st=Z++[bN p,lckO l]) ?_ ?_
  ·simp only[aY,go_sem,ac,ad]
   refine bH (k8 _ _ _ _ _ ?_)
   cases hin:kj l.cell (p.cells.length:Int)with
   |false=>
    simp only[aY,go_sem,hin,ac,ad]
    refine gO (.bool false) ⟨λ q=>Bool.noConfusion q,?_⟩
    simp only[aY,go_sem,ac,ad]
    exact aQ hbd (h 1 (eN (by decide) λ k=>by rw[cS.2 (eJ.1 (k.1 l hlm).cell).1]at hin;exact Bool.noConfusion hin))
   |true=>
    have hcr:=cS.1 hin
    simp only[aY,go_sem,hin,fZ p hcr,fb,ac,ad]
    refine⟨hcr,λ q=>⟨q,hcr⟩,λ q=>⟨q,hcr⟩,gO (.bool (kj l.mod p.modules.length)) ⟨λ hg=> ?_,?_⟩⟩
    ·simp only[go_sem]
     exact⟨hg,bH (k8 _ _ _ _ _ ⟨by rw[ac],rfl⟩)⟩
    simp only[aY,go_sem,ac,ad]
    refine⟨λ q=>aQ hbd (h 1 (eN (by decide) λ k=> ?_)),λ q=>Wk.mask [1,3,4] ⟨?_,rfl,rfl⟩⟩
    ·have kk:=k.1 l hlm
     rw[(eJ.1 kk.cell).2,kk.w,kk.real,cS.2 kk.mod]at q
     exact absurd q (by decide)
    simp only[bA,cF,bne_eq_false_iff_eq]at q
    obtain⟨⟨⟨q1,q2⟩,q3⟩,q4⟩:=q
    exact⟨eJ.2 ⟨hcr,q1⟩,q2,q3,cS.1 q4⟩
  rintro fr st ⟨hco,rfl,rfl⟩
  refine bc (λ fr st=>(∀i,i<j→(p.locks.getD i mJ).cell≠l.cell)∧fr=%[.o,.ref Z.length 0,.o,dn j,.ref (Z.length+1) 0|D7 (D4 [.o,.o,.o,.o,.o])]∧st=Z++[bN p,lckO l]) ?_ ?_
  ·simp only[aY,go_sem,ac,ad]
   refine aS (λ m fr st=>∃k:Nat,k≤j∧m=j - k∧(∀i,i<k→(p.locks.getD i mJ).cell≠l.cell)∧fr=%[.o,.ref Z.length 0,.o,dn j,.ref (Z.length+1) 0,dn k|D7 (D4 [.o,.o,.o,.o])]∧st=Z++[bN p,lckO l]) j _ (Wk.mask [1,3,4,5] ⟨0,by omega,by omega,λ i hi=>absurd hi (by omega),rfl,rfl⟩) ?_
   rintro m2 fr st ⟨k,hk,hm2,hne,rfl,rfl⟩
   rcases aC k j with hkl|hkg
   ·have hd2:decide ((k:Int)<(j:Int))=true:=by simp only[av];omega
    have w3:=bC k (by omega)
    have g2:List.getD (p.locks.map iZ) k default=iZ (p.locks.getD k mJ):=xw (by omega)
    simp only[aY,go_sem,hd2,ac]
    refine bb (.tk 9 0<| .done) (by kernel_rfl) ?_
    simp only[aY,go_sem,w3,g2,iZ,ac,ad]
    refine⟨⟨by omega,by omega⟩,λ q=>aQ hbd (h 1 (eN (by decide) λ hh=>ou (f:=Lck.cell) mJ hkl hlt (by rw[hl];simpa using q) hh.2)),λ q=>Wk.mask [1,3,4,5] ⟨j - (k+1),by omega,k+1,by omega,rfl,λ i hi=> ?_,rfl,rfl⟩⟩
    rcases aC i k with h1|h1
    ·exact hne i h1
    ·obtain rfl:i=k:=by omega
     simpa using q
   ·have hd2:decide ((k:Int)<(j:Int))=false:=by simp only[ay];omega
    simp only[aY,go_sem,hd2,w2,ac,ad]
    obtain rfl:k=j:=by omega
    exact Wk.mask [1,3,4] ⟨hne,rfl,rfl⟩
  rintro fr st ⟨hne,rfl,rfl⟩
  have tr:=sG p (by omega) hc l.inv (lF (hs.locks l hlm)) false (-1)
  unfold bK eD at tr
  simp only[aY,go_sem,ac,ad]
  refine bH (tr _ _ _ ?_)
  rw[BR]
  simp only[aY,go_sem,w2,ac,ad]
  refine⟨λ q=>aQ hbd (h 60 (eN (by decide) λ k=>by rw[(k.1 l hlm).inv]at q;exact Bool.noConfusion q)),λ q=> ?_⟩
  have hb:p.truB l.inv false p.shB=true:=by simpa using q
  exact Wk.keep [1,3] [0] (by decide) (aE _) hbd ⟨p.locks.length - (j+1),by omega,j+1,by omega,rfl,fm mJ hlt hall (by rw[hl];exact⟨hco.1,hco.2.1,hco.2.2.1,hco.2.2.2,hb⟩),kX mJ hlt hnd (by rw[hl];exact hne),by simp only[go_sem],by simp only[go_sem]⟩
 ·have hd:decide ((j:Int)<(p.locks.length:Int))=false:=by simp only[ay];omega
  obtain rfl:j=p.locks.length:=by omega
  simp only[aY,go_sem,hd,ac]
  rw[bB]at hall hnd
  exact aQ hbd (h 0 ⟨λ _=>⟨hall,hnd⟩,λ _=>rfl⟩)
abbrev zZ(m:Ctr):Option Ob:=some (.cells [.d (.str m.name),.d (.str m.owner),.d (iD m.rely.op),.d (iD m.rely.w),.d (iD m.rely.n),.d (.sl 4 (m.rely.kids.map Ex.d)),.d (iD m.guar.op),.d (iD m.guar.w),.d (iD m.guar.n),.d (.sl 4 (m.guar.kids.map Ex.d)),.d (bu m.frame)])
def xU(p:Prg):Prop:=(∀m∈p.modules,CtrOk p m)∧(p.modules.map Ctr.name).Nodup
theorem Dg(p:Prg)(hs:p.Small)(hz:∀m∈p.modules,m.name.length≤reachBytes∧m.owner.length≤reachBytes)(hc:lL p)(Z:St)(G:Glob)(R:A→St→Prop)(h:∀c:Int,(c=0↔xU p)→R (di c) Z):AC Tryz.prog G 65 [.d (bK p)] Z R:=by
 have hn:=hs.ncel
 have hnl:=hs.nmod
 unfold bK
 refine bD [5,7,12,14,19] a9 Tryz.func65 rfl Tryz.ntmps65 (by simp only[go_sem]) λ hbd=> ?_
 simp only[ae,aj,Nat.reduceAdd,Nat.reduceSub,af,ag,ah,ak]
 simp only[aY,go_sem,ac]
 refine aS (λ m fr st=>∃j:Nat,j≤p.modules.length∧m=p.modules.length - j∧(∀c∈p.modules.take j,CtrOk p c)∧((p.modules.take j).map Ctr.name).Nodup∧fr=%[.o,.ref Z.length 0,.o,dn j|D7 (D5 (D4 [.o,.o,.o]))]∧st=Z++[bN p]) p.modules.length _ (Wk.mask [1,3] ⟨0,by omega,by omega,by simp,by simp,rfl,rfl⟩) ?_
 rintro m fr st ⟨j,hj,hm,hall,hnd,rfl,rfl⟩
 rcases aC j p.modules.length with hlt|hge
 ·have hd:decide ((j:Int)<(p.modules.length:Int))=true:=by simp only[av];omega
  have w2:=bC j (by omega)
  obtain⟨l,hl⟩:∃l,p.modules.getD j mj=l:=⟨_,rfl⟩
  have hlm:l∈p.modules:=by rw[←hl];exact bT mj hlt
  obtain⟨hfr,hrn,hgn⟩:=hs.modules l hlm
  have g1:List.getD (p.modules.map iH) j default=iH l:=by rw[xM hlt,hl]
  simp only[aY,go_sem,hd,ac]
  refine bc (λ fr st=>fr=%[.o,.ref Z.length 0,.o,dn j,.ref (Z.length+1) 0|D7 (D5 (D4 [.o,.o]))]∧st=Z++[bN p,zZ l]) ?_ ?_
  ·simp only[aY,go_sem,hd,g1,iH,ac,ad]
   exact⟨⟨by omega,by omega⟩,Wk.mask [1,3,4] ⟨rfl,rfl⟩⟩
  rintro fr st ⟨rfl,rfl⟩
  refine bc (λ fr st=>(jj l.name=true∧jj l.owner=true)∧fr=%[.o,.ref Z.length 0,.o,dn j,.ref (Z.length+1) 0|D7 (D5 (D4 [.o,.o]))]∧st=Z++[bN p,zZ l]) ?_ ?_
  ·simp only[aY,go_sem,ac,ad]
   refine bH (qg _ (hz l hlm).1 _ _ _ ?_)
   simp only[aY,go_sem,ac,ad]
   refine gO (.bool (jj l.owner)) ⟨λ hg=> ?_,?_⟩
   ·simp only[go_sem]
    exact⟨hg,bH (qg _ (hz l hlm).2 _ _ _ ⟨rfl,rfl⟩)⟩
   simp only[aY,go_sem,ac,ad]
   refine⟨λ q=>by simpa using q,λ q=>aQ hbd (h 1 (eN (by decide) λ k=>by rw[(k.1 l hlm).name,(k.1 l hlm).owner]at q;exact Bool.noConfusion q)),λ q=>Wk.mask [1,3,4] ⟨by simpa using q,rfl,rfl⟩⟩
  rintro fr st ⟨hco,rfl,rfl⟩
  refine bc (λ fr st=>(∀i,i<j→(p.modules.getD i mj).name≠l.name)∧fr=%[.o,.ref Z.length 0,.o,dn j,.ref (Z.length+1) 0|D7 (D5 (D4 [.o,.o]))]∧st=Z++[bN p,zZ l]) ?_ ?_
  ·simp only[aY,go_sem,ac,ad]
   refine aS (λ m fr st=>∃k:Nat,k≤j∧m=j - k∧(∀i,i<k→(p.modules.getD i mj).name≠l.name)∧fr=%[.o,.ref Z.length 0,.o,dn j,.ref (Z.length+1) 0,dn k|D7 (D5 (D4 [.o]))]∧st=Z++[bN p,zZ l]) j _ (Wk.mask [1,3,4,5] ⟨0,by omega,by omega,λ i hi=>absurd hi (by omega),rfl,rfl⟩) ?_
   rintro m2 fr st ⟨k,hk,hm2,hne,rfl,rfl⟩
   rcases aC k j with hkl|hkg
   ·have hd2:decide ((k:Int)<(j:Int))=true:=by simp only[av];omega
    have w3:=bC k (by omega)
    have g2:List.getD (p.modules.map iH) k default=iH (p.modules.getD k mj):=xM (by omega)
    simp only[aY,go_sem,hd2,ac]
    refine bb (.tk 9 0<| .done) (by kernel_rfl) ?_
    simp only[aY,go_sem,w3,g2,iH,ac,ad]
    refine⟨⟨by omega,by omega⟩,λ q=>aQ hbd (h 41 (eN (by decide) λ hh=>ou (f:=Ctr.name) mj hkl hlt (by rw[hl];simpa using q) hh.2)),λ q=>Wk.mask [1,3,4,5] ⟨j - (k+1),by omega,k+1,by omega,rfl,λ i hi=> ?_,rfl,rfl⟩⟩
    rcases aC i k with h1|h1
    ·exact hne i h1
    ·obtain rfl:i=k:=by omega
     simpa using q
   ·have hd2:decide ((k:Int)<(j:Int))=false:=by simp only[ay];omega
    simp only[aY,go_sem,hd2,w2,ac,ad]
    obtain rfl:k=j:=by omega
    exact Wk.mask [1,3,4] ⟨hne,rfl,rfl⟩
  rintro fr st ⟨hne,rfl,rfl⟩
  refine bc (λ fr st=>((l.rely.absent=true∨p.truB l.rely true p.shB=true)∧p.truB l.guar true p.shB=true)∧fr=%[.o,.ref Z.length 0,.o,dn j,.ref (Z.length+1) 0|D7 (D5 (D4 [.o,.o]))]∧st=Z++[bN p,zZ l]) ?_ ?_
  ·have tr:=sG p (by omega) hc l.rely (lF hrn) true (-1)
   have tg:=sG p (by omega) hc l.guar (lF hgn) true (-1)
   have ab:=DR l.rely (by have:=xx l.rely;simp [reachBytes];omega)
   rw[BR]at tr tg
   unfold bK eD at tr tg
   unfold eD at ab
   simp only[aY,go_sem,ac,ad]
   refine bH (ab _ _ _ ?_)
   have guarEnd:∀(b:Bool),(b=true→p.truB l.guar true p.shB=true)→((!b)=false→p.truB l.guar true p.shB=true):=λ b hb q=>hb (by simpa using q)
   cases hab:l.rely.absent with
   |true=>
    simp only[aY,go_sem,hab,ac,ad]
    refine gO (.bool false) ⟨λ q=>Bool.noConfusion q,?_⟩
    simp only[aY,go_sem,ac,ad]
    refine exs ⟨λ _=> ?_,λ q=>Bool.noConfusion q⟩
    simp only[aY,go_sem,ac,ad]
    refine bH (tg _ _ _ ?_)
    obtain⟨b,hbq⟩:∃b,p.truB l.guar true p.shB=b:=⟨_,rfl⟩
    rw[hbq]
    simp only[aY,go_sem,ac,ad]
    refine⟨λ q=>aQ hbd (h 60 (eN (by decide) λ k=>by rw[(k.1 l hlm).guar]at hbq;rw[←hbq]at q;exact Bool.noConfusion q)),λ q=>Wk.mask [1,3,4] ⟨⟨.inl trivial,by simpa using q⟩,rfl,rfl⟩⟩
   |false=>
    simp only[aY,go_sem,hab,ac,ad]
    refine exs ⟨λ _=> ?_,λ q=>Bool.noConfusion q⟩
    simp only[aY,go_sem,ac,ad]
    refine bH (tr _ _ _ ?_)
    obtain⟨b,hb⟩:∃b,p.truB l.rely true p.shB=b:=⟨_,rfl⟩
    rw[hb]
    cases b with
    |false=>
     simp only[aY,go_sem,ac,ad]
     refine gO (.bool false) ⟨λ q=>Bool.noConfusion q,?_⟩
     simp only[aY,go_sem,ac,ad]
     exact aQ hbd (h 60 (eN (by decide) λ k=>(k.1 l hlm).rely.elim (λ q=>by rw[hab]at q;exact Bool.noConfusion q) (λ q=>by rw[hb]at q;exact Bool.noConfusion q)))
    |true=>
     simp only[aY,go_sem,ac,ad]
     refine exs ⟨λ _=> ?_,λ q=>Bool.noConfusion q⟩
     simp only[aY,go_sem,ac,ad]
     refine bH (tg _ _ _ ?_)
     obtain⟨b2,hbq2⟩:∃b,p.truB l.guar true p.shB=b:=⟨_,rfl⟩
     rw[hbq2]
     simp only[aY,go_sem,ac,ad]
     refine⟨λ q=>aQ hbd (h 60 (eN (by decide) λ k=>by rw[(k.1 l hlm).guar]at hbq2;rw[←hbq2]at q;exact Bool.noConfusion q)),λ q=>Wk.mask [1,3,4] ⟨⟨.inr trivial,by simpa using q⟩,rfl,rfl⟩⟩
  rintro fr st ⟨htr,rfl,rfl⟩
  refine bc (λ fr st=>(∀c∈l.frame,p.shB c=true)∧fr=%[.o,.ref Z.length 0,.o,dn j,.ref (Z.length+1) 0|D7 (D5 (D4 [.o,.o]))]∧st=Z++[bN p,zZ l]) ?_ ?_
  ·simp only[aY,bu,go_sem,ac,ad]
   refine aS (λ m fr st=>∃k:Nat,k≤l.frame.length∧m=l.frame.length - k∧(∀c∈l.frame.take k,p.shB c=true)∧fr=%[.o,.ref Z.length 0,.o,dn j,.ref (Z.length+1) 0,.o,dn k|D7 (D5 (D4 []))]∧st=Z++[bN p,zZ l]) l.frame.length _ (Wk.mask [1,3,4,6] ⟨0,by omega,by omega,by simp,rfl,rfl⟩) ?_
   rintro m2 fr st ⟨k,hk,hm2,hfa,rfl,rfl⟩
   rcases aC k l.frame.length with hkl|hkg
   ·have hd2:decide ((k:Int)<(l.frame.length:Int))=true:=by simp only[av];omega
    have w3:=bC k (by omega)
    obtain⟨c,hcc⟩:∃c,l.frame.getD k 0=c:=⟨_,rfl⟩
    have g2:List.getD (l.frame.map iD) k default=iD c:=by rw[bW hkl,hcc]
    have hcm:c∈l.frame:=by rw[←hcc];exact bT 0 hkl
    simp only[aY,bu,go_sem,hd2,ac]
    refine bb (.tk 8 0<| .pure 8<| .tk 14 9<| .done) (by kernel_rfl) ?_
    simp only[aY,bu,go_sem,w3,g2,ac,ad]
    refine⟨⟨by omega,by omega⟩,Go.Ab.mN (db (kj c p.cells.length)) ⟨λ Z'=>bH (k8 _ _ _ _ _ ⟨rfl,rfl⟩),?_⟩⟩
    cases hin:kj c (p.cells.length:Int)with
    |false=>
     simp only[aY,bu,go_sem,hin,w3,g2,ac,ad]
     exact aQ hbd (h 1 (eN (by decide) λ k=>by rw[cS.2 (eJ.1 ((k.1 l hlm).frame c hcm)).1]at hin;exact Bool.noConfusion hin))
    |true=>
     have hcr:=cS.1 hin
     simp only[aY,bu,go_sem,hin,w3,g2,fZ p hcr,fb,ac,ad]
     refine⟨⟨by omega,by omega⟩,hcr,λ q=>aQ hbd (h 1 (eN (by decide) λ k=>by rw[(eJ.1 ((k.1 l hlm).frame c hcm)).2]at q;exact absurd q (by decide))),λ q=>Wk.mask [1,3,4,6] ⟨l.frame.length - (k+1),by omega,k+1,by omega,rfl,?_,rfl,rfl⟩⟩
     exact fm 0 hkl hfa (by rw[hcc];exact eJ.2 ⟨hcr,by simpa using q⟩)
   ·have hd2:decide ((k:Int)<(l.frame.length:Int))=false:=by simp only[ay];omega
    simp only[aY,bu,go_sem,hd2,w2,ac,ad]
    obtain rfl:k=l.frame.length:=by omega
    rw[bB]at hfa
    exact Wk.mask [1,3,4] ⟨hfa,rfl,rfl⟩
  rintro fr st ⟨hfa,rfl,rfl⟩
  simp only[aY,go_sem,w2,ac,ad]
  refine bH (vG _ (by simp [reachBytes];omega) _ _ _ λ b hb=> ?_)
  simp only[aY,go_sem,w2,ac,ad]
  refine⟨λ q=>aQ hbd (h 1 (eN (by decide) λ k=>by rw[hb.2 (k.1 l hlm).rise]at q;exact Bool.noConfusion q)),λ q=> ?_⟩
  exact Wk.keep [1,3] [0] (by decide) (aE _) hbd ⟨p.modules.length - (j+1),by omega,j+1,by omega,rfl,fm mj hlt hall (by rw[hl];exact⟨hco.1,hco.2,htr.1,htr.2,hfa,hb.1 (by simpa using q)⟩),kX mj hlt hnd (by rw[hl];exact hne),by simp only[go_sem],by simp only[go_sem]⟩
 ·have hd:decide ((j:Int)<(p.modules.length:Int))=false:=by simp only[ay];omega
  obtain rfl:j=p.modules.length:=by omega
  simp only[aY,go_sem,hd,ac]
  rw[bB]at hall hnd
  exact aQ hbd (h 0 ⟨λ _=>⟨hall,hnd⟩,λ _=>rfl⟩)
end
end Go.Proofs.YtdpdbokicanpoaaGreatDoor
section
namespace Go.Proofs.YtdpdbokicanpoaaGreatDoor
theorem Au{Φ:Prop}(h:¬Φ):(false=true↔Φ):=⟨λ q=>Bool.noConfusion q,λ q=>absurd q h⟩
theorem Av{Φ:Prop}(h:Φ):(true=true↔Φ):=⟨λ _=>h,λ _=>rfl⟩
section
variable {p:Prg} {t:Int} {s:Stp}
theorem kindOk1(k:s.kind=1)(h:jR p t s):∀a∈s.set,p.owB t a.cell=true:=by
 rcases h with h|h|h|h|h|h|h
 ·exactλ a ha=>(h.2.2 a ha).2
 all_goals exact absurd (h.1.symm.trans k) (by decide)
theorem idx_of{α:Type}{P:α→Prop}{l r:List α}{a:α}(d:α)(e:l=a::r)(h:∀b∈r,P b):∀i,0<i→i<l.length→P (l.getD i d):=λ i hi hl=>by
 subst e
 obtain⟨j,rfl⟩:∃j,i=j+1:=⟨i - 1,by omega⟩
 rw[eU]
 have hl2:j<r.length:=by simpa using hl
 rw[au,ap hl2]
 exact h _ (bI hl2)
theorem om(k:s.kind=2)(h:jR p t s):0<s.set.length∧p.owB t (s.set.getD 0 dt).cell=true∧(p.cell (s.set.getD 0 dt).cell).ghost=false∧(s.set.getD 0 dt).to.op=2∧p.shB (s.set.getD 0 dt).to.n=true∧(p.cell (s.set.getD 0 dt).to.n).ghost=false∧
  ∀i,0<i→i<s.set.length→p.owB t (s.set.getD i dt).cell=true∧(p.cell (s.set.getD i dt).cell).ghost=true∧(s.set.getD i dt).to.allB (p.owB t)=true:=by
 rcases h with h|h|h|h|h|h|h
 ·exact absurd (h.1.symm.trans k) (by decide)
 ·obtain⟨_,_,a,r,e,h1,h2,h3,h4,h5,h6⟩:=h
  have h7:=idx_of dt e h6
  refine⟨by rw[e];simp,?_,?_,?_,?_,?_,h7⟩<;> (rw[e,dA];assumption)
 all_goals exact absurd (h.1.symm.trans k) (by decide)
theorem sL(k:s.kind=3)(h:jR p t s):0<s.set.length∧p.shB (s.set.getD 0 dt).cell=true∧(p.cell (s.set.getD 0 dt).cell).ghost=false∧∀i,0<i→i<s.set.length→(p.cell (s.set.getD i dt).cell).ghost=true∧p.viB t (s.set.getD i dt).cell=true:=by
 rcases h with h|h|h|h|h|h|h
 ·exact absurd (h.1.symm.trans k) (by decide)
 ·exact absurd (h.1.symm.trans k) (by decide)
 ·obtain⟨_,_,_,a,r,e,h1,h2,h6⟩:=h
  have h7:=idx_of dt e h6
  refine⟨by rw[e];simp,?_,?_,h7⟩<;> (rw[e,dA];assumption)
 all_goals exact absurd (h.1.symm.trans k) (by decide)
theorem Ch(k:5≤s.kind)(h:jR p t s):s.guard.one=true∧s.set=[]:=by
 rcases h with h|h|h|h|h|h|h
 ·have:=h.1;omega
 ·have:=h.1;omega
 ·have:=h.1;omega
 ·have:=h.1;omega
 ·exact⟨h.2.1,h.2.2⟩
 ·exact⟨h.2.1,h.2.2.1⟩
 ·exact⟨h.2.1,h.2.2.1⟩
theorem Cg(k:s.kind=6)(h:jR p t s):kj s.target p.threads.length=true∧s.target≠t∧(p.threads.getD s.target.toNat fg).asleep=true:=by
 rcases h with h|h|h|h|h|h|h
 ·have:=h.1;omega
 ·have:=h.1;omega
 ·have:=h.1;omega
 ·have:=h.1;omega
 ·have:=h.1;omega
 ·exact h.2.2.2
 ·have:=h.1;omega
theorem Cf(k:s.kind=7)(h:jR p t s):kj s.target p.threads.length=true∧s.target≠t:=by
 rcases h with h|h|h|h|h|h|h
 ·have:=h.1;omega
 ·have:=h.1;omega
 ·have:=h.1;omega
 ·have:=h.1;omega
 ·have:=h.1;omega
 ·have:=h.1;omega
 ·exact h.2.2.2
theorem tR{f:Int→Bool}{e:Ex}(h:e.one=true):e.allB f=true:=by
 simp only[Ex.one,aB,cg,List.isEmpty_iff]at h
 rw[Ex.allB_eq,h.1.1.1,h.2];rfl
theorem kind_pre(hset:∀a∈s.set,AsgOk p a){F:Int→Bool}(hF:(if(s.kind==4)=true then p.viB t else p.owB t)=F)(h:jR p t s):s.guard.allB F=true∧∀i,i<s.set.length→((0<i∨s.kind≠2)→(s.set.getD i dt).to.allB F=true)∧((p.cell (s.set.getD i dt).cell).thread=t∨(p.cell (s.set.getD i dt).cell).thread= -1):=by
 have hm:∀i,i<s.set.length→s.set.getD i dt∈s.set:=λ i hi=>by rw[au,ap hi];exact bI hi
 have F4:s.kind≠4→p.owB t=F:=λ q=>by rw[←hF,if_neg (by simpa using q)]
 rcases h with h|h|h|h|h|h|h
 ·have e:=F4 (by omega)
  rw[←e]
  exact⟨h.2.1,λ i hi=>⟨λ _=>(h.2.2 _ (hm i hi)).1,.inl (gB.1 (h.2.2 _ (hm i hi)).2).2⟩⟩
 ·have e:=F4 (by omega)
  rw[←e]
  have h2:=om h.1 (.inr (.inl h))
  refine⟨h.2.1,λ i hi=> ?_⟩
  rcases cv i with h0|h0
  ·subst h0
   exact⟨λ q=>absurd h.1 (q.resolve_left (by omega)),.inl (gB.1 h2.2.1).2⟩
  ·obtain⟨g1,_,g3⟩:=h2.2.2.2.2.2.2 i h0 hi
   exact⟨λ _=>g3,.inl (gB.1 g1).2⟩
 ·have e:=F4 (by omega)
  rw[←e]
  have h3:=sL h.1 (.inr (.inr (.inl h)))
  refine⟨h.2.1,λ i hi=>⟨λ _=>h.2.2.1 _ (hm i hi),?_⟩⟩
  rcases cv i with h0|h0
  ·subst h0
   exact .inr (eJ.1 h3.2.1).2
  ·exact(jT.1 (h3.2.2.2 i h0 hi).2).2.symm
 ·have e:p.viB t=F:=by rw[←hF,if_pos (by rw[h.1];rfl)]
  rw[←e]
  exact⟨h.2.1,λ i hi=>⟨λ _=>(h.2.2 _ (hm i hi)).1,(jT.1 (h.2.2 _ (hm i hi)).2).2.symm⟩⟩
 ·exact⟨tR h.2.1,λ i hi=>by rw[h.2.2]at hi;simp at hi⟩
 ·exact⟨tR h.2.1,λ i hi=>by rw[h.2.2.1]at hi;simp at hi⟩
 ·exact⟨tR h.2.1,λ i hi=>by rw[h.2.2.1]at hi;simp at hi⟩
theorem to_not{j:Nat}{k:Int}{b:Bool}(q:((decide (0<(j:Int))||k !=2)&& !b)=true)(h:(0<j∨k≠2)→b=true):False:=by
 simp only[aB,cd,av,bne_iff_ne,bQ]at q
 rw[h (q.1.imp (λ x=>by omega) id)]at q
 exact Bool.noConfusion q.2
theorem own_not{x y:Int}(q:(!(x==y)&& !(x== -1))=true)(h:x=y∨x= -1):False:=by
 simp only[aB,bQ,ck]at q
 omega
theorem eq_not{x y:Int}(q:(!(x==y))=true)(h:x=y):False:=by
 simp only[bQ,ck]at q
 exact q h
theorem xI{x y:Int}{g:Bool}(q:(!(x==y)||g)=true)(h:x=y)(hg:g=false):False:=by
 simp only[cd,bQ,ck]at q
 rcases q with q|q
 ·exact q h
 ·rw[hg]at q;exact Bool.noConfusion q
end
end Go.Proofs.YtdpdbokicanpoaaGreatDoor
end
namespace Go.Proofs.YtdpdbokicanpoaaGreatDoor
section
open Go Go.Ab
theorem AP(e:Ex)(hk:e.kids.length≤reachBytes)(Z:St)(G:Glob)(R:A→St→Prop)(h:R (db e.one) Z):AC Tryz.prog G 159 [.d (.agg [iD e.op,iD e.w,iD e.n,.sl 4 (e.kids.map Ex.d)]),.d (.agg [iD 1,iD 1,iD 1,.sl 4 []])] Z R:=by
 have hk2:=rS hk
 cases ho:e.one with
 |true=>
  rw[ho]at h
  simp only[Ex.one,aB,cg,List.isEmpty_iff]at ho
  obtain⟨⟨⟨h1,h2⟩,h3⟩,h4⟩:=ho
  have b1:((1:Int)!=1)=false:=by decide
  have b0:(((0:Nat):Int)!=((0:Nat):Int))=false:=by decide
  have d0:decide (((0:Nat):Int)<((0:Nat):Int))=false:=by decide
  have d1:decide ((0:Int)<((0:Nat):Int))=false:=by decide
  rw[h1,h2,h3,h4]
  refine bM a9 Tryz.func159 rfl Tryz.ntmps159 (by simp only[go_sem]) λ hbd=> ?_
  simp only[ae,aj,Nat.reduceAdd,Nat.reduceSub,af,ag,ah,ak]
  simp only[bq,aj,go_sem,b1,b0,d0,d1]
  refine aS (λ m fr st=>fr=%[.o,.o,.ref Z.length 0,.ref (Z.length+1) 0,.o,di 0|D6 (D4 [.o,.o,.o,.o,.o,.o,.o])]∧st=Z++[some (.cells [di 1,di 1,di 1,.d (.sl 4 [])]),some (.cells [di 1,di 1,di 1,.d (.sl 4 [])])]) 0 _ (Wk.mask [2,3,5] ⟨rfl,rfl⟩) ?_
  rintro m fr st ⟨rfl,rfl⟩
  simp only[go_sem,aj,b1,b0,d0,d1]
  exact aQ hbd h
 |false=>
  rw[ho]at h
  have hc:(e.op !=1||e.w !=1||e.n !=1||(e.kids.length:Int)!=((0:Nat):Int))=true:=by
   rw[←Bool.not_eq_false]
   intro q
   simp only[bA,bne_eq_false_iff_eq]at q
   have:e.one=true:=by
    simp only[Ex.one,aB,cg,List.isEmpty_iff]
    exact⟨⟨⟨q.1.1.1,q.1.1.2⟩,q.1.2⟩,cM.1 (by omega)⟩
   rw[this]at ho
   exact Bool.noConfusion ho
  refine bD [3] a9 Tryz.func159 rfl Tryz.ntmps159 (by simp only[go_sem]) λ hbd=> ?_
  simp only[ae,aj,Nat.reduceAdd,Nat.reduceSub,af,ag,ah,ak]
  simp only[go_sem]
  refine bc (λ _ _=>False) ?_ (λ _ _ h=>h.elim)
  simp only[aj,ac,go_sem]
  exact⟨λ _=>aQ hbd h,λ q=>absurd (q.symm.trans hc) (by decide)⟩
theorem bw.blur{G:Glob}{n0:Nat}{fr:Fr}{Z:St}{id:Nat}{cs cs':List A}(h:Z[id]? =some (some (.cells cs)))(hl:cs'.length=cs.length)(hb:∀(i:Nat) (x:A),cs'[i]? =some x→x= .o∨cs[i]? =some x):bw G n0 fr Z fr (Z.set id (some (.cells cs'))):=by
 intro U0 w0 U w vs h0 hx hI hF
 have hid:=(aA.1 h).1
 refine⟨U,hx,⟨by rw[aH];exact hI.len,hI.inj,hI.lt,λ i o ho=> ?_,hI.glob,λ i o ho=> ?_,hI.own⟩,hF⟩
 ·rw[aR]at ho
  split at ho
  ·rename_i e
   subst e
   cases ho
   rcases hI.obj id _ h with⟨b,hρ,us,e,h1,h2,h3⟩|⟨hρ,he⟩
   ·refine .inl ⟨b,hρ,us,e,h1,by omega,λ i x hx'=> ?_⟩
    have hi:=(aA.1 hx').1
    obtain⟨y,hy⟩:∃y,cs[i]? =some y:=⟨_,ap (by omega)⟩
    obtain⟨v,hv1,hv2,hv3⟩:=h3 i y hy
    rcases hb i x hx' with rfl|hx2
    ·exact⟨v,hv1,hv2,.o v⟩
    ·rw[hy]at hx2
     cases hx2
     exact⟨v,hv1,hv2,hv3⟩
   ·refine .inr ⟨hρ,?_⟩
    have he2:cs=[]:=by injection he
    rw[he2]at hl
    have:cs'=[]:=cM.1 (by simpa using hl)
    rw[this]
  ·exact hI.obj i o ho
 ·rw[aH]
  rw[aR]at ho
  split at ho
  ·rename_i e
   subst e
   cases ho
   have hbd:=hI.bd id _ h
   show jo _ cs'=true
   refine gI λ x hx'=> ?_
   obtain⟨i,hi,rfl⟩:=bF hx'
   rcases hb i _ (ap hi)with e|hx2
   ·rw[e];rfl
   ·exact gl hbd i _ hx2
  ·exact hI.bd i o ho
abbrev stpB(s:Stp):Option Ob:=some (.cells [.d (iD s.kind),.d (iD s.src),.d (iD s.dst),.d (iD s.guard.op),.d (iD s.guard.w),.d (iD s.guard.n),.d (.sl 4 (s.guard.kids.map Ex.d)),.o,.d (.bool s.rel),.d (iD s.target),.d (iD s.mod)])
abbrev gS(s:Stp):Option Ob:=some (.cells [.d (iD s.kind),.d (iD s.src),.d (iD s.dst),.d (iD s.guard.op),.d (iD s.guard.w),.d (iD s.guard.n),.d (.sl 4 (s.guard.kids.map Ex.d)),.d (.sl 5 (s.set.map dM)),.d (.bool s.rel),.d (iD s.target),.d (iD s.mod)])
theorem leaf_rng{p:Prg}{e:Ex}(hv:e.valid p.cells false=true)(ho:e.op=2):0≤e.n∧e.n<p.cells.length:=by
 obtain⟨_,hd,hov⟩:=Ex.valid_iff.1 hv
 have hf:e.fits=true:=by
  obtain⟨l,hl⟩:∃l,40=l+1:=⟨39,rfl⟩
  rw[hl]at hd
  simp only[Ex.deep,aB]at hd
  exact hd.1
 rw[Ex.over_eq,aB]at hov
 exact⟨(xu hf (.inl ho)).1,(Fs hov.1 (.inl ho)).1⟩
theorem pz{α:Type}{P:α→Prop}{l:List α}(d:α)(h:∀i,i<l.length→P (l.getD i d)):∀a∈l,P a:=λ a ha=>by
 obtain⟨i,hi,rfl⟩:=bF ha
 have:=h i hi
 rwa [au,ap hi]at this
theorem r7{α:Type}{P:α→Prop}{l:List α}(d:α)(h:∀i,0<i→i<l.length→P (l.getD i d)):∀a∈l.tail,P a:=λ a ha=>by
 obtain⟨i,hi,rfl⟩:=bF ha
 rw[List.length_tail]at hi
 have:=h (i+1) (by omega) (by omega)
 rw[au,ap (by omega)]at this
 rw[List.getElem_tail]
 exact this
theorem wu{α:Type}{l:List α}(d:α)(h:0<l.length):l=l.getD 0 d::l.tail:=by
 cases l with
 |nil=>simp at h
 |cons a r=>rfl
theorem kind_r(p:Prg)(hs:p.Small)(hc:lL p)(t:Nat)(s:Stp)(hsm:StpSm s)(hset:∀a∈s.set,AsgOk p a)(hg:s.guard.valid p.cells false=true)(hk:1≤s.kind∧s.kind≤7)(Z:St)(G:Glob)(R:A→St→Prop)(h:∀b:Bool,(b=true↔jR p t s)→R (db b) Z):AC Tryz.prog G 139 [.d (bK p),dn t,.d (eP s)] Z R:=by
 have hn:=hs.ncel
 have hsn:=hsm.set
 have hth:∀c∈p.cells,-1≤c.thread:=λ c h=>(hc.1 c h).thread.1
 obtain⟨F,hF⟩:∃F,(if(s.kind==4)=true then p.viB (t:Int)else p.owB (t:Int))=F:=⟨_,rfl⟩
 have mS:jR p t s→_:=kind_pre hset hF
 have ov:∀(e:Ex),e.nodes≤40→e.valid p.cells false=true→∀(Z:St) (R:A→St→Prop),R (db (e.allB F)) Z→AC Tryz.prog G 109 [.d (bK p),.d (eD e),db (s.kind==4),dn t] Z R:=λ e he hv Z R hR=>A1 p (by omega) hth e (lF he) false hv (s.kind==4) t (λ _=>by omega) Z G R (by rw[hF];exact hR)
 have ow:∀c:Int,(0≤c∧c<p.cells.length)→∀(Z:St) (R:A→St→Prop),R (db ((p.cell c).thread==t)) Z→AC Tryz.prog G 157 [.d (bK p),di c,dn t] Z R:=λ c hc Z R hR=>own_ac p c t hc Z G R hR
 have shd:∀c:Int,(0≤c∧c<p.cells.length)→∀(Z:St) (R:A→St→Prop),R (db ((p.cell c).thread== -1)) Z→AC Tryz.prog G 158 [.d (bK p),di c] Z R:=λ c hc Z R hR=>CE p c hc Z G R hR
 unfold bK eP at*
 unfold eD at ov
 refine bD [3,5,13] a9 Tryz.func139 rfl Tryz.ntmps139 (by simp only[go_sem]) λ hbd=> ?_
 simp only[ae,aj,Nat.reduceAdd,Nat.reduceSub,af,ag,ah,ak]
 simp only[go_sem,ac]
 refine bc (λ fr st=>fr=%[.o,dn t,.o,.ref Z.length 0,.o,.ref (Z.length+1) 0,.o,dn s.set.length,db (s.kind==4)|D7 (D7 (D7 (D6 (D5 [.o,.o,.o]))))]∧st=Z++[bN p,gS s]) ?_ ?_
 ·simp only[go_sem,ac]
  exact Wk.mask [1,3,5,7,8] ⟨rfl,rfl⟩
 rintro fr st ⟨rfl,rfl⟩
 refine bc (λ fr st=>s.guard.allB F=true∧fr=%[.o,dn t,.o,.ref Z.length 0,.o,.ref (Z.length+1) 0,.o,dn s.set.length,db (s.kind==4)|D7 (D7 (D7 (D6 (D5 [.o,.o,.o]))))]∧st=Z++[bN p,gS s]) ?_ ?_
 ·simp only[go_sem,ac]
  refine bH (ov s.guard hsm.guard hg _ _ ?_)
  simp only[go_sem,ac]
  exact⟨λ q=>aQ hbd (h false (Au λ kk=>by rw[(mS kk).1]at q;exact Bool.noConfusion q)),λ q=>Wk.mask [1,3,5,7,8] ⟨by simpa using q,rfl,rfl⟩⟩
 rintro fr st ⟨hgF,rfl,rfl⟩
 refine bc (λ fr st=>(∀i,i<s.set.length→((0<i∨s.kind≠2)→(s.set.getD i dt).to.allB F=true)∧((p.cell (s.set.getD i dt).cell).thread=t∨(p.cell (s.set.getD i dt).cell).thread= -1))∧fr=%[.o,dn t,.o,.ref Z.length 0,.o,.ref (Z.length+1) 0,.o,dn s.set.length,db (s.kind==4)|D7 (D7 (D7 (D6 (D5 [.o,.o,.o]))))]∧((0<s.set.length∧st=Z++[bN p,gS s])∨(s.set=[]∧st=Z++[bN p,stpB s]))) ?_ ?_
 ·simp only[go_sem,ac]
  refine aS (λ m fr st=>∃j:Nat,j≤s.set.length∧m=s.set.length - j∧(∀i,i<j→((0<i∨s.kind≠2)→(s.set.getD i dt).to.allB F=true)∧((p.cell (s.set.getD i dt).cell).thread=t∨(p.cell (s.set.getD i dt).cell).thread= -1))∧fr=%[.o,dn t,.o,.ref Z.length 0,.o,.ref (Z.length+1) 0,.o,dn s.set.length,db (s.kind==4),dn j|D7 (D7 (D7 (D6 (D5 [.o,.o]))))]∧st=Z++[bN p,gS s]) s.set.length _ (Wk.mask [1,3,5,7,8,9] ⟨0,by omega,by omega,λ i hi=>absurd hi (by omega),rfl,rfl⟩) ?_
  rintro m fr st ⟨j,hj,hm,hall,rfl,rfl⟩
  rcases aC j s.set.length with hlt|hge
  ·have hd:decide ((j:Int)<(s.set.length:Int))=true:=by simp only[av];omega
   have w2:=bC j (by omega)
   obtain⟨a,ha⟩:∃a,s.set.getD j dt=a:=⟨_,rfl⟩
   have ham:a∈s.set:=by rw[←ha];exact bT dt hlt
   have hao:=hset a ham
   have har:=cS.1 hao.cell
   have g1:List.getD (s.set.map dM) j default=dM a:=by rw[iP hlt,ha]
   simp only[go_sem,hd,ac]
   refine bb (.tk 17 0<| .pure 17<| .tk 2 18<| .done) (by kernel_rfl) ?_
   simp only[go_sem,g1,dM,ac,ad]
   refine⟨λ q=>⟨q,by omega,by omega⟩,Go.Ab.exQ (.bool (a.to.allB F)) ⟨λ hg=> ?_,?_⟩⟩
   ·simp only[go_sem]
    exact⟨hg,λ Z'=>bH (ov a.to (hsm.to a ham) hao.to _ _ ⟨rfl,rfl⟩)⟩
   simp only[go_sem,g1,dM,ac,ad]
   refine⟨λ q=>aQ hbd (h false (Au λ kk=>to_not q (by have:=((mS kk).2 j hlt).1;rwa [ha]at this))),λ q1=>⟨⟨by omega,by omega⟩,bH (ow a.cell har _ _ ?_)⟩⟩
   simp only[go_sem,g1,dM,w2,ac,ad]
   refine gO (.bool ((p.cell a.cell).thread== -1)) ⟨λ hg=> ?_,?_⟩
   ·simp only[go_sem]
    exact⟨hg,bH (shd a.cell har _ _ ⟨rfl,rfl⟩)⟩
   simp only[go_sem,g1,dM,w2,ac,ad]
   refine⟨λ q=>aQ hbd (h false (Au λ kk=>own_not q (by have:=((mS kk).2 j hlt).2;rwa [ha]at this))),λ q2=>Wk.mask [1,3,5,7,8,9] ⟨s.set.length - (j+1),by omega,j+1,by omega,rfl,λ i hi=> ?_,rfl,rfl⟩⟩
   rcases aC i j with h1|h1
   ·exact hall i h1
   ·obtain rfl:i=j:=by omega
    rw[ha]
    refine⟨λ hq=> ?_,?_⟩
    ·simp only[dw,bA,ay,bne_eq_false_iff_eq,cF]at q1
     rcases q1 with q1|q1
     ·rcases hq with hq|hq
      ·exact absurd (by omega) q1.1
      ·exact absurd q1.2 hq
     ·exact q1
    ·simp only[dw,cF,cg]at q2
     exact q2
  ·have hd:decide ((j:Int)<(s.set.length:Int))=false:=by simp only[ay];omega
   obtain rfl:j=s.set.length:=by omega
   simp only[go_sem,hd,ac]
   rcases cv s.set.length with h0|h0
   ·refine Wk.via (bw.blur (G:=G) (n0:=Z.length) (id:=Z.length+1) (cs:=[.d (iD s.kind),.d (iD s.src),.d (iD s.dst),.d (iD s.guard.op),.d (iD s.guard.w),.d (iD s.guard.n),.d (.sl 4 (s.guard.kids.map Ex.d)),.d (.sl 5 (s.set.map dM)),.d (.bool s.rel),.d (iD s.target),.d (iD s.mod)]) (cs':=[.d (iD s.kind),.d (iD s.src),.d (iD s.dst),.d (iD s.guard.op),.d (iD s.guard.w),.d (iD s.guard.n),.d (.sl 4 (s.guard.kids.map Ex.d)),.o,.d (.bool s.rel),.d (iD s.target),.d (iD s.mod)]) (by simp) rfl λ i x hx=> ?_) ?_
    ·match i,hx with
     |0,hx|1,hx|2,hx|3,hx|4,hx|5,hx|6,hx|8,hx|9,hx|10,hx=>exact .inr hx
     |7,hx=>exact .inl (by simpa using hx.symm)
     |i+11,hx=>simp at hx
    exact Wk.mask [1,3,5,7,8] ⟨hall,rfl,.inr ⟨cM.1 h0,by simp⟩⟩
   ·exact Wk.mask [1,3,5,7,8] ⟨hall,rfl,.inl ⟨h0,rfl⟩⟩
 rintro fr st ⟨hall,rfl,hst⟩
 have hks:s.kind=1∨s.kind=2∨s.kind=3∨s.kind=4∨s.kind=5∨s.kind=6∨s.kind=7:=by omega
 rcases hst with⟨h0,rfl⟩|⟨hnil,rfl⟩
 ·have e0:((s.set.length:Int)==0)=false:=by simp only[ck];omega
  have d0:decide (0<(s.set.length:Int))=true:=by simp only[av];omega
  obtain⟨a0,ha0⟩:∃a,s.set.getD 0 dt=a:=⟨_,rfl⟩
  have ham0:a0∈s.set:=by rw[←ha0];exact bT dt h0
  have hao0:=hset a0 ham0
  have har0:=cS.1 hao0.cell
  have g0:List.getD (s.set.map dM) 0 default=dM a0:=by rw[iP h0,ha0]
  have tz:Int.toNat 0=0:=rfl
  rcases hks with k|k|k|k|k|k|k
  ·have hF1:p.owB t=F:=by rw[←hF,k];exact(if_neg (by decide)).symm
   simp only[go_sem,k,Int.reduceBEq]
   refine aS (λ m fr st=>∃j:Nat,j≤s.set.length∧m=s.set.length - j∧(∀i,i<j→(p.cell (s.set.getD i dt).cell).thread=t)∧fr=%[.o,dn t,.o,.ref Z.length 0,.o,.ref (Z.length+1) 0,.o,dn s.set.length,.o,.o,.o,dn j|D7 (D7 (D7 (D6 (D5 []))))]∧st=Z++[bN p,gS s]) s.set.length _ (Wk.mask [1,3,5,7,11] ⟨0,by omega,by omega,λ i hi=>absurd hi (by omega),rfl,rfl⟩) ?_
   rintro m fr st ⟨j,hj,hm,hown,rfl,rfl⟩
   rcases aC j s.set.length with hlt|hge
   ·have hd:decide ((j:Int)<(s.set.length:Int))=true:=by simp only[av];omega
    have w2:=bC j (by omega)
    obtain⟨a,ha⟩:∃a,s.set.getD j dt=a:=⟨_,rfl⟩
    have ham:a∈s.set:=by rw[←ha];exact bT dt hlt
    have har:=cS.1 (hset a ham).cell
    have g1:List.getD (s.set.map dM) j default=dM a:=by rw[iP hlt,ha]
    simp only[go_sem,hd,ac]
    refine bb (.tk 8 0<| .pure 8<| .take 9<| .done) (by kernel_rfl) ?_
    simp only[go_sem,g1,dM,w2,ac,ad]
    refine⟨⟨by omega,by omega⟩,Go.Ab.mN (db ((p.cell a.cell).thread==t)) ⟨λ Z'=>bH (ow a.cell har _ _ ⟨rfl,rfl⟩),?_⟩⟩
    simp only[go_sem,g1,dM,w2,ac,ad]
    refine⟨λ q=>aQ hbd (h false (Au λ kk=>eq_not q (gB.1 (kindOk1 k kk a ham)).2)),λ q=>Wk.mask [1,3,5,7,11] ⟨s.set.length - (j+1),by omega,j+1,by omega,rfl,λ i hi=> ?_,rfl,rfl⟩⟩
    rcases aC i j with h1|h1
    ·exact hown i h1
    ·obtain rfl:i=j:=by omega
     rw[ha];simpa using q
   ·have hd:decide ((j:Int)<(s.set.length:Int))=false:=by simp only[ay];omega
    obtain rfl:j=s.set.length:=by omega
    simp only[go_sem,hd,ac]
    refine aQ hbd (h true<|Av<| .inl ⟨k,by rw[hF1];exact hgF,pz dt λ i hi=>⟨?_,?_⟩⟩)
    ·rw[hF1];exact(hall i hi).1 (.inr (by omega))
    ·exact gB.2 ⟨cS.1 (hset _ (bT dt hi)).cell,hown i hi⟩
  ·have hF1:p.owB t=F:=by rw[←hF,k];exact(if_neg (by decide)).symm
   simp only[go_sem,k,Int.reduceBEq]
   refine bb (.tk 25 0<| .done) (by kernel_rfl) ?_
   simp only[aY,go_sem,e0,tz,g0,dM,fZ p har0,fb,ac,ad]
   refine⟨⟨by omega,by omega⟩,gO (.bool ((p.cell a0.cell).thread==t)) ⟨λ hg=> ?_,?_⟩⟩
   ·simp only[go_sem]
    exact bH (ow a0.cell har0 _ _ ⟨rfl,rfl⟩)
   simp only[aY,go_sem,e0,tz,g0,dM,fZ p har0,fb,ac,ad]
   refine⟨λ q=>⟨q,by omega,by omega⟩,λ q=>⟨q,har0⟩,λ q=>by simpa using q,λ q=>aQ hbd (h false (Au λ kk=>by obtain⟨_,o1,o2,_⟩:=om k kk;rw[ha0]at o1 o2;exact xI q (gB.1 o1).2 o2)),λ q1=>⟨⟨by omega,by omega⟩,?_⟩⟩
   have e2:(a0.to.op !=2)= !(a0.to.op==2):=rfl
   cases ho:(a0.to.op==2)with
   |false=>
    refine gO (.bool false) ⟨λ hg=> ?_,?_⟩
    ·simp only[bne,ho]at hg
     exact Bool.noConfusion hg
    simp only[aY,go_sem,e2,ho,ac,ad]
    exact aQ hbd (h false (Au λ kk=>by have:=(om k kk).2.2.2.1;rw[ha0]at this;rw[this]at ho;exact absurd ho (by decide)))
   |true=>
    have hnr:=leaf_rng hao0.to (cg.1 ho)
    refine gO (.bool ((p.cell a0.to.n).thread== -1)) ⟨λ hg=> ?_,?_⟩
    ·simp only[go_sem]
     exact⟨hg,bH (shd a0.to.n hnr _ _ ⟨rfl,rfl⟩)⟩
    simp only[aY,go_sem,e2,ho,fZ p hnr,fb,ac,ad]
    refine⟨λ q=>⟨q,hnr⟩,λ q=>by simpa using q,λ q=>aQ hbd (h false (Au λ kk=>by obtain⟨_,_,_,_,o1,o2,_⟩:=om k kk;rw[ha0]at o1 o2;exact xI q (eJ.1 o1).2 o2)),λ q2=> ?_⟩
    refine aS (λ m fr st=>∃j:Nat,0<j∧j≤s.set.length∧m=s.set.length - j∧(∀i,0<i→i<j→(p.cell (s.set.getD i dt).cell).thread=t∧(p.cell (s.set.getD i dt).cell).ghost=true)∧fr=%[.o,dn t,.o,.ref Z.length 0,.o,.ref (Z.length+1) 0,.o,dn s.set.length,.o,.o,.o,.o,.o,dn j|D7 (D7 (D7 (D6 (D4 [.o,.o,.o,.o,.o,.o]))))]∧st=Z++[bN p,gS s]) (s.set.length - 1) _ (Wk.keep [1,3,5,7,13] [0,1] (by decide) (aE _) hbd ⟨1,by omega,by omega,by omega,λ i hi hi2=>absurd hi (by omega),by simp only[go_sem];rfl,by simp only[go_sem]⟩) ?_
    rintro m fr st ⟨j,hj0,hj,hm,hgh,rfl,rfl⟩
    rcases aC j s.set.length with hlt|hge
    ·have hd:decide ((j:Int)<(s.set.length:Int))=true:=by simp only[av];omega
     have w2:=bC j (by omega)
     obtain⟨a,ha⟩:∃a,s.set.getD j dt=a:=⟨_,rfl⟩
     have ham:a∈s.set:=by rw[←ha];exact bT dt hlt
     have har:=cS.1 (hset a ham).cell
     have g1:List.getD (s.set.map dM) j default=dM a:=by rw[iP hlt,ha]
     simp only[aY,go_sem,hd,ac]
     refine bb (.tk 8 0<| .pure 8<| .tk 15 9<| .done) (by kernel_rfl) ?_
     simp only[aY,go_sem,g1,dM,w2,fZ p har,fb,ac,ad]
     refine⟨⟨by omega,by omega⟩,Go.Ab.mN (db ((p.cell a.cell).thread==t)) ⟨λ Z'=>bH (ow a.cell har _ _ ⟨rfl,rfl⟩),?_⟩⟩
     simp only[aY,go_sem,g1,dM,w2,fZ p har,fb,ac,ad]
     refine⟨λ q=>⟨q,by omega,by omega⟩,λ q=>⟨q,har⟩,λ q=>by simpa using q,λ q=>aQ hbd (h false (Au λ kk=>by obtain⟨g1,g2,_⟩:=(om k kk).2.2.2.2.2.2 j hj0 hlt;rw[ha]at g1 g2;exact xI q (gB.1 g1).2 (by rw[g2];rfl))),λ q3=>Wk.mask [1,3,5,7,13] ⟨s.set.length - (j+1),by omega,j+1,by omega,by omega,rfl,λ i hi0 hi=> ?_,rfl,rfl⟩⟩
     rcases aC i j with h1|h1
     ·exact hgh i hi0 h1
     ·obtain rfl:i=j:=by omega
      rw[ha];simpa using q3
    ·have hd:decide ((j:Int)<(s.set.length:Int))=false:=by simp only[ay];omega
     obtain rfl:j=s.set.length:=by omega
     simp only[go_sem,hd,ac]
     refine aQ hbd (h true<|Av<| .inr (.inl ⟨k,by rw[hF1];exact hgF,a0,s.set.tail,by rw[←ha0];exact wu dt h0,?_⟩))
     simp only[bA,cF,cg]at q1 q2
     refine⟨gB.2 ⟨har0,q1.1⟩,q1.2,cg.1 ho,eJ.2 ⟨hnr,q2.1⟩,q2.2,r7 dt λ i hi0 hi=> ?_⟩
     have hr:=cS.1 (hset _ (bT dt hi)).cell
     obtain⟨g1,g2⟩:=hgh i hi0 hi
     exact⟨gB.2 ⟨hr,g1⟩,g2,by rw[hF1];exact(hall i hi).1 (.inl hi0)⟩
  ·have hF1:p.owB t=F:=by rw[←hF,k];exact(if_neg (by decide)).symm
   simp only[go_sem,k,Int.reduceBEq]
   refine bb (.tk 9 0<| .pure 9<| .tk 14 10<| .done) (by kernel_rfl) ?_
   simp only[aY,go_sem,e0,tz,g0,dM,fZ p har0,fb,ac,ad]
   refine⟨⟨by omega,by omega⟩,Go.Ab.exQ (.bool ((p.cell a0.cell).thread== -1)) ⟨λ hg=> ?_,?_⟩⟩
   ·simp only[go_sem]
    exactλ Z'=>bH (shd a0.cell har0 _ _ ⟨rfl,rfl⟩)
   simp only[aY,go_sem,e0,tz,g0,dM,fZ p har0,fb,ac,ad]
   refine⟨λ q=>⟨q,by omega,by omega⟩,λ q=>⟨q,har0⟩,λ q=>by simpa using q,λ q=>aQ hbd (h false (Au λ kk=>by obtain⟨_,o1,o2,_⟩:=sL k kk;rw[ha0]at o1 o2;exact xI q (eJ.1 o1).2 o2)),λ q1=> ?_⟩
   refine aS (λ m fr st=>∃j:Nat,0<j∧j≤s.set.length∧m=s.set.length - j∧(∀i,0<i→i<j→(p.cell (s.set.getD i dt).cell).ghost=true)∧fr=%[.o,dn t,.o,.ref Z.length 0,.o,.ref (Z.length+1) 0,.o,dn s.set.length,.o,.o,.o,.o,.o,.o,dn j|D7 (D7 (D7 (D6 (D4 [.o,.o,.o,.o,.o]))))]∧st=Z++[bN p,gS s]) (s.set.length - 1) _ (Wk.mask [1,3,5,7,14] ⟨1,by omega,by omega,by omega,λ i hi hi2=>absurd hi (by omega),rfl,rfl⟩) ?_
   rintro m fr st ⟨j,hj0,hj,hm,hgh,rfl,rfl⟩
   rcases aC j s.set.length with hlt|hge
   ·have hd:decide ((j:Int)<(s.set.length:Int))=true:=by simp only[av];omega
    have w2:=bC j (by omega)
    obtain⟨a,ha⟩:∃a,s.set.getD j dt=a:=⟨_,rfl⟩
    have ham:a∈s.set:=by rw[←ha];exact bT dt hlt
    have har:=cS.1 (hset a ham).cell
    have g1:List.getD (s.set.map dM) j default=dM a:=by rw[iP hlt,ha]
    simp only[aY,go_sem,hd,ac]
    refine bb (.tk 12 0<| .done) (by kernel_rfl) ?_
    simp only[aY,go_sem,g1,dM,w2,fZ p har,fb,ac,ad]
    refine⟨⟨by omega,by omega⟩,har,λ q=>aQ hbd (h false (Au λ kk=>by obtain⟨g1,_⟩:=(sL k kk).2.2.2 j hj0 hlt;rw[ha]at g1;rw[g1]at q;exact Bool.noConfusion q)),λ q2=>Wk.mask [1,3,5,7,14] ⟨s.set.length - (j+1),by omega,j+1,by omega,by omega,rfl,λ i hi0 hi=> ?_,rfl,rfl⟩⟩
    rcases aC i j with h1|h1
    ·exact hgh i hi0 h1
    ·obtain rfl:i=j:=by omega
     rw[ha];simpa using q2
   ·have hd:decide ((j:Int)<(s.set.length:Int))=false:=by simp only[ay];omega
    obtain rfl:j=s.set.length:=by omega
    simp only[go_sem,hd,ac]
    simp only[bA,cF,cg]at q1
    refine aQ hbd (h true<|Av<| .inr (.inr (.inl ⟨k,by rw[hF1];exact hgF,pz dt λ i hi=>by rw[hF1];exact(hall i hi).1 (.inr (by omega)),a0,s.set.tail,by rw[←ha0];exact wu dt h0,eJ.2 ⟨har0,q1.1⟩,q1.2,r7 dt λ i hi0 hi=>⟨hgh i hi0 hi,?_⟩⟩)))
    exact jT.2 ⟨cS.1 (hset _ (bT dt hi)).cell,(hall i hi).2.symm⟩
  ·have hF1:p.viB t=F:=by rw[←hF,k];rfl
   simp only[go_sem,k,Int.reduceBEq]
   refine aQ hbd (h true<|Av<| .inr (.inr (.inr (.inl ⟨k,by rw[hF1];exact hgF,pz dt λ i hi=>⟨?_,?_⟩⟩))))
   ·rw[hF1];exact(hall i hi).1 (.inr (by omega))
   ·exact jT.2 ⟨cS.1 (hset _ (bT dt hi)).cell,(hall i hi).2.symm⟩
  all_goals (
   simp only[go_sem,k,Int.reduceBEq]
   refine bb (.tk 3 0<| .pure 5<| .tk 2 3<| .pure 6<| .tk 2 7<| .done) (by kernel_rfl) ?_
   simp only[go_sem,d0,ac,ad]
   refine Go.Ab.exQ (.bool false) ⟨λ q=>Bool.noConfusion q,?_⟩
   simp only[go_sem,d0,ac,ad]
   refine Go.Ab.exQ (.bool false) ⟨λ q=>Bool.noConfusion q,?_⟩
   simp only[go_sem,d0,ac,ad]
   exact aQ hbd (h false (Au λ kk=>by rw[(Ch (by omega) kk).2]at h0;simp at h0)))
 ·have e0:(((0:Nat):Int)==0)=true:=rfl
  have d0:decide (0<((0:Nat):Int))=false:=rfl
  have d1:decide (((0:Nat):Int)<((0:Nat):Int))=false:=rfl
  have d2:decide ((0:Int)<((0:Nat):Int))=false:=rfl
  have d3:decide ((0:Int)<0)=false:=rfl
  have e3:((0:Int)==0)=true:=rfl
  rw[hnil]
  rcases hks with k|k|k|k|k|k|k
  ·have hF1:p.owB t=F:=by rw[←hF,k];exact(if_neg (by decide)).symm
   simp only[go_sem,k,aj,Int.reduceBEq]
   refine aS (λ m fr st=>fr=%[.o,.o,.o,.o,.o,.o,.o,di 0,.o,.o,.o,di 0|D7 (D7 (D7 (D6 (D5 []))))]∧st=Z++[bN p,stpB s]) 0 _ (Wk.mask [7,11] ⟨rfl,rfl⟩) ?_
   rintro m fr st ⟨rfl,rfl⟩
   simp only[go_sem,aj,d1,d2,d3]
   refine aQ hbd (h true<|Av<| .inl ⟨k,by rw[hF1];exact hgF,λ a ha=> ?_⟩)
   rw[hnil]at ha;cases ha
  ·simp only[go_sem,k,aj,Int.reduceBEq]
   refine bb (.tk 25 0<| .done) (by kernel_rfl) ?_
   simp only[aY,go_sem,e0,e3,ac,ad]
   refine gO (.bool false) ⟨λ q=>Bool.noConfusion q,?_⟩
   simp only[aY,go_sem,e0,e3,ac,ad]
   exact aQ hbd (h false (Au λ kk=>by have:=(om k kk).1;rw[hnil]at this;simp at this))
  ·simp only[go_sem,k,aj,Int.reduceBEq]
   refine bb (.tk 9 0<| .pure 9<| .tk 14 10<| .done) (by kernel_rfl) ?_
   simp only[aY,go_sem,e0,e3,ac,ad]
   refine Go.Ab.exQ (.bool false) ⟨λ q=>Bool.noConfusion q,?_⟩
   simp only[aY,go_sem,e0,e3,ac,ad]
   exact aQ hbd (h false (Au λ kk=>by have:=(sL k kk).1;rw[hnil]at this;simp at this))
  ·have hF1:p.viB t=F:=by rw[←hF,k];rfl
   simp only[go_sem,k,aj,Int.reduceBEq]
   refine aQ hbd (h true<|Av<| .inr (.inr (.inr (.inl ⟨k,by rw[hF1];exact hgF,λ a ha=> ?_⟩))))
   rw[hnil]at ha;cases ha
  all_goals (
   simp only[go_sem,k,aj,Int.reduceBEq]
   refine bb (.tk 3 0<| .pure 5<| .tk 2 3<| .pure 6<| .tk 2 7<| .done) (by kernel_rfl) ?_
   simp only[go_sem,d0,d2,d3,ac,ad]
   refine Go.Ab.exQ (.agg [iD 1,iD 1,iD 1,.sl 4 []]) ⟨λ hg=> ?_,?_⟩
   ·simp only[go_sem]
    exactλ Z'=>bH (one_ac _ _ _ ⟨rfl,rfl⟩)
   simp only[go_sem,d0,d2,d3,ac,ad]
   refine Go.Ab.exQ (.bool s.guard.one) ⟨λ hg=> ?_,?_⟩
   ·simp only[go_sem]
    exactλ Z'=>bH (AP _ (by have:=xx s.guard;have:=hsm.guard;simp [reachBytes];omega) _ _ _ ⟨rfl,rfl⟩)
   simp only[go_sem,k,d0,d2,d3,Int.reduceBEq,ac,ad]
   refine⟨λ q=>aQ hbd (h false (Au λ kk=>by rw[(Ch (by omega) kk).1]at q;exact Bool.noConfusion q)),λ q1=> ?_⟩)
  ·exact aQ hbd (h true<|Av<| .inr (.inr (.inr (.inr (.inl ⟨k,by simpa using q1,hnil⟩)))))
  ·refine bH (k8 _ _ _ _ _ ?_)
   cases hin:kj s.target (p.threads.length:Int)with
   |false=>
    simp only[go_sem,k,hin,d3,Int.reduceBEq,ac,ad]
    exact aQ hbd (h false (Au λ kk=>by rw[(Cg k kk).1]at hin;exact Bool.noConfusion hin))
   |true=>
    have htr:=cS.1 hin
    have g2:List.getD (p.threads.map c8) s.target.toNat default=c8 (p.threads.getD s.target.toNat fg):=fe (by omega)
    simp only[go_sem,k,hin,d3,g2,c8,Int.reduceBEq,ac,ad]
    refine⟨λ q=>⟨q,htr⟩,aQ hbd (h _ ⟨λ q=> ?_,λ kk=>by obtain⟨_,g1,g2⟩:=Cg k kk;rw[g2,dJ];exact bne_iff_ne.2 g1⟩)⟩
    simp only[aB,bne_iff_ne]at q
    exact .inr (.inr (.inr (.inr (.inr (.inl ⟨k,by simpa using q1,hnil,hin,q.1,q.2⟩)))))
  ·refine bH (k8 _ _ _ _ _ ?_)
   cases hin:kj s.target (p.threads.length:Int)with
   |false=>
    simp only[go_sem,k,hin,d3,Int.reduceBEq,ac,ad]
    exact aQ hbd (h false (Au λ kk=>by rw[(Cf k kk).1]at hin;exact Bool.noConfusion hin))
   |true=>
    have htr:=cS.1 hin
    have g2:List.getD (p.threads.map c8) s.target.toNat default=c8 (p.threads.getD s.target.toNat fg):=fe (by omega)
    simp only[go_sem,k,hin,d3,g2,c8,Int.reduceBEq,ac,ad]
    refine aQ hbd (h _ ⟨λ q=> ?_,λ kk=>bne_iff_ne.2 (Cf k kk).2⟩)
    simp only[bne_iff_ne]at q
    exact .inr (.inr (.inr (.inr (.inr (.inr ⟨k,by simpa using q1,hnil,hin,q⟩)))))
theorem kind_rng{p:Prg}{t:Int}{s:Stp}(h:jR p t s):1≤s.kind∧s.kind≤7:=by
 rcases h with h|h|h|h|h|h|h<;> (have:=h.1;omega)
theorem ym{s:Stp}{n m:Int}{am:Bool}(ham:(s.kind==6||s.kind==7)=am):(decide (s.kind<1)||decide (7<s.kind)|| !kj s.src (n - 1)|| !kj s.dst n|| !kj s.mod m||s.rel&&s.kind !=3||s.target !=0&& !am)=false↔
  ((1≤s.kind∧s.kind≤7)∧(0≤s.src∧s.src<n - 1)∧(0≤s.dst∧s.dst<n)∧(0≤s.mod∧s.mod<m)∧(s.rel=true→s.kind=3)∧(s.target≠0→s.kind=6∨s.kind=7)):=by
 subst ham
 simp only[bA,dw,cF,ay,bne_eq_false_iff_eq,cS,cd,cg]
 constructor
 ·rintro⟨⟨⟨⟨⟨⟨q1,q2⟩,q3⟩,q4⟩,q5⟩,q6⟩,q7⟩
  refine⟨by omega,q3,q4,q5,λ r=> ?_,λ r=> ?_⟩
  ·rcases q6 with q6|q6
   ·rw[r]at q6;exact Bool.noConfusion q6
   ·exact q6
  ·rcases q7 with q7|q7
   ·exact absurd q7 r
   ·exact q7
 ·rintro⟨q1,q2,q3,q4,q5,q6⟩
  refine⟨⟨⟨⟨⟨⟨by omega,by omega⟩,q2⟩,q3⟩,q4⟩,?_⟩,?_⟩
  ·cases hr:s.rel with
   |false=>exact .inl rfl
   |true=>exact .inr (q5 hr)
  ·by_cases ht:s.target=0
   ·exact .inl ht
   ·exact .inr (q6 ht)
theorem step_r(p:Prg)(hs:p.Small)(hc:lL p)(t:Nat)(ht:t<p.threads.length)(hpt:1≤(p.thr t).points∧(p.thr t).points≤8)(s:Stp)(hsm:StpSm s)(Z:St)(G:Glob)(R:A→St→Prop)(h:∀c:Int,(c=0↔StpOk p t (p.thr t).points s)→R (di c) Z):AC Tryz.prog G 107 [.d (bK p),dn t,.d (eP s)] Z R:=by
 have hn:=hs.ncel
 have hsn:=hsm.set
 have hk2:∀(hset:∀a∈s.set,AsgOk p a) (hg:s.guard.valid p.cells false=true) (hk:1≤s.kind∧s.kind≤7) (Z:St) (R:A→St→Prop),(∀b:Bool,(b=true↔jR p t s)→R (db b) Z)→AC Tryz.prog G 139 [.d (bK p),dn t,.d (eP s)] Z R:=λ hset hg hk Z R hR=>kind_r p hs hc t s hsm hset hg hk Z G R hR
 have rv:∀(e:Ex),e.nodes≤40→∀(Z:St) (R:A→St→Prop),R (db (e.valid p.cells false)) Z→AC Tryz.prog G 108 [.d (eD e),.d (aY p.cells),db false] Z R:=λ e he Z R hR=>by
  have:=qS e (lF he) p.cells (by simp [reachBytes];omega) false Z G R hR
  rw[ed]at this
  exact this
 obtain⟨n,hnn⟩:∃n,(p.thr t).points=n:=⟨_,rfl⟩
 rw[hnn]at hpt h
 have gt:List.getD (p.threads.map c8) t default=c8 (p.thr t):=fe ht
 have wn:IntKind.i64.wrap (n - 1)=n - 1:=cq _ (by omega) (by omega)
 unfold bK eP at*
 unfold eD at rv
 refine bD [3,5,7,20,11,13,18] a9 Tryz.func107 rfl Tryz.ntmps107 (by simp only[go_sem]) λ hbd=> ?_
 simp only[ae,aj,Nat.reduceAdd,Nat.reduceSub,af,ag,ah,ak]
 simp only[go_sem,gt,c8,hnn,ac,ad]
 refine⟨⟨by omega,by omega⟩,?_⟩
 obtain⟨am,ham⟩:∃am,(s.kind==6||s.kind==7)=am:=⟨_,rfl⟩
 refine bc (λ fr st=>fr=%[.o,dn t,.o,.ref Z.length 0,.o,.ref (Z.length+1) 0,.o,di n,db am|D7 (D7 (D4 [.o,.o,.o,.o,.o,.o]))]∧st=Z++[bN p,gS s]) ?_ ?_
 ·simp only[go_sem,ac,ad]
  rw[ham]
  exact Wk.mask [1,3,5,7,8] ⟨rfl,rfl⟩
 rintro fr st ⟨rfl,rfl⟩
 refine bc (λ fr st=>((1≤s.kind∧s.kind≤7)∧(0≤s.src∧s.src<n - 1)∧(0≤s.dst∧s.dst<n)∧(0≤s.mod∧s.mod<p.modules.length)∧(s.rel=true→s.kind=3)∧(s.target≠0→s.kind=6∨s.kind=7))∧fr=%[.o,dn t,.o,.ref Z.length 0,.o,.ref (Z.length+1) 0,.o,di n,db am|D7 (D7 (D4 [.o,.o,.o,.o,.o,.o]))]∧st=Z++[bN p,gS s]) ?_ ?_
 ·simp only[go_sem,wn,ac,ad]
  refine gO (.bool (kj s.src (n - 1))) ⟨λ hg=> ?_,?_⟩
  ·simp only[go_sem]
   exact⟨hg,bH (k8 _ _ _ _ _ ⟨by rw[wn],rfl⟩)⟩
  simp only[go_sem,ac,ad]
  refine gO (.bool (kj s.dst n)) ⟨λ hg=> ?_,?_⟩
  ·simp only[go_sem]
   exact⟨hg,bH (k8 _ _ _ _ _ ⟨rfl,rfl⟩)⟩
  simp only[go_sem,ac,ad]
  refine gO (.bool (kj s.mod p.modules.length)) ⟨λ hg=> ?_,?_⟩
  ·simp only[go_sem]
   exact⟨hg,bH (k8 _ _ _ _ _ ⟨by rw[ac],rfl⟩)⟩
  simp only[go_sem,ac,ad]
  refine⟨λ q=>⟨q,λ r=>by rw[q,r];rfl⟩,λ q=>⟨q,λ r=>by rw[q,r];rfl⟩,λ q=>aQ hbd (h 70 (eN (by decide) λ k=> ?_)),λ q=>Wk.mask [1,3,5,7,8] ⟨(ym ham).1 q,rfl,rfl⟩⟩
  rw[(ym ham).2 ⟨kind_rng k.kind,k.src,k.dst,k.mod,k.rel,k.target⟩]at q
  exact Bool.noConfusion q
 rintro fr st ⟨hf,rfl,rfl⟩
 refine bc (λ fr st=>(s.guard.valid p.cells false=true∧s.guard.w=1)∧fr=%[.o,dn t,.o,.ref Z.length 0,.o,.ref (Z.length+1) 0|D7 (D7 (D5 [.o]))]∧st=Z++[bN p,gS s]) ?_ ?_
 ·simp only[go_sem,ac,ad]
  refine bH (rv s.guard hsm.guard _ _ ?_)
  simp only[go_sem,ac,ad]
  refine⟨λ q=>by simpa using q,λ q=>aQ hbd (h 60 (eN (by decide) λ k=>by rw[k.guard,k.gw]at q;exact absurd q (by decide))),λ q=>Wk.mask [1,3,5] ⟨?_,rfl,rfl⟩⟩
  simpa using q
 rintro fr st ⟨hg,rfl,rfl⟩
 refine bc (λ fr st=>((∀a∈s.set,AsgOk p a)∧(s.set.map Asg.cell).Nodup)∧fr=%[.o,dn t,.o,.ref Z.length 0,.o,.ref (Z.length+1) 0|D7 (D7 (D5 [.o]))]∧st=Z++[bN p,gS s]) ?_ ?_
 ·simp only[go_sem,ac,ad]
  refine aS (λ m fr st=>∃j:Nat,j≤s.set.length∧m=s.set.length - j∧(∀a∈s.set.take j,AsgOk p a)∧((s.set.take j).map Asg.cell).Nodup∧fr=%[.o,dn t,.o,.ref Z.length 0,.o,.ref (Z.length+1) 0,.o,.o,.o,dn j|D7 (D7 (D4 [.o,.o,.o,.o,.o]))]∧st=Z++[bN p,gS s]) s.set.length _ (Wk.mask [1,3,5,9] ⟨0,by omega,by omega,by simp,by simp,rfl,rfl⟩) ?_
  rintro m fr st ⟨j,hj,hm,hall,hnd,rfl,rfl⟩
  rcases aC j s.set.length with hlt|hge
  ·have hd:decide ((j:Int)<(s.set.length:Int))=true:=by simp only[av];omega
   have w2:=bC j (by omega)
   obtain⟨a,ha⟩:∃a,s.set.getD j dt=a:=⟨_,rfl⟩
   have ham2:a∈s.set:=by rw[←ha];exact bT dt hlt
   have g1:List.getD (s.set.map dM) j default=dM a:=by rw[iP hlt,ha]
   simp only[go_sem,hd,ac,ad]
   refine bc (λ fr st=>fr=%[.o,dn t,.o,.ref Z.length 0,.o,.ref (Z.length+1) 0,.o,.o,.o,dn j,di a.cell|D7 (D7 (D4 [.o,.o,.o,.o]))]∧st=Z++[bN p,gS s]) ?_ ?_
   ·simp only[go_sem,hd,g1,dM,ac,ad]
    exact⟨⟨by omega,by omega⟩,Wk.mask [1,3,5,9,10] ⟨rfl,rfl⟩⟩
   rintro fr st ⟨rfl,rfl⟩
   refine bc (λ fr st=>(0≤a.cell∧a.cell<p.cells.length)∧fr=%[.o,dn t,.o,.ref Z.length 0,.o,.ref (Z.length+1) 0,.o,.o,.o,dn j,di a.cell|D7 (D7 (D4 [.o,.o,.o,.o]))]∧st=Z++[bN p,gS s]) ?_ ?_
   ·simp only[aY,go_sem,ac,ad]
    refine bH (k8 _ _ _ _ _ ?_)
    simp only[aY,go_sem,ac,ad]
    exact⟨λ q=>aQ hbd (h 70 (eN (by decide) λ k=>by rw[(k.set a ham2).cell]at q;exact Bool.noConfusion q)),λ q=>Wk.mask [1,3,5,9,10] ⟨cS.1 (by simpa using q),rfl,rfl⟩⟩
   rintro fr st ⟨har,rfl,rfl⟩
   refine bc (λ fr st=>(∀i,i<j→(s.set.getD i dt).cell≠a.cell)∧fr=%[.o,dn t,.o,.ref Z.length 0,.o,.ref (Z.length+1) 0,.o,.o,.o,dn j,di a.cell|D7 (D7 (D4 [.o,.o,.o,.o]))]∧st=Z++[bN p,gS s]) ?_ ?_
   ·simp only[go_sem,ac,ad]
    refine aS (λ m fr st=>∃k:Nat,k≤j∧m=j - k∧(∀i,i<k→(s.set.getD i dt).cell≠a.cell)∧fr=%[.o,dn t,.o,.ref Z.length 0,.o,.ref (Z.length+1) 0,.o,.o,.o,dn j,di a.cell,dn k|D7 (D7 (D4 [.o,.o,.o]))]∧st=Z++[bN p,gS s]) j _ (Wk.mask [1,3,5,9,10,11] ⟨0,by omega,by omega,λ i hi=>absurd hi (by omega),rfl,rfl⟩) ?_
    rintro m2 fr st ⟨k,hk,hm2,hne,rfl,rfl⟩
    rcases aC k j with hkl|hkg
    ·have hd2:decide ((k:Int)<(j:Int))=true:=by simp only[av];omega
     have w3:=bC k (by omega)
     have g2:List.getD (s.set.map dM) k default=dM (s.set.getD k dt):=iP (by omega)
     simp only[aY,go_sem,hd2,w3,g2,dM,ac,ad]
     refine⟨⟨by omega,by omega⟩,λ q=>aQ hbd (h 70 (eN (by decide) λ k=>ou (f:=Asg.cell) dt hkl hlt (by rw[ha];simpa using q) k.nodup)),λ q=>Wk.mask [1,3,5,9,10,11] ⟨j - (k+1),by omega,k+1,by omega,rfl,λ i hi=> ?_,rfl,rfl⟩⟩
     rcases aC i k with h1|h1
     ·exact hne i h1
     ·obtain rfl:i=k:=by omega
      simpa using q
    ·have hd2:decide ((k:Int)<(j:Int))=false:=by simp only[ay];omega
     simp only[aY,go_sem,hd2,ac,ad]
     obtain rfl:k=j:=by omega
     exact Wk.mask [1,3,5,9,10] ⟨hne,rfl,rfl⟩
   rintro fr st ⟨hne,rfl,rfl⟩
   simp only[aY,go_sem,ac,ad]
   refine bb (.tk 8 0<| .pure 8<| .tk 17 9<| .done) (by kernel_rfl) ?_
   simp only[aY,go_sem,g1,dM,ac,ad]
   have rva:=rv a.to (hsm.to a ham2)
   unfold aY at rva
   refine⟨⟨by omega,by omega⟩,Go.Ab.mN (db (a.to.valid p.cells false)) ⟨λ Z'=>bH (rva _ _ ⟨rfl,rfl⟩),?_⟩⟩
   simp only[aY,go_sem,g1,dM,w2,fZ p har,fb,ac,ad]
   refine⟨λ q=>⟨q,by omega,by omega⟩,λ q=>⟨q,har⟩,λ q=>by simpa using q,λ q=>aQ hbd (h 60 (eN (by decide) λ k=> ?_)),λ q=> ?_⟩
   ·have ka:=k.set a ham2
    rw[ka.to,ka.w]at q
    simp at q
   ·simp only[bA,cF,bne_eq_false_iff_eq]at q
    exact Wk.mask [1,3,5,9] ⟨s.set.length - (j+1),by omega,j+1,by omega,rfl,fm dt hlt hall (by rw[ha];exact⟨cS.2 har,q.2,q.1⟩),kX dt hlt hnd (by rw[ha];exact hne),rfl,rfl⟩
  ·have hd:decide ((j:Int)<(s.set.length:Int))=false:=by simp only[ay];omega
   obtain rfl:j=s.set.length:=by omega
   simp only[go_sem,hd,ac]
   rw[bB]at hall hnd
   exact Wk.mask [1,3,5] ⟨⟨hall,hnd⟩,rfl,rfl⟩
 rintro fr st ⟨⟨hall,hnd⟩,rfl,rfl⟩
 simp only[go_sem,ac,ad]
 refine bH (hk2 hall hg.1 hf.1 _ _ λ b hb=> ?_)
 simp only[go_sem,ac,ad]
 refine⟨λ q=>aQ hbd (h 70 (eN (by decide) λ k=>by rw[hb.2 k.kind]at q;exact Bool.noConfusion q)),λ q=>aQ hbd (h 0 ⟨λ _=>⟨hf.2.1,hf.2.2.1,hf.2.2.2.1,hf.2.2.2.2.1,hf.2.2.2.2.2,hg.2,hg.1,hall,hnd,hb.1 (by simpa using q)⟩,λ _=>rfl⟩)⟩
abbrev iw(x:Thr):Option Ob:=some (.cells [.d (.str x.name),.d (iD x.points),.d (.sl 4 (x.asserts.map Ex.d)),.d (bu x.mods),.d (.sl 11 (x.steps.map eP)),.d (.sl 6 (x.loops.map pt)),.d (.bool x.asleep)])
abbrev lopO(l:Lop):Option Ob:=some (.cells [.d (iD l.head),.d (bu l.body),.d (iD l.var.op),.d (iD l.var.w),.d (iD l.var.n),.d (.sl 4 (l.var.kids.map Ex.d))])
def xT(p:Prg)(t:Nat):Prop:=ThrOk p t (p.thr t)∧∀k,k<t→(p.thr k).name≠(p.thr t).name
theorem thread_r(p:Prg)(hs:p.Small)(hc:lL p)(hz:∀x∈p.threads,x.name.length≤reachBytes)(t:Nat)(ht:t<p.threads.length)(Z:St)(G:Glob)(R:A→St→Prop)(h:∀c i:Int,(c=0↔xT p t)→R (.tup [di c,di i]) Z):AC Tryz.prog G 67 [.d (bK p),dn t] Z R:=by
 have hn:=hs.ncel
 have hnt:=hs.nthr
 obtain⟨x,hx⟩:∃x,p.thr t=x:=⟨_,rfl⟩
 have hxm:x∈p.threads:=by rw[←hx];exact bT fg ht
 have sx:=hs.threads x hxm
 have l1:=sx.nas
 have l2:=sx.nmo
 have l3:=sx.nst
 have l4:=sx.nlo
 have l5:=sx.points
 have gt:List.getD (p.threads.map c8) t default=c8 x:=by rw[fe ht];exact congrArg c8 hx
 have stp:1≤x.points→∀(s:Stp),StpSm s→∀(Z:St) (R:A→St→Prop),(∀c:Int,(c=0↔StpOk p t x.points s)→R (di c) Z)→AC Tryz.prog G 107 [.d (bK p),dn t,.d (eP s)] Z R:=λ h1 s hsm Z R hR=>step_r p hs hc t ht (by rw[hx];exact⟨h1,l5⟩) s hsm Z G R (by rw[hx];exact hR)
 have tru:∀(e:Ex),e.nodes≤40→∀(Z:St) (R:A→St→Prop),R (db (p.truB e false (p.viB t))) Z→AC Tryz.prog G 105 [.d (bK p),.d (eD e),db false,dn t] Z R:=λ e he Z R hR=>sG p (by omega) hc e (lF he) false t Z G R hR
 have rv:∀(e:Ex),e.nodes≤40→∀(Z:St) (R:A→St→Prop),R (db (e.valid p.cells false)) Z→AC Tryz.prog G 108 [.d (eD e),.d (aY p.cells),db false] Z R:=λ e he Z R hR=>by
  have:=qS e (lF he) p.cells (by simp [reachBytes];omega) false Z G R hR
  rw[ed]at this
  exact this
 have ov:∀(e:Ex),e.nodes≤40→e.valid p.cells false=true→∀(Z:St) (R:A→St→Prop),R (db (e.allB (p.viB t))) Z→AC Tryz.prog G 109 [.d (bK p),.d (eD e),db true,dn t] Z R:=λ e he hv Z R hR=>A1 p (by omega) (λ c h=>(hc.1 c h).thread.1) e (lF he) false hv true t (λ q=>Bool.noConfusion q) Z G R hR
 unfold xT at h
 rw[hx]at h
 unfold bK at*
 unfold eP at stp
 unfold eD at tru rv ov
 refine bD [2,4,9,11,16,21,27,31,33,38] a9 Tryz.func67 rfl Tryz.ntmps67 (by simp only[go_sem]) λ hbd=> ?_
 simp only[ae,aj,Nat.reduceAdd,Nat.reduceSub,af,ag,ah,ak]
 simp only[go_sem,ac,ad]
 refine bc (λ fr st=>fr=%[.o,dn t,.ref Z.length 0,.o,.o,.o,.ref (Z.length+1) 0|D7 (D7 (D6 [.o,.o,.o,.o,.o,.o]))]∧st=Z++[bN p,iw x]) ?_ ?_
 ·simp only[go_sem,gt,c8,ac,ad]
  exact⟨⟨by omega,by omega⟩,Wk.mask [1,2,6] ⟨rfl,rfl⟩⟩
 rintro fr st ⟨rfl,rfl⟩
 refine bc (λ fr st=>jj x.name=true∧fr=%[.o,dn t,.ref Z.length 0,.o,.o,.o,.ref (Z.length+1) 0|D7 (D7 (D6 [.o,.o,.o,.o,.o,.o]))]∧st=Z++[bN p,iw x]) ?_ ?_
 ·try simp only[go_sem]
  refine bH (qg _ (hz x hxm) _ _ _ ?_)
  try simp only[go_sem]
  exact⟨λ q=>dq hbd rfl (h 1 (-1) (eN (by decide) λ k=>by rw[k.1.name]at q;exact Bool.noConfusion q)),λ q=>Wk.mask [1,2,6] ⟨by simpa using q,rfl,rfl⟩⟩
 rintro fr st ⟨hlab,rfl,rfl⟩
 refine bc (λ fr st=>(∀k,k<t→(p.thr k).name≠x.name)∧fr=%[.o,dn t,.ref Z.length 0,.o,.o,.o,.ref (Z.length+1) 0|D7 (D7 (D6 [.o,.o,.o,.o,.o,.o]))]∧st=Z++[bN p,iw x]) ?_ ?_
 ·try simp only[go_sem]
  refine aS (λ m fr st=>∃k:Nat,k≤t∧m=t - k∧(∀i,i<k→(p.thr i).name≠x.name)∧fr=%[.o,dn t,.ref Z.length 0,.o,.o,.o,.ref (Z.length+1) 0,dn k|D7 (D7 (D6 [.o,.o,.o,.o,.o]))]∧st=Z++[bN p,iw x]) t _ (Wk.mask [1,2,6,7] ⟨0,by omega,by omega,λ i hi=>absurd hi (by omega),rfl,rfl⟩) ?_
  rintro m fr st ⟨k,hk,hm,hne,rfl,rfl⟩
  rcases aC k t with hkl|hkg
  ·have hd2:decide ((k:Int)<(t:Int))=true:=by simp only[av];omega
   have w3:=bC k (by omega)
   have g2:List.getD (p.threads.map c8) k default=c8 (p.thr k):=fe (by omega)
   simp only[go_sem,hd2,ac]
   refine bb (.tk 9 0<| .done) (by kernel_rfl) ?_
   simp only[go_sem,w3,g2,c8,ac,ad]
   refine⟨⟨by omega,by omega⟩,λ q=>dq hbd rfl (h 41 (-1) (eN (by decide) λ kk=>kk.2 k hkl (by simpa using q))),λ q=>Wk.mask [1,2,6,7] ⟨t - (k+1),by omega,k+1,by omega,rfl,λ i hi=> ?_,rfl,rfl⟩⟩
   rcases aC i k with h1|h1
   ·exact hne i h1
   ·obtain rfl:i=k:=by omega
    simpa using q
  ·have hd2:decide ((k:Int)<(t:Int))=false:=by simp only[ay];omega
   simp only[go_sem,hd2,ac,ad]
   obtain rfl:k=t:=by omega
   exact Wk.mask [1,2,6] ⟨hne,rfl,rfl⟩
 rintro fr st ⟨hne,rfl,rfl⟩
 refine bc (λ fr st=>(1≤x.points∧(x.asserts.length:Int)=x.points∧(x.mods.length:Int)=x.points)∧fr=%[.o,dn t,.ref Z.length 0,.o,.o,.o,.ref (Z.length+1) 0|D7 (D7 (D6 [.o,.o,.o,.o,.o,.o]))]∧st=Z++[bN p,iw x]) ?_ ?_
 ·simp only[bu,go_sem,ac]
  refine⟨λ q=>dq hbd rfl (h 1 (-1) (eN (by decide) λ k=> ?_)),λ q=>Wk.mask [1,2,6] ⟨?_,rfl,rfl⟩⟩
  ·rw[k.1.nas,k.1.nmo]at q
   have:=k.1.points
   simp only[cd,av,bne_self_eq_false,eG,or_false]at q
   omega
  ·simp only[bA,ay,bne_eq_false_iff_eq]at q
   exact⟨by omega,q.1.2,q.2⟩
 rintro fr st ⟨hpt,rfl,rfl⟩
 refine bc (λ fr st=>(∀m∈x.mods,0≤m∧m<p.modules.length)∧fr=%[.o,dn t,.ref Z.length 0,.o,.o,.o,.ref (Z.length+1) 0|D7 (D7 (D6 [.o,.o,.o,.o,.o,.o]))]∧st=Z++[bN p,iw x]) ?_ ?_
 ·simp only[bu,go_sem,ac]
  refine aS (λ m fr st=>∃k:Nat,k≤x.mods.length∧m=x.mods.length - k∧(∀m∈x.mods.take k,0≤m∧m<(p.modules.length:Int))∧fr=%[.o,dn t,.ref Z.length 0,.o,.o,.o,.ref (Z.length+1) 0,.o,dn k|D7 (D7 (D6 [.o,.o,.o,.o]))]∧st=Z++[bN p,iw x]) x.mods.length _ (Wk.mask [1,2,6,8] ⟨0,by omega,by omega,by simp,rfl,rfl⟩) ?_
  rintro m fr st ⟨k,hk,hm,hall,rfl,rfl⟩
  rcases aC k x.mods.length with hkl|hkg
  ·have hd2:decide ((k:Int)<(x.mods.length:Int))=true:=by simp only[av];omega
   have w3:=bC k (by omega)
   obtain⟨c,hcc⟩:∃c,x.mods.getD k 0=c:=⟨_,rfl⟩
   have hcm:c∈x.mods:=by rw[←hcc];exact bT 0 hkl
   have g2:List.getD (x.mods.map iD) k default=iD c:=by rw[bW hkl,hcc]
   simp only[bu,go_sem,hd2,ac]
   refine bb (.tk 8 0<| .pure 8<| .take 9<| .done) (by kernel_rfl) ?_
   simp only[bu,go_sem,w3,g2,ac,ad]
   refine⟨⟨by omega,by omega⟩,Go.Ab.mN (db (kj c p.modules.length)) ⟨λ Z'=>bH (k8 _ _ _ _ _ ⟨rfl,rfl⟩),?_⟩⟩
   simp only[bu,go_sem,w3,g2,ac,ad]
   refine⟨λ q=>dq hbd rfl (h 1 (-1) (eN (by decide) λ kk=>by rw[cS.2 (kk.1.mods c hcm)]at q;exact Bool.noConfusion q)),λ q=>Wk.mask [1,2,6,8] ⟨x.mods.length - (k+1),by omega,k+1,by omega,rfl,fm 0 hkl hall (by rw[hcc];exact cS.1 (by simpa using q)),rfl,rfl⟩⟩
  ·have hd2:decide ((k:Int)<(x.mods.length:Int))=false:=by simp only[ay];omega
   simp only[bu,go_sem,hd2,ac,ad]
   obtain rfl:k=x.mods.length:=by omega
   rw[bB]at hall
   exact Wk.mask [1,2,6] ⟨hall,rfl,rfl⟩
 rintro fr st ⟨hmods,rfl,rfl⟩
 refine bc (λ fr st=>(∀e∈x.asserts,p.truB e false (p.viB t)=true)∧fr=%[.o,dn t,.ref Z.length 0,.o,.o,.o,.ref (Z.length+1) 0|D7 (D7 (D6 [.o,.o,.o,.o,.o,.o]))]∧st=Z++[bN p,iw x]) ?_ ?_
 ·simp only[go_sem,ac]
  refine aS (λ m fr st=>∃k:Nat,k≤x.asserts.length∧m=x.asserts.length - k∧(∀e∈x.asserts.take k,p.truB e false (p.viB t)=true)∧fr=%[.o,dn t,.ref Z.length 0,.o,.o,.o,.ref (Z.length+1) 0,.o,.o,dn k|D7 (D7 (D6 [.o,.o,.o]))]∧st=Z++[bN p,iw x]) x.asserts.length _ (Wk.mask [1,2,6,9] ⟨0,by omega,by omega,by simp,rfl,rfl⟩) ?_
  rintro m fr st ⟨k,hk,hm,hall,rfl,rfl⟩
  rcases aC k x.asserts.length with hkl|hkg
  ·have hd2:decide ((k:Int)<(x.asserts.length:Int))=true:=by simp only[av];omega
   have w3:=bC k (by omega)
   obtain⟨c,hcc⟩:∃c,x.asserts.getD k zQ=c:=⟨_,rfl⟩
   have hcm:c∈x.asserts:=by rw[←hcc];exact bT zQ hkl
   have g2:List.getD (x.asserts.map Ex.d) k default=eD c:=by rw[Gy hkl,hcc]
   unfold eD at g2
   simp only[go_sem,hd2,ac]
   refine bb (.tk 7 0<| .pure 7<| .take 8<| .done) (by kernel_rfl) ?_
   simp only[go_sem,w3,g2,ac,ad]
   refine⟨⟨by omega,by omega⟩,Go.Ab.mN (db (p.truB c false (p.viB t))) ⟨λ Z'=>bH (tru c (sx.asserts c hcm) _ _ ⟨rfl,rfl⟩),?_⟩⟩
   simp only[go_sem,w3,g2,ac,ad]
   refine⟨λ q=>dq hbd rfl (h 60 (-1) (eN (by decide) λ kk=>by rw[kk.1.asserts c hcm]at q;exact Bool.noConfusion q)),λ q=>Wk.mask [1,2,6,9] ⟨x.asserts.length - (k+1),by omega,k+1,by omega,rfl,fm zQ hkl hall (by rw[hcc];simpa using q),rfl,rfl⟩⟩
  ·have hd2:decide ((k:Int)<(x.asserts.length:Int))=false:=by simp only[ay];omega
   simp only[go_sem,hd2,ac,ad]
   obtain rfl:k=x.asserts.length:=by omega
   rw[bB]at hall
   exact Wk.mask [1,2,6] ⟨hall,rfl,rfl⟩
 rintro fr st ⟨hass,rfl,rfl⟩
 refine bc (λ fr st=>(∀s∈x.steps,StpOk p t x.points s)∧fr=%[.o,dn t,.ref Z.length 0,.o,.o,.o,.ref (Z.length+1) 0|D7 (D7 (D6 [.o,.o,.o,.o,.o,.o]))]∧st=Z++[bN p,iw x]) ?_ ?_
 ·simp only[go_sem,ac]
  refine aS (λ m fr st=>∃k:Nat,k≤x.steps.length∧m=x.steps.length - k∧(∀s∈x.steps.take k,StpOk p t x.points s)∧fr=%[.o,dn t,.ref Z.length 0,.o,.o,.o,.ref (Z.length+1) 0,.o,.o,.o,dn k|D7 (D7 (D6 [.o,.o]))]∧st=Z++[bN p,iw x]) x.steps.length _ (Wk.mask [1,2,6,10] ⟨0,by omega,by omega,by simp,rfl,rfl⟩) ?_
  rintro m fr st ⟨k,hk,hm,hall,rfl,rfl⟩
  rcases aC k x.steps.length with hkl|hkg
  ·have hd2:decide ((k:Int)<(x.steps.length:Int))=true:=by simp only[av];omega
   have w3:=bC k (by omega)
   obtain⟨s,hcc⟩:∃c,x.steps.getD k jY=c:=⟨_,rfl⟩
   have hcm:s∈x.steps:=by rw[←hcc];exact bT jY hkl
   have g2:List.getD (x.steps.map eP) k default=eP s:=by rw[mw hkl,hcc]
   simp only[go_sem,hd2,ac]
   refine bb (.tk 9 0<| .done) (by kernel_rfl) ?_
   simp only[go_sem,w3,g2,eP,ac,ad]
   refine⟨⟨by omega,by omega⟩,bH (stp hpt.1 s (sx.steps s hcm) _ _ λ c hcs=> ?_)⟩
   simp only[go_sem,w3,g2,ac,ad]
   refine⟨λ q=>dq hbd rfl (h c _ ⟨λ q0=> ?_,λ kk=> ?_⟩),λ q=>Wk.mask [1,2,6,10] ⟨x.steps.length - (k+1),by omega,k+1,by omega,rfl,fm jY hkl hall (by rw[hcc];exact hcs.1 (by simpa using q)),rfl,rfl⟩⟩
   ·rw[q0]at q;exact absurd q (by decide)
   ·exact hcs.2 (kk.1.steps s hcm)
  ·have hd2:decide ((k:Int)<(x.steps.length:Int))=false:=by simp only[ay];omega
   simp only[go_sem,hd2,ac,ad]
   obtain rfl:k=x.steps.length:=by omega
   rw[bB]at hall
   exact Wk.mask [1,2,6] ⟨hall,rfl,rfl⟩
 rintro fr st ⟨hstp,rfl,rfl⟩
 simp only[go_sem,ac]
 refine aS (λ m fr st=>∃k:Nat,k≤x.loops.length∧m=x.loops.length - k∧(∀s∈x.loops.take k,LopOk p t x.points s)∧fr=%[.o,dn t,.ref Z.length 0,.o,.o,.o,.ref (Z.length+1) 0,.o,.o,.o,.o,.o,dn k|D7 (D7 (D6 []))]∧st=Z++[bN p,iw x]) x.loops.length _ (Wk.mask [1,2,6,12] ⟨0,by omega,by omega,by simp,rfl,rfl⟩) ?_
 rintro m fr st ⟨k,hk,hm,hall,rfl,rfl⟩
 rcases aC k x.loops.length with hkl|hkg
 ·have hd2:decide ((k:Int)<(x.loops.length:Int))=true:=by simp only[av];omega
  have w3:=bC k (by omega)
  obtain⟨l,hcc⟩:∃c,x.loops.getD k vg=c:=⟨_,rfl⟩
  have hcm:l∈x.loops:=by rw[←hcc];exact bT vg hkl
  obtain⟨sl1,sl2⟩:=sx.loops l hcm
  have g2:List.getD (x.loops.map pt) k default=pt l:=by rw[A5 hkl,hcc]
  simp only[go_sem,hd2,ac,ad]
  refine bc (λ fr st=>fr=%[.o,dn t,.ref Z.length 0,.o,.o,.o,.ref (Z.length+1) 0,.o,.o,.o,.o,.o,dn k,.ref (Z.length+2) 0|D7 (D7 (D5 (D4 [.o,.o,.o,.o,.o,.o,.o])))]∧st=Z++[bN p,iw x,lopO l]) ?_ ?_
  ·simp only[go_sem,g2,pt,ac,ad]
   exact⟨⟨by omega,by omega⟩,Wk.mask [1,2,6,12,13] ⟨rfl,rfl⟩⟩
  rintro fr st ⟨rfl,rfl⟩
  refine bc (λ fr st=>((0≤l.head∧l.head<x.points)∧qE l.body)∧fr=%[.o,dn t,.ref Z.length 0,.o,.o,.o,.ref (Z.length+1) 0,.o,.o,.o,.o,.o,dn k,.ref (Z.length+2) 0|D7 (D7 (D5 (D4 [.o,.o,.o,.o,.o,.o,.o])))]∧st=Z++[bN p,iw x,lopO l]) ?_ ?_
  ·simp only[go_sem,ac,ad]
   refine bH (k8 _ _ _ _ _ ?_)
   cases hin:kj l.head x.points with
   |false=>
    simp only[go_sem,ac,ad]
    refine gO (.bool false) ⟨λ q=>Bool.noConfusion q,?_⟩
    simp only[go_sem,ac,ad]
    exact dq hbd rfl (h 1 (-1) (eN (by decide) λ kk=>by rw[cS.2 (kk.1.loops l hcm).head]at hin;exact Bool.noConfusion hin))
   |true=>
    simp only[go_sem,ac,ad]
    refine exs ⟨λ _=> ?_,λ q=>Bool.noConfusion q⟩
    simp only[go_sem,ac,ad]
    refine bH (vG _ (by simp [reachBytes];omega) _ _ _ λ b hb=> ?_)
    simp only[go_sem,ac,ad]
    exact⟨λ q=>dq hbd rfl (h 1 (-1) (eN (by decide) λ kk=>by rw[hb.2 (kk.1.loops l hcm).rise]at q;exact Bool.noConfusion q)),λ q=>Wk.mask [1,2,6,12,13] ⟨⟨cS.1 hin,hb.1 (by simpa using q)⟩,rfl,rfl⟩⟩
  rintro fr st ⟨hhr,rfl,rfl⟩
  refine bc (λ fr st=>(∀c∈l.body,0≤c∧c<x.points∧c≠l.head)∧fr=%[.o,dn t,.ref Z.length 0,.o,.o,.o,.ref (Z.length+1) 0,.o,.o,.o,.o,.o,dn k,.ref (Z.length+2) 0|D7 (D7 (D5 (D4 [.o,.o,.o,.o,.o,.o,.o])))]∧st=Z++[bN p,iw x,lopO l]) ?_ ?_
  ·simp only[bu,go_sem,ac]
   refine aS (λ m fr st=>∃i:Nat,i≤l.body.length∧m=l.body.length - i∧(∀c∈l.body.take i,0≤c∧c<x.points∧c≠l.head)∧fr=%[.o,dn t,.ref Z.length 0,.o,.o,.o,.ref (Z.length+1) 0,.o,.o,.o,.o,.o,dn k,.ref (Z.length+2) 0,dn i|D7 (D7 (D5 (D4 [.o,.o,.o,.o,.o,.o])))]∧st=Z++[bN p,iw x,lopO l]) l.body.length _ (Wk.mask [1,2,6,12,13,14] ⟨0,by omega,by omega,by simp,rfl,rfl⟩) ?_
   rintro m2 fr st ⟨i,hi,hm2,hbd2,rfl,rfl⟩
   rcases aC i l.body.length with hil|hig
   ·have hd3:decide ((i:Int)<(l.body.length:Int))=true:=by simp only[av];omega
    have w4:=bC i (by omega)
    obtain⟨c,hc3⟩:∃c,l.body.getD i 0=c:=⟨_,rfl⟩
    have hcm3:c∈l.body:=by rw[←hc3];exact bT 0 hil
    have g3:List.getD (l.body.map iD) i default=iD c:=by rw[bW hil,hc3]
    simp only[bu,go_sem,hd3,ac]
    refine bb (.tk 7 0<| .pure 7<| .tk 11 8<| .done) (by kernel_rfl) ?_
    simp only[bu,go_sem,w4,g3,ac,ad]
    refine⟨⟨by omega,by omega⟩,Go.Ab.mN (db (kj c x.points)) ⟨λ Z'=>bH (k8 _ _ _ _ _ ⟨rfl,rfl⟩),?_⟩⟩
    simp only[bu,go_sem,w4,g3,ac,ad]
    refine⟨λ q=>⟨q,by omega,by omega⟩,λ q=>by simpa using q,λ q=>dq hbd rfl (h 1 (-1) (eN (by decide) λ kk=> ?_)),λ q=>Wk.mask [1,2,6,12,13,14] ⟨l.body.length - (i+1),by omega,i+1,by omega,rfl,fm 0 hil hbd2 ?_,rfl,rfl⟩⟩
    ·obtain⟨b1,b2,b3⟩:=(kk.1.loops l hcm).body c hcm3
     rw[cS.2 ⟨b1,b2⟩]at q
     simp only[g9,fj,cg]at q
     exact b3 q
    ·simp only[bA,cF,ck]at q
     rw[hc3]
     exact⟨(cS.1 q.1).1,(cS.1 q.1).2,q.2⟩
   ·have hd3:decide ((i:Int)<(l.body.length:Int))=false:=by simp only[ay];omega
    simp only[bu,go_sem,hd3,ac,ad]
    obtain rfl:i=l.body.length:=by omega
    rw[bB]at hbd2
    exact Wk.mask [1,2,6,12,13] ⟨hbd2,rfl,rfl⟩
  rintro fr st ⟨hbod,rfl,rfl⟩
  simp only[go_sem,w3,ac,ad]
  refine bH (rv l.var sl2 _ _ ?_)
  cases hv:l.var.valid p.cells false with
  |false=>
   simp only[go_sem,w3,ac,ad]
   refine gO (.bool false) ⟨λ q=>Bool.noConfusion q,?_⟩
   simp only[go_sem,w3,ac,ad]
   exact dq hbd rfl (h 60 (-1) (eN (by decide) λ kk=>by rw[(kk.1.loops l hcm).var]at hv;exact Bool.noConfusion hv))
  |true=>
   simp only[go_sem,w3,ac,ad]
   refine exs ⟨λ _=> ?_,λ q=>Bool.noConfusion q⟩
   simp only[go_sem,w3,ac,ad]
   refine bH (ov l.var sl2 hv _ _ ?_)
   simp only[go_sem,w3,ac,ad]
   refine⟨λ q=>dq hbd rfl (h 60 (-1) (eN (by decide) λ kk=>by rw[(kk.1.loops l hcm).over]at q;exact Bool.noConfusion q)),λ q=> ?_⟩
   exact Wk.keep [1,2,6,12] [0,1] (by decide) (aE _) hbd ⟨x.loops.length - (k+1),by omega,k+1,by omega,rfl,fm vg hkl hall (by rw[hcc];exact⟨hhr.1,hhr.2,hbod,hv,by simpa using q⟩),by simp only[go_sem],by simp only[go_sem]⟩
 ·have hd2:decide ((k:Int)<(x.loops.length:Int))=false:=by simp only[ay];omega
  simp only[go_sem,hd2,ac,ad]
  obtain rfl:k=x.loops.length:=by omega
  rw[bB]at hall
  exact dq hbd rfl (h 0 (-1) ⟨λ _=>⟨⟨hlab,hpt.1,hpt.2.1,hpt.2.2,hmods,hass,hstp,hall⟩,hne⟩,λ _=>rfl⟩)
structure NamesSz (p:Prg):Prop where
 cells:∀c∈p.cells,c.name.length≤reachBytes
 modules:∀m∈p.modules,m.name.length≤reachBytes∧m.owner.length≤reachBytes
 threads:∀x∈p.threads,x.name.length≤reachBytes
theorem ok_iff{p:Prg}:p.Ok↔lL p∧xU p∧sW p∧∀t,t<p.threads.length→xT p t:=by
 constructor
 ·intro h
  refine⟨⟨h.cells,h.cnames⟩,⟨h.modules,h.mnames⟩,⟨h.locks,h.lcells⟩,λ t ht=>⟨wV h ht,λ k hk e=> ?_⟩⟩
  exact ou (f:=Thr.name) fg hk ht e h.tnames
 ·rintro⟨h1,h2,h3,h4⟩
  refine⟨h1.1,h1.2,h2.1,h2.2,h3.1,h3.2,λ t x hx=> ?_,?_⟩
  ·have ht:=(aA.1 hx).1
   have:=(h4 t ht).1
   rwa [show p.thr t=x from jA hx]at this
  ·have key:∀j,j≤p.threads.length→((p.threads.take j).map Thr.name).Nodup:=by
    intro j
    induction j with
    |zero=>intro _;simp
    |succ j ih=>intro hj;exact kX fg (by omega) (ih (by omega)) (h4 j (by omega)).2
   have:=key p.threads.length (aE _)
   rwa [bB]at this
theorem wU(p:Prg)(hs:p.Small)(hz:NamesSz p)(Z:St)(G:Glob)(R:A→St→Prop)(h:∀c i j:Int,(c=0↔p.Ok)→R (.tup [di c,di i,di j]) Z):AC Tryz.prog G 30 [.d (bK p)] Z R:=by
 have hnt:=hs.nthr
 rw[ok_iff]at h
 have n0:((0:Int)!=0)=false:=rfl
 have lim:=limits_r p hs
 have cel:=cells_r p hs hz.cells
 have mods:=λ hc=>Dg p hs hz.modules hc
 have lck:=λ hc=>locks_r p hs hc
 have thr:=λ hc=>thread_r p hs hc hz.threads
 unfold bK at*
 refine bD [4,16] a9 Tryz.func30 rfl Tryz.ntmps30 (by simp only[go_sem]) λ hbd=> ?_
 simp only[ae,aj,Nat.reduceAdd,Nat.reduceSub,af,ag,ah,ak]
 try simp only[go_sem]
 refine bH (lim _ _ _ ?_)
 try simp only[go_sem]
 refine bc (λ fr st=>fr=%[.o,.ref Z.length 0|D6 (D5 (D4 []))]∧st=Z++[bN p]) ?_ ?_
 ·simp only[go_sem,n0]
  exact Wk.mask [1] ⟨rfl,rfl⟩
 rintro fr st ⟨rfl,rfl⟩
 refine bc (λ fr st=>(lL p∧xU p∧sW p)∧fr=%[.o,.ref Z.length 0|D6 (D5 (D4 []))]∧st=Z++[bN p]) ?_ ?_
 ·try simp only[go_sem]
  refine aS (λ m fr st=>∃k:Nat,k≤3∧m=3 - k∧(1≤k→lL p)∧(2≤k→xU p)∧(3≤k→sW p)∧fr=%[.o,.ref Z.length 0,.o,.o,.o,.o,.o,dn k|D6 (D5 [.o,.o])]∧st=Z++[bN p]) 3 _ (Wk.mask [1,7] ⟨0,by omega,by omega,λ q=>absurd q (by decide),λ q=>absurd q (by decide),λ q=>absurd q (by decide),rfl,rfl⟩) ?_
  rintro m fr st ⟨k,hk,hm,h1,h2,h3,rfl,rfl⟩
  have w3:=bC k (by omega)
  have hk4:k=0∨k=1∨k=2∨k=3:=by omega
  rcases hk4 with rfl|rfl|rfl|rfl
  ·have e0:(((0:Nat):Int)==0)=true:=rfl
   have d0:decide (((0:Nat):Int)<3)=true:=rfl
   simp only[go_sem,e0,d0,w3]
   refine bH (cel _ _ _ λ c hcs=> ?_)
   simp only[go_sem,w3]
   refine⟨λ q=>dq hbd rfl (h c (-1) (-1) ⟨λ q0=> ?_,λ kk=>hcs.2 kk.1⟩),λ q=>Wk.mask [1,7] ⟨3 - 1,by omega,1,by omega,rfl,λ _=>hcs.1 (by simpa using q),λ q=>absurd q (by decide),λ q=>absurd q (by decide),rfl,rfl⟩⟩
   rw[q0]at q;exact absurd q (by decide)
  ·have e0:(((1:Nat):Int)==0)=false:=rfl
   have e1:(((1:Nat):Int)==1)=true:=rfl
   have d0:decide (((1:Nat):Int)<3)=true:=rfl
   simp only[go_sem,e0,e1,d0,w3]
   refine bH (mods (h1 (by decide)) _ _ _ λ c hcs=> ?_)
   simp only[go_sem,w3]
   refine⟨λ q=>dq hbd rfl (h c (-1) (-1) ⟨λ q0=> ?_,λ kk=>hcs.2 kk.2.1⟩),λ q=>Wk.mask [1,7] ⟨3 - 2,by omega,2,by omega,rfl,λ _=>h1 (by decide),λ _=>hcs.1 (by simpa using q),λ q=>absurd q (by decide),rfl,rfl⟩⟩
   rw[q0]at q;exact absurd q (by decide)
  ·have e0:(((2:Nat):Int)==0)=false:=rfl
   have e1:(((2:Nat):Int)==1)=false:=rfl
   have e2:(((2:Nat):Int)==2)=true:=rfl
   have d0:decide (((2:Nat):Int)<3)=true:=rfl
   simp only[go_sem,e0,e1,e2,d0,w3]
   refine bH (lck (h1 (by decide)) _ _ _ λ c hcs=> ?_)
   simp only[go_sem,w3]
   refine⟨λ q=>dq hbd rfl (h c (-1) (-1) ⟨λ q0=> ?_,λ kk=>hcs.2 kk.2.2.1⟩),λ q=>Wk.mask [1,7] ⟨3 - 3,by omega,3,by omega,rfl,λ _=>h1 (by decide),λ _=>h2 (by decide),λ _=>hcs.1 (by simpa using q),rfl,rfl⟩⟩
   rw[q0]at q;exact absurd q (by decide)
  ·have d0:decide (((3:Nat):Int)<3)=false:=rfl
   simp only[go_sem,d0]
   exact Wk.mask [1] ⟨⟨h1 (by decide),h2 (by decide),h3 (by decide)⟩,rfl,rfl⟩
 rintro fr st ⟨⟨hc,hm,hl⟩,rfl,rfl⟩
 simp only[go_sem,ac]
 refine aS (λ m fr st=>∃k:Nat,k≤p.threads.length∧m=p.threads.length - k∧(∀t,t<k→xT p t)∧fr=%[.o,.ref Z.length 0,.o,.o,.o,.o,.o,.o,dn k|D6 (D5 [.o])]∧st=Z++[bN p]) p.threads.length _ (Wk.mask [1,8] ⟨0,by omega,by omega,λ t ht=>absurd ht (by omega),rfl,rfl⟩) ?_
 rintro m fr st ⟨k,hk,hmm,hall,rfl,rfl⟩
 have w3:=bC k (by omega)
 rcases aC k p.threads.length with hkl|hkg
 ·have hd2:decide ((k:Int)<(p.threads.length:Int))=true:=by simp only[av];omega
  simp only[go_sem,hd2,w3,ac]
  refine bH (thr hc k hkl _ _ _ λ c i hcs=> ?_)
  simp only[go_sem,hd2,w3,ac]
  refine⟨λ q=>dq hbd rfl (h c _ _ ⟨λ q0=> ?_,λ kk=>hcs.2 (kk.2.2.2 k hkl)⟩),λ q=>Wk.mask [1,8] ⟨p.threads.length - (k+1),by omega,k+1,by omega,rfl,λ t ht=> ?_,rfl,rfl⟩⟩
  ·rw[q0]at q;exact absurd q (by decide)
  ·rcases aC t k with h1|h1
   ·exact hall t h1
   ·obtain rfl:t=k:=by omega
    exact hcs.1 (by simpa using q)
 ·have hd2:decide ((k:Int)<(p.threads.length:Int))=false:=by simp only[ay];omega
  simp only[go_sem,hd2,ac]
  obtain rfl:k=p.threads.length:=by omega
  exact dq hbd rfl (h 0 (-1) (-1) ⟨λ _=>⟨hc,hm,hl,hall⟩,λ _=>rfl⟩)
theorem ok_r(p:Prg)(hs:p.Small)(hz:NamesSz p)(Z:St)(G:Glob)(R:A→St→Prop)(h:∀b:Bool,(b=true↔p.Ok)→R (db b) Z):AC Tryz.prog G 8 [.d (bK p)] Z R:=by
 have va:=wU p hs hz
 unfold bK at*
 refine bg a9 Tryz.func8 rfl Tryz.ntmps8 (by simp only[go_sem]) λ hbd=> ?_
 simp only[ae,aj,Nat.reduceAdd,Nat.reduceSub,af,ag,ah,ak]
 try simp only[go_sem]
 refine bH (va _ _ _ λ c i j hcs=> ?_)
 try simp only[go_sem]
 exact aQ hbd (h _ (by rw[cg];exact hcs))
theorem formed_r(p:Prg)(hs:p.Small)(hz:NamesSz p)(hp:p.Ok)(Z:St)(G:Glob)(R:A→St→Prop)(h:R (db true) Z):AC Tryz.prog G 68 [.d (bK p)] Z R:=by
 have va:=wU p hs hz
 unfold bK at*
 refine bg a9 Tryz.func68 rfl Tryz.ntmps68 (by simp only[go_sem]) λ hbd=> ?_
 simp only[ae,aj,Nat.reduceAdd,Nat.reduceSub,af,ag,ah,ak]
 try simp only[go_sem]
 refine bH (va _ _ _ λ c i j hcs=> ?_)
 obtain rfl:c=0:=hcs.2 hp
 try simp only[go_sem]
 exact aQ hbd h
def lj(l:List (List UInt8)):List (D×A):=l.map λ s=>(.str s,.d (.agg []))
theorem pA(s:List UInt8):∀l:List (List UInt8),ja (.str s) (lj l)=some (if s∈l then some (.d (.agg []))else none)
 |[]=>rfl
 |x::l=>by
  have ih:=pA s l
  simp only[lj,aM,ja,ll,if_true]at ih ⊢
  by_cases hx:s=x
  ·subst hx;simp
  ·have h1:(s==x)=false:=by simpa using hx
   rw[h1]
   simp only
   rw[ih]
   simp [hx]
theorem vE(s:List UInt8):∀l:List (List UInt8),nk (.str s) (.d (.agg [])) (lj l)=lj (if s∈l then l else l++[s])
 |[]=>rfl
 |x::l=>by
  have ih:=vE s l
  simp only[lj,aM,nk,ll,if_true]at ih ⊢
  by_cases hx:s=x
  ·subst hx;simp
  ·have h1:(s==x)=false:=by simpa using hx
   rw[h1]
   simp only
   rw[ih]
   by_cases h:s∈l<;> simp [h,hx]
theorem pP:pO Tryz.prog 192=some (.d (.agg [])):=by kernel_rfl
theorem plain9(s:List UInt8):gP Tryz.prog 9 (.str s)=true:=rfl
theorem A6(s:List UInt8)(l:List (List UInt8))(h:s∉l):rZ true (.str s) (some (.d (.agg []))) (lj l)=some (.tup [.d (.agg []),db false]):=by
 simp only[rZ,pA,if_neg h];rfl
theorem ret_junk{n0:Nat}{G:Glob}{Z junk:St}{x:D}{R:A→St→Prop}(hn:n0≤Z.length)(hbd:Bd Z.length Z)(h:R (.d x) Z):∃r Z',bw G n0 [.d x] (Z++junk) [r] Z'∧R r Z':=by
 have:=bw.keep (G:=G) (n0:=n0) (fr:=[A.d x]) (Z:=Z) (l:=junk) [] (by decide) hn hbd
 refine⟨_,_,this,?_⟩
 simp only[iC,bq,bt]
 exact h
theorem wW(L:List (List UInt8))(s:List UInt8)(hn:s∉L)(id:Nat)(Z:St)(hσ:Z[id]? =some (some (.map (lj L))))(G:Glob)(R:A→St→Prop)(h:R (db false) (Z.set id (some (.map (lj (L++[s])))))):AC Tryz.prog G 128 [.mapr id,.d (.str s)] Z R:=by
 have h1:(Z++[some (Ob.cells [])])[id]? =some (some (.map (lj L))):=by rw[aq (aA.1 hσ).1];exact hσ
 have h2:(Z++[some (Ob.cells [])]).set id (some (.map (lj (L++[s]))))=Z.set id (some (.map (lj (L++[s]))))++[some (Ob.cells [])]:=dN _ _ (aA.1 hσ).1
 refine bg a9 Tryz.func128 rfl Tryz.ntmps128 (by simp only[go_sem]) λ hbd=> ?_
 simp only[ae,aj,Nat.reduceAdd,Nat.reduceSub,af,ag,ah,ak]
 simp only[go_sem,sJ hσ,aO hσ,pP,plain9,A6 s L hn,sJ h1,aO h1,vE,if_neg hn,pA,eF,h2]
 refine ret_junk (by rw[aH];exact aE _) ?_ h
 rw[aH]
 exact hbd.set _ λ o ho=>by
  injection ho with ho;subst ho
  simp [Ob.bd,lj,A.bd]
theorem nB{α β:Type}{f:α→β}{l:List α}{j:Nat}(d:α)(hj:j<l.length)(h:(l.map f).Nodup):f (l.getD j d)∉(l.take j).map f:=λ hm=>by
 obtain⟨x,hx,e⟩:=aI.1 hm
 obtain⟨k,hk,e'⟩:=dm.1 hx
 rw[aP]at hk
 refine ou (f:=f) (k:=k) d (by omega) hj ?_ h
 rw[←e,←e',List.getElem_take,au,ap (by omega)];rfl
theorem limits_p(p:Prg)(hp:p.Small)(Z:St)(G:Glob)(R:A→St→Prop)(h:R (.tup [di 0,di (-1)]) Z):AC Tryz.prog G 94 [.d (bK p)] Z R:=by
 have h1:=hp.ncel
 have h2:=hp.nmod
 have h3:=hp.nlck
 have h4:=hp.nthr
 have d1:decide ((p.cells.length:Int) > 32)=false:=by simp;omega
 have d2:decide ((p.modules.length:Int) > 6)=false:=by simp;omega
 have d3:decide ((p.locks.length:Int) > 4)=false:=by simp;omega
 have d4:decide ((p.threads.length:Int) > 4)=false:=by simp;omega
 have d1':decide ((32:Int)<(p.cells.length:Int))=false:=by simp;omega
 have d2':decide ((6:Int)<(p.modules.length:Int))=false:=by simp;omega
 have d3':decide ((4:Int)<(p.locks.length:Int))=false:=by simp;omega
 have d4':decide ((4:Int)<(p.threads.length:Int))=false:=by simp;omega
 unfold bK
 refine bg a9 Tryz.func94 rfl Tryz.ntmps94 (by simp only[go_sem]) λ hbd=> ?_
 simp only[ae,aj,Nat.reduceAdd,Nat.reduceSub,af,ag,ah,ak]
 simp only[aY,go_sem,d1,d2,d3,d4,d1',d2',d3',d4',ac]
 refine aS (λ m fr st=>∃j:Nat,j≤p.threads.length∧m=p.threads.length - j∧fr=D6 %[.d (.sl 7 (p.threads.map c8)),dn p.threads.length,dn j|D5 [.o,.o,.o,.o,.o]]∧st=Z) p.threads.length _ ?_ ?_
 ·exact Wk.keep [32,33,34] [] (by decide) (aE _) hbd ⟨0,by omega,by omega,by simp only[go_sem];rfl,by simp only[go_sem,bt]⟩
 rintro m fr st ⟨j,hj,hm,rfl,rfl⟩
 rcases aC j p.threads.length with hlt|hge
 ·have hd:decide ((j:Int)<(p.threads.length:Int))=true:=by simp;omega
  have w2:=bC j (by omega)
  have e2:=fe (l:=p.threads) hlt
  have hs:=hp.threads _ (bT fg hlt)
  generalize p.threads.getD j fg=x at e2 hs
  obtain⟨s1,s2,s3,s4,s5,s6,s7,s8⟩:=hs
  have d1:decide (x.points > 48)=false:=by simp;omega
  have d2:decide ((x.steps.length:Int) > 64)=false:=by simp;omega
  have d3:decide ((x.loops.length:Int) > 8)=false:=by simp;omega
  have d1':decide ((48:Int)<x.points)=false:=by simp;omega
  have d2':decide ((64:Int)<(x.steps.length:Int))=false:=by simp;omega
  have d3':decide ((8:Int)<(x.loops.length:Int))=false:=by simp;omega
  simp only[go_sem,hd,w2,e2,c8,d1,d2,d3,d1',d2',d3',ac,ad]
  exact⟨⟨by omega,by omega⟩,Wk.keep [32,33,34] [] (by decide) (aE _) hbd ⟨p.threads.length - (j+1),by omega,j+1,by omega,by simp only[go_sem],by simp only[go_sem,bt]⟩⟩
 ·have hd:decide ((j:Int)<(p.threads.length:Int))=false:=by simp;omega
  simp only[go_sem,hd,ac]
  exact⟨_,_,bw.refl _ _ _ _,h⟩
theorem nq(n:Nat)(p:List Nat)(l:List (List UInt8)):Ob.ren n p (.map (lj l))= .map (lj l):=by
 simp only[Ob.ren,lj,dZ];rfl
theorem shl1{w:Int}(h:1≤w∧w≤8):IntKind.i64.wrap (1*2^min (IntKind.u64.wrap w).toNat 64)=2^w.toNat:=by
 obtain⟨h1,h2⟩:=h
 have:w=1∨w=2∨w=3∨w=4∨w=5∨w=6∨w=7∨w=8:=by omega
 rcases this with rfl|rfl|rfl|rfl|rfl|rfl|rfl|rfl<;> rfl
theorem mm{α β:Type}(l:List α)(f:α→β){i:Int}(hr:0≤i∧i<l.length)(Z:St)(G:Glob)(R:A→St→Prop)(h:R (db true) Z):AC Tryz.prog G 127 [di i,di ((l.map f).length:Nat)] Z R:=kK _ _ _ _ _ (by
 have hi:kj i l.length=true:=by simp only[kj,av];exact hr
 rw[ac,hi];exact h)
theorem uf{i n:Int}(h:0≤i∧i<n):kj i n=true:=by simp [kj,h]
theorem cells_p(p:Prg)(hp:p.Small)(hok:p.Ok)(hnm:NamesSz p)(Z:St)(G:Glob)(R:A→St→Prop)(h:R (di 0) Z):AC Tryz.prog G 95 [.d (bK p)] Z R:=by
 have h1:=hp.ncel
 have h2:=hp.nmod
 have h4:=hp.nthr
 unfold bK
 refine bg a9 Tryz.func95 rfl Tryz.ntmps95 (by simp only[go_sem]) λ hbd=> ?_
 simp only[ae,aj,Nat.reduceAdd,Nat.reduceSub,af,ag,ah,ak]
 simp only[aY,go_sem,ac]
 refine aS (λ m fr st=>∃j:Nat,j≤p.cells.length∧m=p.cells.length - j∧fr=%[.o,.ref Z.length 0,.o,.mapr (Z.length+1),.o,.o,.o,.o,.o,.d (aY p.cells),dn p.cells.length,dn j|D6 (D5 [.o,.o])]∧st=Z++[bN p,some (.map (lj ((p.cells.take j).map Cel.name)))]) p.cells.length _ (Wk.mask [1,3,9,10,11] ⟨0,by omega,by omega,rfl,rfl⟩) ?_
 rintro m fr st ⟨j,hj,hm,rfl,rfl⟩
 rcases aC j p.cells.length with hlt|hge
 ·have hd:decide ((j:Int)<(p.cells.length:Int))=true:=by simp;omega
  have w2:=bC j (by omega)
  have e1:=iM (l:=p.cells) hlt
  have hc:=hok.cells _ (bT fU hlt)
  have hnn:=hnm.cells _ (bT fU hlt)
  have hfr:(p.cells.getD j fU).name∉(p.cells.take j).map Cel.name:=nB fU hlt hok.cnames
  have hsn:(p.cells.take (j+1)).map Cel.name=(p.cells.take j).map Cel.name++[(p.cells.getD j fU).name]:=by rw[bG fU hlt,aJ];rfl
  generalize p.cells.getD j fU=c at e1 hc hnn hfr hsn
  obtain⟨c1,c2,c3,c4,c5⟩:=hc
  have hl:=sK c.name hnn c1
  have d1:decide (c.w<1)=false:=by simp;omega
  have d2:decide (c.w > 8)=false:=by simp;omega
  have d2':decide ((8:Int)<c.w)=false:=by simp;omega
  simp only[fb]at e1
  simp only[go_sem,aY,hd,w2,e1,ac,ad]
  refine⟨⟨by omega,by omega⟩,bH (hl _ _ _ ?_)⟩
  simp only[go_sem,d1,d2,d2',ac,ad]
  refine bH (kK _ _ _ _ _ ?_)
  rw[shl1 c2,uf c3]
  have b2:=kK c.mod p.modules.length
  rw[uf c5]at b2
  have ht:=λ id=>wW _ c.name hfr id
  by_cases hth:c.thread= -1
  ·have e0:(c.thread != -1)=false:=by simp [hth]
   simp only[go_sem,e0,ac,ad]
   refine gO (.bool false) ⟨λ q=>Bool.noConfusion q,?_⟩
   simp only[go_sem,e0,ac,ad]
   refine bH (b2 _ _ _ ?_)
   simp only[go_sem,e0,ac,ad]
   refine bH (ht _ _ (by simp) _ _ ?_)
   simp only[go_sem,e0,←hsn,ac,ad]
   exact Wk.keep [1,3,9,10,11] [0,1] (by decide) (aE _) hbd ⟨p.cells.length - (j+1),by omega,j+1,by omega,rfl,by simp only[go_sem,w2,aY],by simp only[go_sem,nq]⟩
  ·have e0:(c.thread != -1)=true:=by simp [hth]
   have b1:=mm p.threads c8 (i:=c.thread) (by omega)
   simp only[go_sem,e0,ac,ad]
   refine gO (.bool true) ⟨λ _=>⟨rfl,bH (b1 _ _ _ ?_)⟩,?_⟩
   ·simp only[go_sem]
   simp only[go_sem,e0,ac,ad]
   refine bH (b2 _ _ _ ?_)
   simp only[go_sem,e0,ac,ad]
   refine bH (ht _ _ (by simp) _ _ ?_)
   simp only[go_sem,e0,←hsn,ac,ad]
   exact Wk.keep [1,3,9,10,11] [0,1] (by decide) (aE _) hbd ⟨p.cells.length - (j+1),by omega,j+1,by omega,rfl,by simp only[go_sem,w2,aY],by simp only[go_sem,nq]⟩
 ·have hd:decide ((j:Int)<(p.cells.length:Int))=false:=by simp;omega
  simp only[go_sem,hd,ac]
  exact aQ hbd h
@[go_sem,go_sem ↓] theorem opG_makeFunc {P:Program} {Z:St} {G:Glob} {e:Operand→A} (c:Bool) (f:Fn) (a b:Array Operand) (k:A→St→Prop):qG P G Z e c (.makeFunc f a b) k=kI P Z e (.makeFunc f a b) λ p z=>(c=true→p)∧k (.grd c z) Z:=(rfl)
@[go_sem,go_sem ↓] theorem rdG_makeFunc {P:Program} {Z:St} {e:Operand→A} (f:Fn) (a b:Array Operand) (k:Prop→A→Prop):kI P Z e (.makeFunc f a b) k=rd P Z (λ x=>(e x).strip) (.makeFunc f a b) λ p z=>k (((Op.makeFunc f a b).operands.toList.all λ x=>(e x).cond)=true∧p) z:=(rfl)
@[go_sem,go_sem ↓] theorem rd_makeFunc {P:Program} {Z:St} {e:Operand→A} (f:Fn) (a b:Array Operand) (k:Prop→A→Prop):rd P Z e (.makeFunc f a b) k=k True (.fn f (a.toList.map e) (b.toList.map e)):=(rfl)
theorem B9{e:Ex}(h:e.Ok):e.kids.length≤reachBytes:=by cases h;assumption
theorem vt{p:Prg}{e:Ex}{pair:Bool}{f:Int→Bool}(h:p.truB e pair f=true):e.w=1∧e.valid p.cells pair=true∧(∀c∈jW 3 e,f c=true)∧∀c∈jW 2 e,f c=true:=by
 simp only[Prg.truB,aB,av]at h
 obtain⟨⟨h1,h2⟩,h3⟩:=h
 obtain⟨_,hd,_⟩:=Ex.valid_iff.1 h2
 exact⟨h1,h2,qD hd |>.1 h3⟩
theorem bitS_p{G:Glob}(hG:G.g 0=some cB)(p:Prg)(hn:p.cells.length≤1000)(e:Ex)(hok:e.Ok)(hn6:e.nodes≤600)(pair:Bool)(h:p.truB e pair p.shB=true)(Z:St)(R:A→St→Prop)(hR:R (db true) Z):
  AC Tryz.prog G 130 [.d (bK p),.d (eD e),db pair,.fn (.func 131) [.d (bK p)] []] Z R:=by
 obtain⟨h1,h2,h3,h4⟩:=vt h
 exact bit_p hG (vA p hn G) p e hok hn6 pair h1 h2 h3 h4 Z trivial R hR
theorem Dh{G:Glob}(hG:G.g 0=some cB)(p:Prg)(hp:p.Small)(hok:p.Ok)(hnm:NamesSz p)(Z:St)(R:A→St→Prop)(h:R (di 0) Z):AC Tryz.prog G 96 [.d (bK p)] Z R:=by
 have h1:=hp.ncel
 have h2:=hp.nmod
 have bs:=bitS_p hG p (by omega)
 have wi:=λ l hl hd=>nc (vA p (by omega) G) l hl hd
 unfold bK at*
 refine bg a9 Tryz.func96 rfl Tryz.ntmps96 (by simp only[go_sem]) λ hbd=> ?_
 simp only[ae,aj,Nat.reduceAdd,Nat.reduceSub,af,ag,ah,ak]
 simp only[aY,go_sem,ac]
 refine aS (λ m fr st=>∃j:Nat,j≤p.modules.length∧m=p.modules.length - j∧fr=%[.o,.ref Z.length 0,.o,.mapr (Z.length+1),.o,.o,.o,.o,.o,.d (.sl 11 (p.modules.map iH)),dn p.modules.length,dn j|D6 (D5 [.o,.o])]∧st=Z++[bN p,some (.map (lj ((p.modules.take j).map Ctr.name)))]) p.modules.length _ (Wk.mask [1,3,9,10,11] ⟨0,by omega,by omega,rfl,rfl⟩) ?_
 rintro m fr st ⟨j,hj,hm,rfl,rfl⟩
 rcases aC j p.modules.length with hlt|hge
 ·have hd:decide ((j:Int)<(p.modules.length:Int))=true:=by simp;omega
  have w2:=bC j (by omega)
  have e1:=xM (l:=p.modules) hlt
  have hc:=hok.modules _ (bT mj hlt)
  have hnn:=hnm.modules _ (bT mj hlt)
  obtain⟨s1,s2,s3⟩:=hp.modules _ (bT mj hlt)
  have hfr:(p.modules.getD j mj).name∉(p.modules.take j).map Ctr.name:=nB mj hlt hok.mnames
  have hsn:(p.modules.take (j+1)).map Ctr.name=(p.modules.take j).map Ctr.name++[(p.modules.getD j mj).name]:=by rw[bG mj hlt,aJ];rfl
  generalize p.modules.getD j mj=x at e1 hc hnn hfr hsn s1 s2 s3
  obtain⟨c1,c2,c3,c4,c5,c6⟩:=hc
  have l1:=sK x.name hnn.1 c1
  have l2:=sK x.owner hnn.2 c2
  have ht:=λ id=>wW _ x.name hfr id
  have hrk:x.rely.Ok:=lF (by assumption)
  have hgk:x.guar.Ok:=lF (by assumption)
  have ha:=absent_p x.rely (B9 hrk)
  have hg:=bs x.guar hgk (by omega) true c4
  have hri:=yF x.frame (by simp only[reachBytes];omega) c6
  have hw:=wi x.frame (by omega) c5
  unfold eD bu at*
  simp only[go_sem,aY,iH,hd,w2,e1,ac,ad]
  refine⟨⟨by omega,by omega⟩,bH (l1 _ _ _ ?_)⟩
  simp only[go_sem,aY,w2,ac,ad]
  refine bH (l2 _ _ _ ?_)
  simp only[go_sem,aY,w2,ac,ad]
  refine bH (ht _ _ (by simp) _ _ ?_)
  simp only[go_sem,aY,←hsn,w2,ac,ad]
  refine bH (ha _ _ _ ?_)
  by_cases hab:x.rely.absent=true
  ·rw[hab]
   simp only[go_sem,aY,w2,ac,ad]
   refine gO (.bool false) ⟨λ q=>Bool.noConfusion q,?_⟩
   simp only[go_sem,aY,w2,ac,ad]
   refine bH (hg _ _ ?_)
   simp only[go_sem,aY,w2,ac,ad]
   refine bH (hri _ _ _ ?_)
   simp only[go_sem,aY,w2,ac,ad]
   refine bH (hw _ trivial _ ?_)
   simp only[go_sem,aY,w2,ac,ad]
   exact Wk.keep [1,3,9,10,11] [0,1] (by decide) (aE _) hbd ⟨p.modules.length - (j+1),by omega,j+1,by omega,rfl,by simp only[go_sem],by simp only[go_sem,nq]⟩
  ·have hab':x.rely.absent=false:=by simpa using hab
   have hr:=bs x.rely hrk (by omega) true (c3.resolve_left hab)
   unfold eD at hr
   rw[hab']
   simp only[go_sem,aY,w2,ac,ad]
   refine gO (.bool true) ⟨λ _=>⟨rfl,bH (hr _ _ ?_)⟩,?_⟩
   ·simp only[go_sem]
   simp only[go_sem,aY,w2,ac,ad]
   refine bH (hg _ _ ?_)
   simp only[go_sem,aY,w2,ac,ad]
   refine bH (hri _ _ _ ?_)
   simp only[go_sem,aY,w2,ac,ad]
   refine bH (hw _ trivial _ ?_)
   simp only[go_sem,aY,w2,ac,ad]
   exact Wk.keep [1,3,9,10,11] [0,1] (by decide) (aE _) hbd ⟨p.modules.length - (j+1),by omega,j+1,by omega,rfl,by simp only[go_sem],by simp only[go_sem,nq]⟩
 ·have hd:decide ((j:Int)<(p.modules.length:Int))=false:=by simp;omega
  simp only[go_sem,hd,ac]
  exact aQ hbd h
def tt(l:List Int):List (D×A):=l.map λ n=>(.int .i64 n,.d (.agg []))
theorem lf(n:Int):∀l:List Int,ja (.int .i64 n) (tt l)=some (if n∈l then some (.d (.agg []))else none)
 |[]=>rfl
 |x::l=>by
  have ih:=lf n l
  simp only[tt,aM,ja,ll,if_true]at ih ⊢
  by_cases hx:n=x
  ·subst hx;simp
  ·have h1:(n==x)=false:=by simpa using hx
   rw[h1]
   simp only
   rw[ih]
   simp [hx]
theorem nW(n:Int):∀l:List Int,nk (.int .i64 n) (.d (.agg [])) (tt l)=tt (if n∈l then l else l++[n])
 |[]=>rfl
 |x::l=>by
  have ih:=nW n l
  simp only[tt,aM,nk,ll,if_true]at ih ⊢
  by_cases hx:n=x
  ·subst hx;simp
  ·have h1:(n==x)=false:=by simpa using hx
   rw[h1]
   simp only
   rw[ih]
   by_cases h:n∈l<;> simp [h,hx]
theorem uc(n:Int)(l:List Int)(h:n∉l):rZ true (.int .i64 n) (some (.d (.agg []))) (tt l)=some (.tup [.d (.agg []),db false]):=by
 simp only[rZ,lf,if_neg h];rfl
theorem yI(n:Nat)(p:List Nat)(l:List Int):Ob.ren n p (.map (tt l))= .map (tt l):=by
 simp only[Ob.ren,tt,dZ];rfl
theorem locks_p{G:Glob}(hG:G.g 0=some cB)(p:Prg)(hp:p.Small)(hok:p.Ok)(Z:St)(R:A→St→Prop)(h:R (di 0) Z):AC Tryz.prog G 97 [.d (bK p)] Z R:=by
 have h1:=hp.ncel
 have h2:=hp.nmod
 have h3:=hp.nlck
 have bs:=bitS_p hG p (by omega)
 have sh:=nj p (by omega)
 unfold bK at*
 refine bg a9 Tryz.func97 rfl Tryz.ntmps97 (by simp only[go_sem]) λ hbd=> ?_
 simp only[ae,aj,Nat.reduceAdd,Nat.reduceSub,af,ag,ah,ak]
 simp only[aY,go_sem,ac]
 refine aS (λ m fr st=>∃j:Nat,j≤p.locks.length∧m=p.locks.length - j∧fr=%[.o,.ref Z.length 0,.o,.mapr (Z.length+1),.o,.o,.o,.o,.o,.o,.o,.d (.sl 6 (p.locks.map iZ)),dn p.locks.length,dn j|D6 (D5 (D4 [.o,.o,.o]))]∧st=Z++[bN p,some (.map (tt ((p.locks.take j).map Lck.cell)))]) p.locks.length _ (Wk.mask [1,3,11,12,13] ⟨0,by omega,by omega,rfl,rfl⟩) ?_
 rintro m fr st ⟨j,hj,hm,rfl,rfl⟩
 rcases aC j p.locks.length with hlt|hge
 ·have hd:decide ((j:Int)<(p.locks.length:Int))=true:=by simp;omega
  have w2:=bC j (by omega)
  have e1:=xw (l:=p.locks) hlt
  have hc:=hok.locks _ (bT mJ hlt)
  have s1:=hp.locks _ (bT mJ hlt)
  have hfr:(p.locks.getD j mJ).cell∉(p.locks.take j).map Lck.cell:=nB mJ hlt hok.lcells
  have hsn:(p.locks.take (j+1)).map Lck.cell=(p.locks.take j).map Lck.cell++[(p.locks.getD j mJ).cell]:=by rw[bG mJ hlt,aJ];rfl
  generalize p.locks.getD j mJ=x at e1 hc hfr hsn s1
  obtain⟨c1,c2,c3,c4,c5⟩:=hc
  obtain⟨hr,ht⟩:=eJ.1 c1
  have e2:=fZ p hr
  have n1:((p.cell x.cell).w !=1)=false:=by simp [c2]
  have hg:=bs x.inv (lF s1) (by omega) false c5
  have hs:=sh x.cell hr
  have hb:=mm p.modules iH c4
  rw[dU ht]at hs
  unfold eD at*
  simp only[go_sem,aY,iZ,hd,w2,e1,ac,ad]
  refine⟨⟨by omega,by omega⟩,bH (hs _ _ _ ?_)⟩
  simp only[go_sem,aY,fb,e2,n1,c3,ac]
  refine⟨hr,hr,?_⟩
  simp only[go_sem,aY,pP,uc _ _ hfr,nW,if_neg hfr,lf,eF,←hsn,ac]
  refine gO (.bool true) ⟨λ _=>⟨rfl,bH (hb _ _ _ ?_)⟩,?_⟩
  ·simp only[go_sem]
  simp only[go_sem,aY,pP,nW,if_neg hfr,lf,eF,←hsn,ac]
  refine bH (hg _ _ ?_)
  simp only[go_sem,w2]
  exact Wk.keep [1,3,11,12,13] [0,1] (by decide) (aE _) hbd ⟨p.locks.length - (j+1),by omega,j+1,by omega,rfl,by simp only[go_sem],by simp only[go_sem,yI]⟩
 ·have hd:decide ((j:Int)<(p.locks.length:Int))=false:=by simp;omega
  simp only[go_sem,hd,ac]
  exact aQ hbd h
mutual
theorem BZ(n:Nat)(p:List Nat):∀(a:A),a.bd n=true→a.ren n p=a
 | .ref id off,h=>by simp only[A.bd,av]at h;simp only[A.ren,iW,if_pos h]
 | .rs id sz off l w,h=>by simp only[A.bd,av]at h;simp only[A.ren,iW,if_pos h]
 | .mapr id,h=>by simp only[A.bd,av]at h;simp only[A.ren,iW,if_pos h]
 | .agg cs,h=>by simp only[A.bd]at h;simp only[A.ren,iz n p cs h]
 | .tup cs,h=>by simp only[A.bd]at h;simp only[A.ren,iz n p cs h]
 | .fn f cs ds,h=>by simp only[A.bd,aB]at h;simp only[A.ren,iz n p cs h.1,iz n p ds h.2]
 | .ifc t a,h=>by simp only[A.bd]at h;simp only[A.ren,BZ n p a h]
 | .d x,h=>rfl
 | .ea x o,h=>rfl
 | .grd _ _,h=>by simp [A.bd]at h
 | .o,h=>rfl
theorem iz(n:Nat)(p:List Nat):∀(l:List A),jo n l=true→Go.Ab.ix n p l=l
 |[],_=>rfl
 |a::r,h=>by simp only[jo,aB]at h;simp only[Go.Ab.ix,BZ n p a h.1,iz n p r h.2]
end
structure Ovr (Dm:Int→Prop) (e:Ex):Prop where
 nodes:e.nodes≤40
 deep:e.deep 40=true
 old:∀c∈jW 3 e,Dm c
 now:∀c∈jW 2 e,Dm c
theorem sH{G:Glob}(hG:G.g 0=some cB){g:FuncId}{first cap:List A}{Dm:Int→Prop}{Pk:St→Prop}(ha:Pred G g first cap Dm Pk){e:Ex}(he:Ovr Dm e)(Z:St)(hp:Pk Z)(R:A→St→Prop)(h:R (db true) Z):
  AC Tryz.prog G 138 [.d (eD e),.fn (.func g) first cap] Z R:=over_p hG ha e (lF he.nodes) (by have:=he.nodes;omega) he.deep he.old he.now Z hp R h
theorem ta{G:Glob}(hG:G.g 0=some cB){g:FuncId}{first cap:List A}{Dm:Int→Prop}{Pk:St→Prop}(ha:Pred G g first cap Dm Pk)(s:Stp)(hn:s.set.length≤100)(hg:Ovr Dm s.guard)(hs:∀a∈s.set,Ovr Dm a.to)(Z:St)(hp:Pk Z)(R:A→St→Prop)(h:R (db true) Z):
  AC Tryz.prog G 177 [.d (eP s),.fn (.func g) first cap] Z R:=by
 have og:=sH hG ha hg
 have hb:=ha.bd _ hp
 rw[aB]at hb
 have oa:=λ a (h:Ovr Dm a)=>sH hG ha h
 unfold eP eD at*
 refine bg a9 Tryz.func177 rfl Tryz.ntmps177 (by simp only[go_sem]) λ hbd=> ?_
 simp only[ae,aj,Nat.reduceAdd,Nat.reduceSub,af,ag,ah,ak]
 try simp only[go_sem]
 refine bH (og _ (ha.keep _ _ hp) _ ?_)
 simp only[go_sem,ac]
 refine aS (λ m fr st=>∃j:Nat,j≤s.set.length∧m=s.set.length - j∧fr=%[.o,.fn (.func g) first cap|D4 %[.o,.o,.o,.d (.sl 5 (s.set.map dM)),dn s.set.length,dn j|D4 [.o]]]∧st=Z) s.set.length _ ?_ ?_
 ·exact Wk.keep [1,13,14,15] [] (by decide) (aE _) hbd ⟨0,by omega,by omega,by simp only[go_sem,iz _ _ _ hb.1,iz _ _ _ hb.2];rfl,by simp only[go_sem,bt]⟩
 rintro m fr st ⟨j,hj,hm,rfl,rfl⟩
 rcases aC j s.set.length with hlt|hge
 ·have hd:decide ((j:Int)<(s.set.length:Int))=true:=by simp;omega
  have w2:=bC j (by omega)
  have e1:=iP (l:=s.set) hlt
  have o1:=oa _ (hs _ (bT dt hlt))
  generalize s.set.getD j dt=a at e1 o1
  simp only[go_sem,dM,hd,w2,e1,ac,ad]
  refine⟨⟨by omega,by omega⟩,bH (o1 _ (ha.keep _ _ hp) _ ?_)⟩
  simp only[go_sem,dM,hd,w2,e1,ac,ad]
  exact Wk.keep [1,13,14,15] [] (by decide) (aE _) hbd ⟨s.set.length - (j+1),by omega,j+1,by omega,rfl,by simp only[go_sem,iz _ _ _ hb.1,iz _ _ _ hb.2],by simp only[go_sem,bt]⟩
 ·have hd:decide ((j:Int)<(s.set.length:Int))=false:=by simp;omega
  simp only[go_sem,hd,ac]
  exact cw h
theorem qM{G:Glob}{g:FuncId}{first cap:List A}{Dm:Int→Prop}{Pk:St→Prop}(ha:Pred G g first cap Dm Pk)(l:List Asg)(hn:l.length≤100)(hs:∀a∈l,Dm a.cell)(Z:St)(hp:Pk Z)(R:A→St→Prop)(h:R (db true) Z):
  AC Tryz.prog G 178 [.d (.sl 5 (l.map dM)),.fn (.func g) first cap] Z R:=by
 have hb:=ha.bd _ hp
 rw[aB]at hb
 refine bg a9 Tryz.func178 rfl Tryz.ntmps178 (by simp only[go_sem]) λ hbd=> ?_
 simp only[ae,aj,Nat.reduceAdd,Nat.reduceSub,af,ag,ah,ak]
 simp only[go_sem,ac]
 refine aS (λ m fr st=>∃j:Nat,j≤l.length∧m=l.length - j∧fr=%[.o,.fn (.func g) first cap,.o,.o,.o,.o,.o,.d (.sl 5 (l.map dM)),dn l.length,dn j|D4 [.o]]∧st=Z) l.length _ (Wk.mask [1,7,8,9] ⟨0,by omega,by omega,rfl,rfl⟩) ?_
 rintro m fr st ⟨j,hj,hm,rfl,rfl⟩
 rcases aC j l.length with hlt|hge
 ·have hd:decide ((j:Int)<(l.length:Int))=true:=by simp;omega
  have w2:=bC j (by omega)
  have e1:=iP (l:=l) hlt
  have o1:=hs _ (bT dt hlt)
  generalize l.getD j dt=a at e1 o1
  simp only[go_sem,dM,hd,w2,e1,ac,ad]
  refine⟨⟨by omega,by omega⟩,bH (ha.ans a.cell _ _ o1 (ha.keep _ _ hp) ?_)⟩
  simp only[go_sem,dM,hd,w2,e1,ac,ad]
  exact Wk.keep [1,7,8,9] [] (by decide) (aE _) hbd ⟨l.length - (j+1),by omega,j+1,by omega,rfl,by simp only[go_sem,iz _ _ _ hb.1,iz _ _ _ hb.2],by simp only[go_sem,bt]⟩
 ·have hd:decide ((j:Int)<(l.length:Int))=false:=by simp;omega
  simp only[go_sem,hd,ac]
  exact cw h
theorem qm(p:Prg)(c:Int)(hc:0≤c∧c<p.cells.length)(Z:St)(G:Glob)(R:A→St→Prop)(h:R (db (p.cell c).ghost) Z):AC Tryz.prog G 179 [.d (bK p),di c] Z R:=by
 have e1:=fZ p hc
 unfold bK
 refine bg a9 Tryz.func179 rfl Tryz.ntmps179 (by simp only[go_sem]) λ hbd=> ?_
 simp only[ae,aj,Nat.reduceAdd,Nat.reduceSub,af,ag,ah,ak]
 simp only[aY,go_sem,e1,fb,ac]
 exact⟨hc,aQ hbd h⟩
theorem bare_p(s:Stp)(hn:s.set.length≤100)(hg:s.guard.nodes≤40)(h1:s.guard.one=true)(h2:s.set=[])(Z:St)(G:Glob)(R:A→St→Prop)(h:R (db true) Z):AC Tryz.prog G 181 [.d (eP s)] Z R:=by
 have o:=one_p s.guard (B9 (lF hg))
 rw[h1]at o
 have e0:((s.set.length:Int)==0)=true:=by rw[h2];rfl
 unfold eP eD at*
 refine bg a9 Tryz.func181 rfl Tryz.ntmps181 (by simp only[go_sem]) λ hbd=> ?_
 simp only[ae,aj,Nat.reduceAdd,Nat.reduceSub,af,ag,ah,ak]
 try simp only[go_sem]
 refine bH (o _ _ _ ?_)
 simp only[go_sem,e0,ac]
 exact aQ hbd h
theorem Ans.app{b:Bool}{G:Glob}{g:FuncId}{first cap:List A}{Dm:Int→Prop}{Pk:St→Prop}(ha:Ans b G g first cap Dm Pk)(c:Int)(st:St)(R:A→St→Prop)(h1:Dm c)(h2:Pk st)(h:R (db b) st):AC Tryz.prog G g (first++[di c]++cap) st R:=by
 rw[aU];exact ha c st R h1 h2 h
theorem store1_p(p:Prg)(t:Int)(hn:p.cells.length≤1000)(G:Glob)(i j:Nat){g:FuncId}{first cap:List A}{Pk:St→Prop}(ha:Pred G g first cap (λ c=>p.viB t c=true) Pk):
  Pred G 180 [] [.ref i 0,.ref j 0] (λ c=>(p.cell c).ghost=true∧p.viB t c=true) λ st=>(st[i]? =some (bN p)∧st[j]? =some (some (.cells [.fn (.func g) first cap])))∧Pk st:=by
 refine⟨?_,λ st l h=>⟨⟨jf h.1.1,jf h.1.2⟩,ha.keep _ _ h.2⟩,λ st h=> ?_⟩
 ·rintro c st R ⟨hg,hc⟩ ⟨⟨h1,h2⟩,h3⟩ h
  have hr:=(jT.1 hc).1
  have hgh:=qm p c hr
  rw[hg]at hgh
  show AC Tryz.prog G 180 [di c,.ref i 0,.ref j 0] st R
  unfold bK at hgh
  refine bg a9 Tryz.func180 rfl Tryz.ntmps180 (by simp only[go_sem]) λ hbd=> ?_
  simp only[ae,aj,Nat.reduceAdd,Nat.reduceSub,af,ag,ah,ak]
  simp only[go_sem,aO h1,aX h1,aO h2,aX h2]
  refine bH (hgh _ _ _ ?_)
  simp only[go_sem,aO h1,aX h1,aO h2,aX h2]
  refine gO (.bool true) ⟨λ _=>⟨rfl,bH (ha.ans.app c _ _ hc h3 ?_)⟩,?_⟩
  ·simp only[go_sem]
  try simp only[go_sem]
  exact cw h
 ·have:=aL h.1.1
  have:=aL h.1.2
  simp only[jo,A.bd]
  simp;omega
end
end Go.Proofs.YtdpdbokicanpoaaGreatDoor
