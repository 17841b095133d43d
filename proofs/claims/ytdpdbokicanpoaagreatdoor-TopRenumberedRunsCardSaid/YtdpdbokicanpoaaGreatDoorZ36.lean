import Derived.Test.YtdpdbokicanpoaaGreatDoorZ35
set_option linter.unusedSimpArgs false
set_option linter.unusedVariables false
set_option maxHeartbeats 64000000
set_option maxRecDepth 100000
namespace Go.Proofs.YtdpdbokicanpoaaGreatDoor
section
open Go Go.Ab
abbrev iO(x:Cho):Option Ob:=some (.cells [.d (iD x.thread),.d (iD x.step),.d (iD x.cell)])
theorem eH{l:List Int}{t:Nat}(h:t<l.length)(v:Int):List.take t (l.map λ x=>A.d (iD x))++A.d (iD v)::List.drop (t+1) (l.map λ x=>A.d (iD x))=(l.set t v).map λ x=>A.d (iD x):=by
 rw[fF,da,if_pos (by rw[ac];exact h)]
abbrev Al(c:Cfg)(t id:Nat):Option Ob:=some (.cells ((c.buf.map λ b=>A.d (cu b)).set t (.rs id 2 0 (c.bufAt t).length (some 48))))
theorem pW{c:Cfg}{t:Nat}(h:t<c.buf.length):(c.buf.map λ b=>A.d (cu b)).set t (A.d (.sl 2 ((c.bufAt t).map bO)))=c.buf.map λ b=>A.d (cu b):=by
 rw[show A.d (.sl 2 ((c.bufAt t).map bO))=(λ b=>A.d (cu b)) (c.bufAt t)from rfl,←fF]
 congr 1
 apply cz
 intro i
 rw[aR]
 split
 ·rename_i e;subst e
  have h':=h
  simp only[if_true,Cfg.bufAt,au,ap h,b9,h]
 ·rfl
def kU(p:Prg)(l:List Asg):List Asg:=l.filter λ a=>(p.cell a.cell).thread== -1
def pn(p:Prg)(l:List Asg):List Asg:=l.filter λ a=>(p.cell a.cell).thread != -1
abbrev zV(a b:A):Option Ob:=some (.cells [a,b])
theorem tL(c:Cfg)(t:Nat)(s:Stp):(iL c t s).length=c.pos.length:=by
 unfold iL;split<;> simp
theorem nextS_r(p:Prg)(hp:Good p)(m:Int)(hm:0≤m∧m≤2)(c:Cfg)(hf:Fits p m c)(t i:Nat)(ht:t<p.threads.length)(hi:i<(p.thr t).steps.length)(he:qt p m c t (p.stp t i)=true)(Z:St)(G:Glob)(R:A→St→Prop)(h:R (.tup [.d (bX (nG p m c t (p.stp t i))),di 0]) Z):AC Tryz.prog G 34 [.d (bK p),di m,.d (bX c),.d (c7 ⟨t,i,0⟩)] Z R:=by
 have hx:(⟨t,i,0⟩:Cho)∈fY p m c:=l9.2 ⟨t,ht,.inl ⟨i,hi,he,rfl⟩⟩
 have fi:=Bh p hp m hm c hf
 have en:=rO p hp m hm c hf
 have ha:=has_r (fY p m c) (by have:=qy hp hf;omega) _ hx
 have vw:=yj p hp m c hf t ht
 obtain⟨z1,z2,z3,z4⟩:=hf.sz hp
 have htb0:t<c.buf.length:=by rw[hf.nbuf];exact ht
 have cp:=CopyU_r c t htb0 (by omega) (by omega) (by omega) (λ l hl=>⟨by have:=(z4 l hl).1;omega,λ e he=>by have:=(z4 l hl).2 e he;omega⟩)
 have e1:=fe (l:=p.threads) ht
 have e2:=mw (l:=(p.thr t).steps) hi
 have hsk:=qN hp.ok ht hi
 have hnp:=hf.npos
 have hpt:t<c.pos.length:=by rw[hf.npos];exact ht
 have hth:p.threads.getD t fg=p.thr t:=rfl
 have hstp:(p.thr t).steps.getD i jY=p.stp t i:=rfl
 have hss:=(hp.thrS ht).steps (p.stp t i) (by rw[hth,←hstp];exact bv jY hi)
 rw[hth]at e1
 rw[hstp]at e2
 generalize p.stp t i=s at*
 have s1:decide ((i:Int)<0)=false:=by simp
 unfold bK bX c7 at*
 refine bD [12,26] a9 Tryz.func34 rfl Tryz.ntmps34 (by simp only[go_sem]) λ hbd=> ?_
 simp only[ae,aj,Nat.reduceAdd,Nat.reduceSub,af,ag,ah,ak]
 try simp only[go_sem]
 refine bH (fi _ _ _ ?_)
 try simp only[go_sem]
 refine bb (.tk 3 0<| .pure 3<| .tk 3 4<| .done) (by kernel_rfl) ?_
 try simp only[go_sem]
 refine mN (.d (.sl 3 ((fY p m c).map c7))) ⟨λ Z'=>bH (en Z' G _ ⟨rfl,rfl⟩),?_⟩
 try simp only[go_sem]
 refine bH (ha _ _ _ ?_)
 simp only[go_sem,s1]
 refine bb (.tk 13 0<| .done) (by kernel_rfl) ?_
 simp only[go_sem,c8,e1,e2,ac,ad]
 refine⟨⟨by omega,by omega⟩,⟨by omega,by omega⟩,?_⟩
 simp only[go_sem,eP]
 refine bH (cp _ _ _ ?_)
 simp only[go_sem,bY,hpt,eH hpt,br,ac,ad]
 refine⟨by simp,⟨by omega,by omega⟩,by omega,?_⟩
 refine bc (λ fr st=>fr=%[.o,di m,.o,.o,.ref Z.length 0,.o,.ref (Z.length+1) 0,.ref (Z.length+2) 0,.ref (Z.length+3) 0,.o,.ref (Z.length+4) 0,.ref (Z.length+9) 0|D7 (D7 [.o,.o,.o,.o,.o,.o])]∧st=Z++[bN p,dy c,iO ⟨t,i,0⟩,df (.d .nils) (.d .nils) (.d .nils),gS s,bY c.mem,bY (iL c t s),Al c t (Z.length+8),some (.cells (bU ((c.bufAt t).map bO))),df (.rs (Z.length+5) 1 0 c.mem.length (some 3)) (.rs (Z.length+6) 1 0 c.pos.length (some 3)) (.rs (Z.length+7) 1 0 c.buf.length (some 46))]) ?_ ?_
 ·by_cases hk6:s.kind=6
  ·have b6:(s.kind==6)=true:=by simp [hk6]
   have htg:0≤s.target∧s.target<p.threads.length:=by
    rcases hsk.kind with q|q|q|q|q|q|q<;> first|(have:=q.1;omega)|skip
    exact cS.1 q.2.2.2.1
   have hpl:s.target.toNat<(c.pos.set t s.dst).length:=by rw[aH];omega
   have hps:iL c t s=(c.pos.set t s.dst).set s.target.toNat 0:=by unfold iL;rw[if_pos hk6]
   rw[hps]
   simp only[go_sem,b6,bY,hpl,ac,aH,eH hpl,br]
   refine⟨by omega,by omega,Wk.mask [1,4,6,7,8,10,11] ⟨?_,rfl⟩⟩
   simp [iX]
  ·have b6:(s.kind==6)=false:=by simp [hk6]
   have hps:iL c t s=c.pos.set t s.dst:=by unfold iL;rw[if_neg hk6]
   rw[hps]
   simp only[go_sem,b6,bY,ac,br]
   exact Wk.mask [1,4,6,7,8,10,11] ⟨rfl,rfl⟩
 rintro fr st ⟨rfl,rfl⟩
 have hpml:(iL c t s).length=c.pos.length:=tL c t s
 have hvl:(cT c t).length=c.mem.length:=by rw[(wT hf t).len,hf.mem.len]
 have hml:=hf.mem.len
 have has:∀a∈s.set,AsgIn c.mem.length a:=λ a ha=>by
  have:=hsk.set a ha
  refine⟨?_,lF (hss.to a ha),?_⟩
  ·rw[hml];exact cS.1 this.cell
  ·have:=Ex.valid_iff.1 this.to
   simp only[Ex.formed,aB,av];exact⟨this.1,this.2.1⟩
 have hs4:=hss.set
 by_cases hk:s.kind=3∧m≠0
 ·obtain⟨hk3,hm0⟩:=hk
  have b3:((s.kind !=3)||(m==0))=false:=by simp [hk3,hm0]
  simp only[go_sem,ac,ad]
  refine bH (vw _ _ _ ?_)
  simp only[go_sem,b3]
  refine bc (λ fr st=>fr=%[.o,di m,.o,.o,.ref Z.length 0,.o,.ref (Z.length+1) 0,.ref (Z.length+2) 0,.ref (Z.length+3) 0,.o,.ref (Z.length+4) 0,.ref (Z.length+9) 0,.d (bu (cT c t)),.ref (Z.length+10) 0|D7 (D7 [.o,.o,.o,.o])]∧st=Z++[bN p,dy c,iO ⟨t,i,0⟩,df (.d .nils) (.d .nils) (.d .nils),gS s,bY (gT (cT c t) c.mem (pn p s.set)),bY (iL c t s),Al c t (Z.length+8),some (.cells (bU ((c.bufAt t).map bO))),df (.rs (Z.length+5) 1 0 c.mem.length (some 3)) (.rs (Z.length+6) 1 0 c.pos.length (some 3)) (.rs (Z.length+7) 1 0 c.buf.length (some 46)),zV (.d (bu ((kU p s.set).map Asg.cell))) (.d (bu ((kU p s.set).map λ a=>mu (cT c t) a.to)))]) ?_ ?_
  ·try simp only[go_sem]
   refine aS (λ k fr st=>∃j:Nat,j≤s.set.length∧k=s.set.length - j∧fr=%[.o,di m,.o,.o,.ref Z.length 0,.o,.ref (Z.length+1) 0,.ref (Z.length+2) 0,.ref (Z.length+3) 0,.o,.ref (Z.length+4) 0,.ref (Z.length+9) 0,.d (bu (cT c t)),.ref (Z.length+10) 0,dn j|D7 (D7 [.o,.o,.o])]∧st=Z++[bN p,dy c,iO ⟨t,i,0⟩,df (.d .nils) (.d .nils) (.d .nils),gS s,bY (gT (cT c t) c.mem (pn p (s.set.take j))),bY (iL c t s),Al c t (Z.length+8),some (.cells (bU ((c.bufAt t).map bO))),df (.rs (Z.length+5) 1 0 c.mem.length (some 3)) (.rs (Z.length+6) 1 0 c.pos.length (some 3)) (.rs (Z.length+7) 1 0 c.buf.length (some 46)),zV (.rs (Z.length+11) 1 0 (kU p (s.set.take j)).length (some 3)) (.rs (Z.length+12) 1 0 (kU p (s.set.take j)).length (some 3)),bY ((kU p (s.set.take j)).map Asg.cell),bY ((kU p (s.set.take j)).map λ a=>mu (cT c t) a.to)]) s.set.length _ ?_ ?_
   ·refine Wk.via (bw.emptyIn (Z:=Z) 10 0 1 (some 3) rfl rfl) ?_
    refine Wk.via (bw.emptyIn (Z:=Z) 10 1 1 (some 3) rfl rfl) ?_
    exact Wk.mask [1,4,6,7,8,10,11,12,13,14] ⟨0,by omega,by omega,rfl,by simp [bY,pn,kU,gT]⟩
   rintro k fr st ⟨j,hj,hkk,rfl,rfl⟩
   rcases aC j s.set.length with hlt|hge
   ·have hd:decide ((j:Int)<(s.set.length:Int))=true:=by simp;omega
    have w2:=bC j (by omega)
    have e5:=iP (l:=s.set) hlt
    have ham:=bv dt hlt
    have hsn:=bG dt hlt
    generalize s.set.getD j dt=a at e5 ham hsn
    obtain⟨a1,a2,a3⟩:=has a ham
    have ev:=uu a.to a2 a3 (cT c t) (cT c t) (by simp only[reachBytes];omega) (by simp only[reachBytes];omega)
    unfold eD at ev
    have hcr:0≤a.cell∧a.cell<p.cells.length:=by omega
    have e6:=fZ p hcr
    simp only[go_sem,hd,dM,e5,ac,ad]
    refine⟨⟨by omega,by omega⟩,bH (ev _ _ _ ?_)⟩
    have hsl:=(j0 (cT c t) c.mem (pn p (s.set.take j)))
    have hfl:(kU p (s.set.take j)).length≤j:=by
     have h1:=ez (λ a:Asg=>(p.cell a.cell).thread== -1) (s.set.take j)
     rw[aP]at h1
     unfold kU;omega
    by_cases hsh:(p.cell a.cell).thread= -1
    ·have b5:((p.cell a.cell).thread== -1)=true:=by simp [hsh]
     have f1:kU p (s.set.take (j+1))=kU p (s.set.take j)++[a]:=by unfold kU;rw[hsn,du];simp [hsh]
     have f2:pn p (s.set.take (j+1))=pn p (s.set.take j):=by unfold pn;rw[hsn,du];simp [hsh]
     simp only[go_sem,aY,e6,fb,b5,w2,bY,ac,ad]
     refine⟨hcr,⟨by omega,by simp only[maxLen];omega,by omega⟩,⟨by omega,by simp only[maxLen];omega,by omega⟩,?_⟩
     refine Wk.keep [1,4,6,7,8,10,11,12,13,14] [0,1,2,3,4,5,6,7,8,9,10,15,17] (by decide) (aE _) hbd ⟨s.set.length - (j+1),by omega,j+1,by omega,rfl,by simp only[go_sem],?_⟩
     rw[f1,f2]
     simp only[go_sem,dj,cx,ec,dK _ _ _ (gA c.buf),cG,aJ,aM,bq,aF,ae,aj]
     rfl
    ·have b5:((p.cell a.cell).thread== -1)=false:=by simp [hsh]
     have f1:kU p (s.set.take (j+1))=kU p (s.set.take j):=by unfold kU;rw[hsn,du];simp [hsh]
     have f2:pn p (s.set.take (j+1))=pn p (s.set.take j)++[a]:=by unfold pn;rw[hsn,du];simp [hsh]
     have f3:gT (cT c t) c.mem (pn p (s.set.take (j+1)))=(gT (cT c t) c.mem (pn p (s.set.take j))).set a.cell.toNat (mu (cT c t) a.to):=by
      rw[f2];unfold gT;rw[dG];rfl
     have hpl:a.cell.toNat<(gT (cT c t) c.mem (pn p (s.set.take j))).length:=by omega
     simp only[go_sem,aY,e6,fb,b5,w2,bY,hpl,eH hpl,br,ac,ad]
     refine⟨hcr,by omega,by omega,?_⟩
     refine Wk.keep [1,4,6,7,8,10,11,12,13,14] [0,1,2,3,4,5,6,7,8,9,10,11,12] (by decide) (aE _) hbd ⟨s.set.length - (j+1),by omega,j+1,by omega,rfl,by simp only[go_sem],?_⟩
     rw[f1,f3]
     simp only[go_sem,cx,ec,dK _ _ _ (gA c.buf),cG]
     rfl
   ·have hd:decide ((j:Int)<(s.set.length:Int))=false:=by simp;omega
    obtain rfl:j=s.set.length:=by omega
    rw[bB]
    simp only[go_sem,hd,ac]
    refine Wk.via (bw.freezeIn (Z:=Z) 11 10 1 0 (((kU p s.set).map Asg.cell).map iD) rfl (cJ _) rfl (by decide)) ?_
    simp only[go_sem,ac,and_self,if_true,false_and,if_false]
    refine Wk.via (bw.freezeIn (Z:=Z) 12 10 1 0 (((kU p s.set).map λ a=>mu (cT c t) a.to).map iD) rfl (cJ _) rfl (by decide)) ?_
    simp only[go_sem,ac,and_self,if_true,false_and,if_false]
    exact Wk.keep [1,4,6,7,8,10,11,12,13] [0,1,2,3,4,5,6,7,8,9,10] (by decide) (aE _) hbd ⟨by simp only[go_sem],by simp only[go_sem,bY,bu,cx,ec,dK _ _ _ (gA c.buf),cG];rfl⟩
  rintro fr st ⟨rfl,rfl⟩
  have htb:t<c.buf.length:=by rw[hf.nbuf];exact ht
  have hLl:t<(c.buf.map λ b=>A.d (cu b)).length:=by rw[ac];exact htb
  have hgs:=g7 hLl
  have hss:=fH hLl
  have hbl:=(hf.bufOk t).1
  have hex:nG p m c t s=⟨gT (cT c t) c.mem (pn p s.set),iL c t s,c.buf.set t (c.bufAt t++[⟨(kU p s.set).map Asg.cell,(kU p s.set).map λ a=>mu (cT c t) a.to⟩])⟩:=by
   unfold nG;rw[if_pos ⟨hk3,hm0⟩];rfl
  rw[hex]at h
  obtain⟨E,hE⟩:∃E:Ent,E=⟨(kU p s.set).map Asg.cell,(kU p s.set).map λ a=>mu (cT c t) a.to⟩:=⟨_,rfl⟩
  rw[←hE]at h
  rw[show(kU p s.set).map Asg.cell=E.cells by rw[hE],show((kU p s.set).map λ a=>mu (cT c t) a.to)=E.vals by rw[hE]]
  obtain⟨N,hN⟩:∃N,gT (cT c t) c.mem (pn p s.set)=N:=⟨_,rfl⟩
  have hNl:N.length=c.mem.length:=by rw[←hN];exact j0 _ _ _
  rw[hN]at h ⊢
  obtain⟨B,hB⟩:∃B,c.bufAt t=B:=⟨_,rfl⟩
  rw[hB]at h hbl ⊢
  try simp only[go_sem]
  refine bb (.tk 7 4<| .alt 0 (.alt 1 (.alt 2 (.alt 3 (.tk 4 11<| .done)<| .alt 11 (.alt 3 (.tk 3 12<| .done)<| .alt 12 (.take 3<| .tk 2 13<| .done)<| .stop)<| .stop)<| .alt 11 (.alt 2 (.alt 3 (.tk 3 12<| .done)<| .alt 12 (.take 3<| .tk 2 13<| .done)<| .stop)<| .alt 12 (.tk 2 2<| .tk 2 13<| .done)<| .stop)<| .stop)<| .alt 2 (.alt 1 (.alt 3 (.tk 4 11<| .done)<| .alt 11 (.alt 3 (.tk 3 12<| .done)<| .alt 12 (.take 3<| .tk 2 13<| .done)<| .stop)<| .stop)<| .alt 3 (.alt 1 (.tk 4 11<| .done)<| .alt 11 (.alt 1 (.tk 3 12<| .done)<| .alt 12 (.take 1<| .tk 2 13<| .done)<| .stop)<| .stop)<| .alt 11 (.alt 1 (.alt 3 (.tk 3 12<| .done)<| .alt 12 (.take 3<| .tk 2 13<| .done)<| .stop)<| .alt 3 (.alt 1 (.tk 3 12<| .done)<| .alt 12 (.take 1<| .tk 2 13<| .done)<| .stop)<| .alt 12 (.take 1<| .take 3<| .tk 2 13<| .done)<| .stop)<| .stop)<| .alt 11 (.alt 1 (.alt 2 (.alt 3 (.tk 3 12<| .done)<| .alt 12 (.take 3<| .tk 2 13<| .done)<| .stop)<| .alt 12 (.tk 2 2<| .tk 2 13<| .done)<| .stop)<| .alt 2 (.alt 1 (.alt 3 (.tk 3 12<| .done)<| .alt 12 (.take 3<| .tk 2 13<| .done)<| .stop)<| .alt 3 (.alt 1 (.tk 3 12<| .done)<| .alt 12 (.take 1<| .tk 2 13<| .done)<| .stop)<| .alt 12 (.take 1<| .take 3<| .tk 2 13<| .done)<| .stop)<| .alt 12 (.tk 3 1<| .tk 2 13<| .done)<| .stop)<| .stop)<| .alt 2 (.alt 0 (.alt 1 (.alt 3 (.tk 4 11<| .done)<| .alt 11 (.alt 3 (.tk 3 12<| .done)<| .alt 12 (.take 3<| .tk 2 13<| .done)<| .stop)<| .stop)<| .alt 3 (.alt 1 (.tk 4 11<| .done)<| .alt 11 (.alt 1 (.tk 3 12<| .done)<| .alt 12 (.take 1<| .tk 2 13<| .done)<| .stop)<| .stop)<| .alt 11 (.alt 1 (.alt 3 (.tk 3 12<| .done)<| .alt 12 (.take 3<| .tk 2 13<| .done)<| .stop)<| .alt 3 (.alt 1 (.tk 3 12<| .done)<| .alt 12 (.take 1<| .tk 2 13<| .done)<| .stop)<| .alt 12 (.take 1<| .take 3<| .tk 2 13<| .done)<| .stop)<| .stop)<| .alt 3 (.alt 0 (.alt 1 (.tk 4 11<| .done)<| .alt 11 (.alt 1 (.tk 3 12<| .done)<| .alt 12 (.take 1<| .tk 2 13<| .done)<| .stop)<| .stop)<| .alt 11 (.alt 0 (.alt 1 (.tk 3 12<| .done)<| .alt 12 (.take 1<| .tk 2 13<| .done)<| .stop)<| .alt 12 (.tk 2 0<| .tk 2 13<| .done)<| .stop)<| .stop)<| .alt 11 (.alt 0 (.alt 1 (.alt 3 (.tk 3 12<| .done)<| .alt 12 (.take 3<| .tk 2 13<| .done)<| .stop)<| .alt 3 (.alt 1 (.tk 3 12<| .done)<| .alt 12 (.take 1<| .tk 2 13<| .done)<| .stop)<| .alt 12 (.take 1<| .take 3<| .tk 2 13<| .done)<| .stop)<| .alt 3 (.alt 0 (.alt 1 (.tk 3 12<| .done)<| .alt 12 (.take 1<| .tk 2 13<| .done)<| .stop)<| .alt 12 (.tk 2 0<| .tk 2 13<| .done)<| .stop)<| .alt 12 (.tk 2 0<| .take 3<| .tk 2 13<| .done)<| .stop)<| .stop)<| .alt 11 (.alt 0 (.alt 1 (.alt 2 (.alt 3 (.tk 3 12<| .done)<| .alt 12 (.take 3<| .tk 2 13<| .done)<| .stop)<| .alt 12 (.tk 2 2<| .tk 2 13<| .done)<| .stop)<| .alt 2 (.alt 1 (.alt 3 (.tk 3 12<| .done)<| .alt 12 (.take 3<| .tk 2 13<| .done)<| .stop)<| .alt 3 (.alt 1 (.tk 3 12<| .done)<| .alt 12 (.take 1<| .tk 2 13<| .done)<| .stop)<| .alt 12 (.take 1<| .take 3<| .tk 2 13<| .done)<| .stop)<| .alt 12 (.tk 3 1<| .tk 2 13<| .done)<| .stop)<| .alt 2 (.alt 0 (.alt 1 (.alt 3 (.tk 3 12<| .done)<| .alt 12 (.take 3<| .tk 2 13<| .done)<| .stop)<| .alt 3 (.alt 1 (.tk 3 12<| .done)<| .alt 12 (.take 1<| .tk 2 13<| .done)<| .stop)<| .alt 12 (.take 1<| .take 3<| .tk 2 13<| .done)<| .stop)<| .alt 3 (.alt 0 (.alt 1 (.tk 3 12<| .done)<| .alt 12 (.take 1<| .tk 2 13<| .done)<| .stop)<| .alt 12 (.tk 2 0<| .tk 2 13<| .done)<| .stop)<| .alt 12 (.tk 2 0<| .take 3<| .tk 2 13<| .done)<| .stop)<| .alt 12 (.tk 4 0<| .tk 2 13<| .done)<| .stop)<| .stop) (by kernel_rfl) ?_
  have hfl:=dx B
  simp only[go_sem,bu,hB,hgs,hss,ac,aH,ad,br]
  refine⟨⟨by omega,by omega⟩,by omega,⟨hfl,by simp only[maxLen];omega,by omega⟩,⟨by omega,by omega⟩,by omega,?_⟩
  have hle:mQ (bU (B.map bO)++[A.d (.sl 1 (E.cells.map iD)),A.d (.sl 1 (E.vals.map iD))]) 2 0 ((B++[E]).map bO):=by
   have:=iB (B++[E])
   rw[iG]at this;exact this
  have hst:(c.buf.map λ b=>A.d (cu b)).set t (A.d (.sl 2 ((B++[E]).map bO)))=(c.buf.set t (B++[E])).map λ b=>A.d (cu b):=by
   rw[fF];rfl
  refine nY (bw.freezeIn (Z:=Z) 12 7 2 0 ((B++[E]).map bO) rfl hle rfl (by decide)) ?_
  simp only[go_sem,ac,aF,ae,aj,gF,iF _ _ _ _ _ (gA c.buf),and_self,if_true,false_and,if_false]
  rw[hst]
  refine de 5 1 0 (N.map iD) rfl (cJ _) ?_
  simp only[go_sem,ac,hNl,and_self,if_true,false_and,if_false]
  refine de 6 1 0 ((iL c t s).map iD) rfl (cJ _) ?_
  simp only[go_sem,ac,hpml,and_self,if_true,false_and,if_false]
  refine de 7 1 0 ((c.buf.set t (B++[E])).map cu) rfl (gV cu (λ _=>⟨rfl,rfl⟩) _) ?_
  simp only[go_sem,ac,aH,and_self,if_true,false_and,if_false]
  exact dq hbd rfl h
 have hb:((s.kind !=3)||(m==0))=true:=by
  by_cases h3:s.kind=3
  ·by_cases h0:m=0
   ·simp [h0]
   ·exact absurd ⟨h3,h0⟩ hk
  ·simp [h3]
 have hex:nG p m c t s=⟨gT (cT c t) c.mem s.set,iL c t s,c.buf⟩:=by unfold nG;rw[if_neg hk]
 rw[hex]at h
 have wr:=write_r c.mem (cT c t) (by omega) (by omega) s.set (by have:=hss.set;omega) has
 simp only[go_sem,ac,ad]
 refine bH (vw _ _ _ ?_)
 simp only[go_sem,hb]
 refine bH (wr _ _ _ ?_)
 simp only[go_sem,bu]
 refine nY (bw.freezeIn (Z:=Z) 8 7 2 0 ((c.bufAt t).map bO) rfl (iB _) rfl (by decide)) ?_
 simp only[go_sem,ac,gF,iF _ _ _ _ _ (gA c.buf),and_self,if_true,false_and,if_false,pW htb0]
 refine de 6 1 0 ((iL c t s).map iD) rfl (cJ _) ?_
 simp only[go_sem,ac,hpml,and_self,if_true,false_and,if_false]
 refine de 7 1 0 (c.buf.map cu) rfl (gV cu (λ _=>⟨rfl,rfl⟩) c.buf) ?_
 simp only[go_sem,ac,hpml,and_self,if_true,false_and,if_false]
 exact dq hbd rfl h
theorem next_r(p:Prg)(hp:Good p)(m:Int)(hm:0≤m∧m≤2)(c:Cfg)(hf:Fits p m c)(x:Cho)(hx:x∈fY p m c)(Z:St)(G:Glob)(R:A→St→Prop)(h:R (.tup [.d (bX (fV p m c x)),di 0]) Z):AC Tryz.prog G 34 [.d (bK p),di m,.d (bX c),.d (c7 x)] Z R:=by
 obtain⟨t,ht,hxt⟩:=l9.1 hx
 rcases hxt with⟨i,hi,he,e⟩|⟨i,hi,hr,e⟩
 ·subst e
  rw[oc]at h
  exact nextS_r p hp m hm c hf t i ht hi he Z G R h
 ·exact nextC_r p hp m hm c hf x hx (by rw[e]) Z G R h
theorem wj(p:Prg)(m:Int)(c:Cfg)(l:List Cho)(x:Cho):jG p m c (l++[x])=fV p m (jG p m c l) x:=by
 unfold jG;rw[dG];rfl
theorem zK{p:Prg}(hp:p.Ok){m:Int}{l:List Cho}{c:Cfg}(hf:Fits p m c)(hl:fK p m c l):Fits p m (jG p m c l):=by
 have h1:=nX (p:=p) (m:=m) (l:=l) (c:=c) (i:=l.length) (aE _)
 rw[bB]at h1
 exact nD hp hf hl _ (bh h1)
theorem Gi(p:Prg)(hp:Good p)(m:Int)(hm:0≤m∧m≤2)(picks:List Int)(hpk:picks.length≤reachBytes)(hp0:∀x∈picks,0≤x∧x<256)(Z:St)(G:Glob)(R:A→St→Prop)(h:∀L,fK p m (bS p) L→L.length≤40→R (.d (.sl 3 (L.map c7))) Z):AC Tryz.prog G 11 [.d (bK p),di m,.d (.sl 1 (picks.map ET))] Z R:=by
 have hpk2:=rS hpk
 have sr:=start_r p hp
 have hfs:=jl hp.ok m
 unfold bK at*
 refine bg a9 Tryz.func11 rfl Tryz.ntmps11 (by simp only[go_sem]) λ hbd=> ?_
 simp only[ae,aj,Nat.reduceAdd,Nat.reduceSub,af,ag,ah,ak]
 try simp only[go_sem]
 refine bH (sr _ _ _ ?_)
 simp only[bX,go_sem]
 refine aS (λ k fr st=>∃(j:Nat) (L:List Cho),fK p m (bS p) L∧L.length≤j∧j≤picks.length∧j≤40∧k=40 - j∧fr=%[.o,di m,.d (.sl 1 (picks.map ET)),.ref Z.length 0,.o,.o,.o,.ref (Z.length+1) 0,.rs (Z.length+2) 3 0 L.length (some 37),dn j|D6 (D5 [.o,.o,.o,.o])]∧st=Z++[bN p,dy (jG p m (bS p) L),jE L]) 40 _ ?_ ?_
 ·exact⟨_,_,(bw.mask [1,2,3,7,8,9]).trans (bw.empty 8 3 (some 37) rfl),0,[],trivial,by simp,by omega,by omega,by omega,by rw[aF];rfl,by simp [bU,jG]⟩
 rintro k fr st ⟨j,L,hrun,hL,hj,hj40,hk,rfl,rfl⟩
 have hfc:=zK hp.ok hfs hrun
 obtain⟨c,hc⟩:∃c,jG p m (bS p) L=c:=⟨_,rfl⟩
 rw[hc]at hfc
 rw[hc]
 by_cases hdone:j<picks.length∧j<40
 ·obtain⟨hlt,hlt4⟩:=hdone
  have hd:decide ((j:Int)<(picks.length:Int))=true:=by simp;omega
  have hd4:decide ((j:Int)<40)=true:=by simp;omega
  have w2:=bC j (by omega)
  have en:=rO p hp m hm c hfc
  obtain⟨C,hC⟩:∃C,fY p m c=C:=⟨_,rfl⟩
  rw[hC]at en
  unfold bK bX at en
  simp only[go_sem,hd,hd4,ac]
  refine bH (en _ _ _ ?_)
  have e1:=Gn (l:=picks) hlt
  have hx:=hp0 _ (bv 0 hlt)
  generalize picks.getD j 0=x at e1 hx
  have wx:IntKind.i64.wrap x=x:=cq _ (by omega) (by omega)
  have fin:R (.d (.sl 3 (L.map c7))) Z:=h L hrun (by omega)
  cases hC0:((C.length:Int)==0)with
  |true=>
   simp only[go_sem,hC0,ac]
   refine de 2 3 0 (L.map c7) rfl (kZ L) ?_
   simp only[go_sem,ac,and_self,if_true]
   exact aQ hbd fin
  |false=>
   have hCp:0<C.length:=by
    have:¬(C.length:Int)=0:=by simpa using hC0
    omega
   obtain⟨y,hy,hyn⟩:∃y:Nat,x.tmod (C.length:Int)=(y:Int)∧y<C.length:=by
    have h1:=EA (C.length:Int) hx.1
    have h2:=Ev x (show(0:Int)<(C.length:Int)by omega)
    exact⟨(x.tmod (C.length:Int)).toNat,by omega,by omega⟩
   have ey:=uF (l:=C) hyn
   have hyC:C.getD y fE∈fY p m c:=by rw[hC];exact bv fE hyn
   have nx:=next_r p hp m hm c hfc (C.getD y fE) hyC
   generalize C.getD y fE=X at ey hyC nx
   unfold bK bX c7 at nx
   simp only[go_sem,hC0,e1,ET,wx,hy,ey,c7,ac,ad]
   refine⟨⟨by omega,by omega⟩,by omega,⟨by omega,by omega⟩,bH (nx _ _ _ ?_)⟩
   have z0:((0:Int)!=0)=false:=rfl
   simp only[go_sem,z0,w2,ac,ad]
   have hfl:=fh L
   have hrun':fK p m (bS p) (L++[X]):=mz.2 ⟨hrun,by rw[hc];exact hyC⟩
   refine⟨⟨hfl,by simp only[maxLen];omega,by omega⟩,Wk.keep [1,2,3,7,8,9] [0,1,6] (by decide) (aE _) hbd ⟨40 - (j+1),by omega,j+1,L++[X],hrun',by rw[aF];simp;omega,by omega,by omega,rfl,?_,?_⟩⟩
   ·simp only[go_sem,aF,ae,aj]
   ·rw[wj,hc,jE,lc]
    simp only[go_sem,dj,cG]
 ·have fin:R (.d (.sl 3 (L.map c7))) Z:=h L hrun (by omega)
  have hfalse:∀(K:Prop),K→K:=λ _ k=>k
  rcases aC j picks.length with hlt|hge
  ·have hd:decide ((j:Int)<(picks.length:Int))=true:=by simp;omega
   have hd4:decide ((j:Int)<40)=false:=by simp;omega
   simp only[go_sem,hd,hd4,ac]
   refine de 2 3 0 (L.map c7) rfl (kZ L) ?_
   simp only[go_sem,ac,and_self,if_true]
   exact aQ hbd fin
  ·have hd:decide ((j:Int)<(picks.length:Int))=false:=by simp;omega
   simp only[go_sem,hd,ac]
   refine de 2 3 0 (L.map c7) rfl (kZ L) ?_
   simp only[go_sem,ac,and_self,if_true]
   exact aQ hbd fin
def fillA(l:List Int)(j:Nat):List Int:=l.take j++List.replicate (l.length - j) 0
theorem wg(l:List Int)(j:Nat)(h:j≤l.length):(fillA l j).length=l.length:=by
 unfold fillA;rw[aF,aP,fd];omega
theorem pD{l:List Int}{j:Nat}(h:j<l.length):(fillA l j).set j (l.getD j 0)=fillA l (j+1):=by
 unfold fillA
 rw[Er _ _ (by rw[aP];omega),bG 0 h,aU]
 congr 1
 obtain⟨n,hn⟩:∃n,l.length - j=n+1:=⟨l.length - j - 1,by omega⟩
 rw[hn,show l.length - (j+1)=n by omega,show j - (l.take j).length=0 by rw[aP];omega]
 rfl
theorem Bk{l:List Int}{j:Nat}(h:j<l.length)(h0:l.getD j 0=0):fillA l j=fillA l (j+1):=by
 rw[←pD h,h0]
 unfold fillA
 rw[Er _ _ (by rw[aP];omega)]
 congr 1
 obtain⟨n,hn⟩:∃n,l.length - j=n+1:=⟨l.length - j - 1,by omega⟩
 rw[hn,show j - (l.take j).length=0 by rw[aP];omega]
 rfl
theorem uq(l:List Int):fillA l l.length=l:=by simp [fillA]
theorem uo(l:List Int)(n:Nat)(h:l.length=n):(List.replicate n [A.d (D.int IntKind.i64 0)]).flatten=(fillA l 0).map λ x=>A.d (iD x):=by
 subst h
 simp [fillA]
theorem yt{G:Glob}(hG:G.g 0=some cB)(p:Prg)(hp:Good p)(Z:St)(R:A→St→Prop)(h:R (.d (bX (bS p))) Z):AC Tryz.prog G 100 [.d (bK p)] Z R:=by
 have va:=AE hG p hp
 have hcn:=hp.sm.ncel
 have htn:=hp.sm.nthr
 obtain⟨ini,hini⟩:∃ini,p.cells.map Cel.init=ini:=⟨_,rfl⟩
 obtain⟨ps,hps⟩:∃ps,(p.threads.map λ x:Thr=>if x.asleep then(-1:Int)else 0)=ps:=⟨_,rfl⟩
 have hil:ini.length=p.cells.length:=by rw[←hini];simp
 have hpl:ps.length=p.threads.length:=by rw[←hps];simp
 unfold bS at h
 rw[hini,hps]at h
 unfold bK at*
 refine bD [4,9,15] a9 Tryz.func100 rfl Tryz.ntmps100 (by simp only[go_sem]) λ hbd=> ?_
 simp only[ae,aj,Nat.reduceAdd,Nat.reduceSub,af,ag,ah,ak]
 try simp only[go_sem]
 refine bH (va _ _ ?_)
 try simp only[go_sem]
 refine bc (λ fr st=>fr=%[.o,.ref Z.length 0,.ref (Z.length+1) 0,.ref (Z.length+5) 0|D6 (D5 [.o,.o,.o,.o,.o,.o])]∧st=Z++[bN p,df (.d .nils) (.d .nils) (.d .nils),bY (fillA ini 0),bY (fillA ps 0),some (.cells (List.replicate p.threads.length (.d (.sl 2 [])))),df (.rs (Z.length+2) 1 0 ini.length (some 3)) (.rs (Z.length+3) 1 0 ps.length (some 3)) (.rs (Z.length+4) 1 0 p.threads.length (some 46))]) ?_ ?_
 ·refine nJ (.gro [0,1,2,4,5,6,8,9,10] [3,7,11] 13 (.plain (.take 12<| .take 14<| .done)) (.plain (.take 12<| .take 13<| .take 14<| .done))) (by kernel_rfl) ?_
  simp only[aY,go_sem,ac]
  refine lZ [⟨3,13,.rs 1 0 ini.length (some 3),.cells ((fillA ini 0).map λ x=>A.d (iD x))⟩,⟨7,17,.rs 1 0 ps.length (some 3),.cells ((fillA ps 0).map λ x=>A.d (iD x))⟩,⟨11,21,.rs 1 0 p.threads.length (some 46),.cells (List.replicate p.threads.length (.d .nils))⟩] ⟨13,3,.ref 0,.cells [.d .nils,.d .nils,.d .nils]⟩ (λ q hq=> ?_) (λ q hq=> ?_) rfl ?_ ?_
  ·simp only[ah,ak,aV,bi,or_false]at hq
   rcases hq with rfl|rfl|rfl|rfl<;> refine zm rfl λ Z k hk=> ?_<;> simp only[go_sem]
   ·rw[uo ini _ hil,←hil]
    exact⟨⟨by omega,by omega,by omega,by omega⟩,hk⟩
   ·rw[uo ps _ hpl,←hpl]
    exact⟨⟨by omega,by omega,by omega,by omega⟩,hk⟩
   ·have:(List.replicate p.threads.length [A.d D.nils]).flatten=List.replicate p.threads.length (A.d D.nils):=by simp
    rw[this]
    exact⟨⟨by omega,by omega,by omega,by omega⟩,hk⟩
   ·exact hk
  ·simp only[ah,ak,aV,bi,or_false]at hq
   rcases hq with rfl|rfl|rfl|rfl
   ·exact jn λ x hx=>let ⟨y,_,e⟩:=aI.1 hx;⟨_,e.symm⟩
   ·exact jn λ x hx=>let ⟨y,_,e⟩:=aI.1 hx;⟨_,e.symm⟩
   ·exact jn λ x hx=>⟨_,(fR.1 hx).2⟩
   ·rfl
  ·simp only[go_sem,ac,aM,bq,ah,ak,cf,Nat.reduceAdd]
   refine Wk.via (bw.nilsO (Z:=Z) 4 rfl (lY _ 2)) ?_
   exact Wk.mask [1,2,3] ⟨rfl,rfl⟩
  ·simp only[go_sem,ac,aM,bq,ah,ak,cf,Nat.reduceAdd]
   refine Wk.via (bw.nilsO (Z:=Z) 4 rfl (lY _ 2)) ?_
   exact Wk.mask [1,2,3] ⟨rfl,rfl⟩
 rintro fr st ⟨rfl,rfl⟩
 refine bc (λ fr st=>fr=%[.o,.ref Z.length 0,.ref (Z.length+1) 0,.ref (Z.length+5) 0|D6 (D5 [.o,.o,.o,.o,.o,.o])]∧st=Z++[bN p,df (.d .nils) (.d .nils) (.d .nils),bY (ini),bY (fillA ps 0),some (.cells (List.replicate p.threads.length (.d (.sl 2 [])))),df (.rs (Z.length+2) 1 0 ini.length (some 3)) (.rs (Z.length+3) 1 0 ps.length (some 3)) (.rs (Z.length+4) 1 0 p.threads.length (some 46))]) ?_ ?_
 ·simp only[aY,go_sem,ac]
  refine aS (λ k fr st=>∃j:Nat,j≤p.cells.length∧k=p.cells.length - j∧fr=%[.o,.ref Z.length 0,.ref (Z.length+1) 0,.ref (Z.length+5) 0|D5 %[.o,.o,.o,.o,.d (aY p.cells),dn p.cells.length,dn j|D5 (D4 [.o,.o,.o,.o,.o,.o,.o])]]∧st=Z++[bN p,df (.d .nils) (.d .nils) (.d .nils),bY (fillA ini j),bY (fillA ps 0),some (.cells (List.replicate p.threads.length (.d (.sl 2 [])))),df (.rs (Z.length+2) 1 0 ini.length (some 3)) (.rs (Z.length+3) 1 0 ps.length (some 3)) (.rs (Z.length+4) 1 0 p.threads.length (some 46))]) p.cells.length _ (Wk.mask [1,2,3,24,25,26] ⟨0,by omega,by omega,rfl,rfl⟩) ?_
  rintro k fr st ⟨j,hj,hk,rfl,rfl⟩
  rcases aC j p.cells.length with hlt|hge
  ·have hd:decide ((j:Int)<(p.cells.length:Int))=true:=by simp;omega
   have w2:=bC j (by omega)
   have e2:=iM (l:=p.cells) hlt
   have hv:(p.cells.getD j fU).init=ini.getD j 0:=by
    rw[←hini];simp only[au,aN,ap hlt];rfl
   have hfl:=wg ini j (by omega)
   have hsp:=eH (l:=fillA ini j) (t:=j) (by omega) (ini.getD j 0)
   rw[pD (by omega)]at hsp
   generalize p.cells.getD j fU=x at e2 hv
   simp only[fb]at e2
   simp only[aY,go_sem,hd,ac,ad]
   refine bb (.tk 11 0<| .done) (by kernel_rfl) ?_
   simp only[aY,go_sem,bY,w2,e2,hv,hsp,hfl,hil,br,ac,ad]
   exact⟨⟨by omega,by omega⟩,⟨by omega,by omega⟩,by omega,Wk.mask [1,2,3,24,25,26] ⟨p.cells.length - (j+1),by omega,j+1,by omega,rfl,rfl,rfl⟩⟩
  ·have hd:decide ((j:Int)<(p.cells.length:Int))=false:=by simp;omega
   obtain rfl:j=p.cells.length:=by omega
   simp only[go_sem,hd,ac]
   exact Wk.mask [1,2,3] ⟨rfl,by rw[←hil,uq]⟩
 rintro fr st ⟨rfl,rfl⟩
 refine bc (λ fr st=>fr=%[.o,.ref Z.length 0,.ref (Z.length+1) 0,.ref (Z.length+5) 0|D6 (D5 [.o,.o,.o,.o,.o,.o])]∧st=Z++[bN p,df (.d .nils) (.d .nils) (.d .nils),bY (ini),bY (ps),some (.cells (List.replicate p.threads.length (.d (.sl 2 [])))),df (.rs (Z.length+2) 1 0 ini.length (some 3)) (.rs (Z.length+3) 1 0 ps.length (some 3)) (.rs (Z.length+4) 1 0 p.threads.length (some 46))]) ?_ ?_
 ·simp only[aY,go_sem,ac]
  refine aS (λ k fr st=>∃j:Nat,j≤p.threads.length∧k=p.threads.length - j∧fr=%[.o,.ref Z.length 0,.ref (Z.length+1) 0,.ref (Z.length+5) 0|D6 %[.o,.o,.o,.o,.o,.d (.sl 7 (p.threads.map c8)),dn p.threads.length,dn j|D4 [.o,.o,.o,.o,.o,.o]]]∧st=Z++[bN p,df (.d .nils) (.d .nils) (.d .nils),bY (ini),bY (fillA ps j),some (.cells (List.replicate p.threads.length (.d (.sl 2 [])))),df (.rs (Z.length+2) 1 0 ini.length (some 3)) (.rs (Z.length+3) 1 0 ps.length (some 3)) (.rs (Z.length+4) 1 0 p.threads.length (some 46))]) p.threads.length _ (Wk.mask [1,2,3,41,42,43] ⟨0,by omega,by omega,rfl,rfl⟩) ?_
  rintro k fr st ⟨j,hj,hk,rfl,rfl⟩
  rcases aC j p.threads.length with hlt|hge
  ·have hd:decide ((j:Int)<(p.threads.length:Int))=true:=by simp;omega
   have w2:=bC j (by omega)
   have e2:=fe (l:=p.threads) hlt
   have hv:ps.getD j 0=if(p.threads.getD j fg).asleep then(-1:Int)else 0:=by
    rw[←hps];simp only[au,aN,ap hlt];rfl
   have hfl:=wg ps j (by omega)
   have hsp:=eH (l:=fillA ps j) (t:=j) (by omega) (ps.getD j 0)
   rw[pD (by omega)]at hsp
   have hkp:=λ h0=>Bk (l:=ps) (j:=j) (by omega) h0
   generalize p.threads.getD j fg=x at e2 hv
   simp only[go_sem,hd,w2,e2,c8,ac,ad]
   refine⟨⟨by omega,by omega⟩,λ q=> ?_,λ q=> ?_⟩
   ·rw[q,if_pos rfl]at hv
    rw[hv]at hsp
    simp only[go_sem,bY,hsp,hfl,hpl,br,ac]
    exact⟨⟨by omega,by omega⟩,by omega,Wk.mask [1,2,3,41,42,43] ⟨p.threads.length - (j+1),by omega,j+1,by omega,rfl,rfl,rfl⟩⟩
   ·rw[q,if_neg cX]at hv
    exact Wk.mask [1,2,3,41,42,43] ⟨p.threads.length - (j+1),by omega,j+1,by omega,rfl,rfl,by rw[hkp hv]⟩
  ·have hd:decide ((j:Int)<(p.threads.length:Int))=false:=by simp;omega
   obtain rfl:j=p.threads.length:=by omega
   simp only[go_sem,hd,ac]
   exact Wk.mask [1,2,3] ⟨rfl,by rw[←hpl,uq]⟩
 rintro fr st ⟨rfl,rfl⟩
 try simp only[go_sem]
 refine de 2 1 0 (ini.map iD) rfl (cJ _) ?_
 simp only[go_sem,ac,and_self,if_true,false_and,if_false]
 refine de 3 1 0 (ps.map iD) rfl (cJ _) ?_
 simp only[go_sem,ac,and_self,if_true,false_and,if_false]
 refine de 4 1 0 (p.threads.map λ _=>D.sl 2 []) rfl ?_ ?_
 ·have:=gV (λ _:Thr=>D.sl 2 []) (λ _=>⟨rfl,rfl⟩) p.threads
  rwa [gY]at this
 simp only[go_sem,ac,and_self,if_true,false_and,if_false]
 refine aQ hbd ?_
 unfold bX at h
 rw[dZ]at h
 exact h
theorem Fits.bufNil{p:Prg}{c:Cfg}(hf:Fits p 0 c)(t:Nat):c.bufAt t=[]:=by
 unfold Cfg.bufAt
 rcases aC t c.buf.length with h|h
 ·exact hf.quiet rfl _ (bv [] h)
 ·rw[au,bm h];rfl
theorem Ba{p:Prg}{c:Cfg}(hf:Fits p 0 c)(t:Nat)(s:Stp):mX p 0 c t s=(if s.kind=6 then c.pos.getD s.target.toNat 0== -1 else if s.kind=7 then c.pos.getD s.target.toNat 0==(p.thr s.target.toNat).points - 1 else true):=by
 unfold mX
 rw[hf.bufNil,hf.bufNil]
 by_cases h3:s.kind=3
 ·simp [h3]
 by_cases h6:s.kind=6
 ·simp [h6]
 by_cases h7:s.kind=7
 ·simp [h7]
 simp [h3,h6,h7]
theorem enB_zero{p:Prg}{c:Cfg}(hf:Fits p 0 c)(t:Nat)(s:Stp):qt p 0 c t s=(c.pos.getD t 0==s.src&&mu c.mem s.guard==1&&mX p 0 c t s):=by
 unfold qt;rw[yi (hf.bufNil t)]
theorem zR{G:Glob}(hG:G.g 0=some cB){p:Prg}{t:Int}{n:Int}{s:Stp}(hk:StpOk p t n s)(hs:StpSm s)(v:List Int)(hv:v.length≤1000)(Z:St)(R:A→St→Prop)(h:R (di (mu v s.guard)) Z):AC Tryz.prog G 85 [.d (eD s.guard),.d (bu v),.d (bu v)] Z R:=by
 obtain⟨_,hd,_⟩:=Ex.valid_iff.1 hk.guard
 have:=xG s.guard (lF hs.guard) (by have:=hs.guard;omega) hd v v (by simp only[reachBytes];omega) (by simp only[reachBytes];omega) Z G hG R h
 rw[ed]at this
 exact this
theorem enabledM{G:Glob}(hG:G.g 0=some cB)(p:Prg)(hp:Good p)(c:Cfg)(hf:Fits p 0 c)(t i:Nat)(ht:t<p.threads.length)(hi:i<(p.thr t).steps.length)(Z:St)(R:A→St→Prop)(h:R (db (qt p 0 c t (p.stp t i))) Z):AC Tryz.prog G 119 [.d (bK p),.d (bX c),dn t,dn i] Z R:=by
 obtain⟨z1,z2,z3,z4⟩:=hf.sz hp
 have hnp:=hf.npos
 have e1:=fe (l:=p.threads) ht
 have e2:=mw (l:=(p.thr t).steps) hi
 have hsk:=qN hp.ok ht hi
 have hth:p.threads.getD t fg=p.thr t:=rfl
 have hstp:(p.thr t).steps.getD i jY=p.stp t i:=rfl
 have hss:=(hp.thrS ht).steps (p.stp t i) (by rw[hth,←hstp];exact bv jY hi)
 rw[hth]at e1
 rw[hstp]at e2
 have ev:=zR hG hsk hss c.mem (by omega)
 rw[enB_zero hf,Ba hf]at h
 generalize p.stp t i=s at*
 have ep:=bW (l:=c.pos) (j:=t) (by omega)
 unfold bK bX eD at*
 refine bD [4] a9 Tryz.func119 rfl Tryz.ntmps119 (by simp only[go_sem]) λ hbd=> ?_
 simp only[ae,aj,Nat.reduceAdd,Nat.reduceSub,af,ag,ah,ak]
 simp only[go_sem,c8,eP,e1,e2,ac,ad]
 refine⟨⟨by omega,by omega⟩,⟨by omega,by omega⟩,?_⟩
 obtain⟨V,hV⟩:∃V,mu c.mem s.guard=V:=⟨_,rfl⟩
 obtain⟨Q,hQ⟩:∃Q,c.pos.getD t 0=Q:=⟨_,rfl⟩
 rw[hV]at h ev
 rw[hQ]at h ep
 refine bc (λ fr st=>(Q==s.src&&V==1)=true∧fr=%[.o,.o,.o,.o,.ref Z.length 0,.ref (Z.length+1) 0,.o,.o,.o,.ref (Z.length+2) 0|D6 (D5 [.o,.o,.o,.o,.o,.o,.o])]∧st=Z++[bN p,dy c,gS s]) ?_ ?_
 ·by_cases hq:Q=s.src
  ·have q1:(Q !=s.src)=false:=by simp [hq]
   have q2:(Q==s.src)=true:=by simp [hq]
   try simp only[go_sem]
   refine bb (.tk 15 0<| .pure 15<| .tk 2 16<| .done) (by kernel_rfl) ?_
   simp only[bu,go_sem,ep,q1,ac,ad]
   refine⟨⟨by omega,by omega⟩,exQ (iD V) ⟨λ _=>⟨rfl,λ Z'=>bH (ev Z' _ (And.intro rfl rfl))⟩,?_⟩⟩
   simp only[bu,go_sem,ep,q1,ac,ad]
   refine⟨λ z=> ?_,λ z=> ?_⟩
   ·have:(V==1)=false:=by simpa using z
    rw[q2,this]at h
    exact aQ hbd h
   ·have:(V==1)=true:=by simpa using z
    exact Wk.mask [4,5,9] ⟨by rw[q2,this];rfl,rfl,rfl⟩
  ·have q1:(Q !=s.src)=true:=by simp [hq]
   have q2:(Q==s.src)=false:=by simp [hq]
   rw[q2]at h
   try simp only[go_sem]
   refine bb (.tk 15 0<| .pure 15<| .tk 2 16<| .done) (by kernel_rfl) ?_
   simp only[bu,go_sem,ep,q1,ac,ad]
   refine⟨⟨by omega,by omega⟩,exQ (iD V) ⟨λ z=>Bool.noConfusion z,?_⟩⟩
   simp only[bu,go_sem,ep,q1,ac,ad]
   exact aQ hbd h
 rintro fr st ⟨hqv,rfl,rfl⟩
 rw[hqv]at h
 by_cases h6:s.kind=6
 ·have b6:(s.kind==6)=true:=by simp [h6]
  have htg:0≤s.target∧s.target<p.threads.length:=by
   rcases hsk.kind with q|q|q|q|q|q|q<;> first|(have:=q.1;omega)|skip
   exact cS.1 q.2.2.2.1
  have et:=bW (l:=c.pos) (j:=s.target.toNat) (by omega)
  rw[if_pos h6]at h
  simp only[bu,go_sem,b6,et,ac]
  exact⟨⟨by omega,by omega⟩,aQ hbd h⟩
 ·have b6:(s.kind==6)=false:=by simp [h6]
  rw[if_neg h6]at h
  by_cases h7:s.kind=7
  ·have b7:(s.kind==7)=true:=by simp [h7]
   have htg:0≤s.target∧s.target<p.threads.length:=by
    rcases hsk.kind with q|q|q|q|q|q|q<;> first|(have:=q.1;omega)|skip
    exact cS.1 q.2.2.2.1
   have et:=bW (l:=c.pos) (j:=s.target.toNat) (by omega)
   have e3:=fe (l:=p.threads) (j:=s.target.toNat) (by omega)
   have h1:=(hp.thr (j:=s.target.toNat) (by omega)).points
   have h8:=(hp.thrS (j:=s.target.toNat) (by omega)).points
   rw[if_pos h7]at h
   unfold Prg.thr at h
   generalize p.threads.getD s.target.toNat fg=x at e3 h1 h8 h
   have ws:IntKind.i64.wrap (x.points - 1)=x.points - 1:=cq _ (by omega) (by omega)
   simp only[bu,go_sem,b6,b7,ac]
   refine bb (.tk 16 0<| .done) (by kernel_rfl) ?_
   simp only[bu,go_sem,et,e3,c8,ws,ac]
   exact⟨⟨by omega,by omega⟩,⟨by omega,by omega⟩,aQ hbd h⟩
  ·have b7:(s.kind==7)=false:=by simp [h7]
   rw[if_neg h7]at h
   simp only[bu,go_sem,b6,b7,ac]
   exact aQ hbd h
theorem DL{p:Prg}{c:Cfg}(hf:Fits p 0 c)(L:List Cho)(t:Nat):L++lH p 0 c t=jx L (λ i=>qt p 0 c t (p.stp t i)) t (p.thr t).steps.length:=by
 unfold jx lH ti z7
 rw[hf.bufNil t]
 simp
theorem z8{G:Glob}(hG:G.g 0=some cB)(p:Prg)(hp:Good p)(c:Cfg)(hf:Fits p 0 c)(Z:St)(R:A→St→Prop)(h:R (.d (.sl 3 ((fY p 0 c).map c7))) Z):AC Tryz.prog G 82 [.d (bK p),.d (bX c)] Z R:=by
 have htn:=hp.sm.nthr
 have en:=λ t ht i hi=>enabledM hG p hp c hf t i ht hi
 have hpl:=λ t (ht:t≤p.threads.length)=>qa hp hf (t:=t) ht
 unfold fY at h
 unfold bK bX at*
 refine bg a9 Tryz.func82 rfl Tryz.ntmps82 (by simp only[go_sem]) λ hbd=> ?_
 simp only[ae,aj,Nat.reduceAdd,Nat.reduceSub,af,ag,ah,ak]
 simp only[go_sem,ac]
 refine aS (λ k fr st=>∃t:Nat,t≤p.threads.length∧k=p.threads.length - t∧fr=%[.o,.o,.ref Z.length 0,.ref (Z.length+1) 0,.o,.rs (Z.length+2) 3 0 ((List.range t).flatMap (lH p 0 c)).length (some 37),.o,.o,.o,.o,dn p.threads.length,dn t|D5 (D4 [.o,.o])]∧st=Z++[bN p,dy c,jE ((List.range t).flatMap (lH p 0 c))]) p.threads.length _ ?_ ?_
 ·exact⟨_,_,(bw.mask [2,3,5,10,11]).trans (bw.empty 5 3 (some 37) rfl),0,by omega,by omega,by rw[aF];rfl,by simp [bU]⟩
 rintro k fr st ⟨t,ht,hk,rfl,rfl⟩
 obtain⟨L0,hL0⟩:∃L0,(List.range t).flatMap (lH p 0 c)=L0:=⟨_,rfl⟩
 have hl0:=hpl t ht
 rw[hL0]at hl0
 rw[hL0]
 rcases aC t p.threads.length with hlt|hge
 ·have hd:decide ((t:Int)<(p.threads.length:Int))=true:=by simp;omega
  have w2:=bC t (by omega)
  have e2:=fe (l:=p.threads) hlt
  have hsz:=(hp.thrS hlt).nst
  have hL1:(List.range (t+1)).flatMap (lH p 0 c)=jx L0 (λ i=>qt p 0 c t (p.stp t i)) t (p.thr t).steps.length:=by rw[eY,dB,hL0,←DL hf];simp
  have en:=en t hlt
  have hxs:p.thr t=p.threads.getD t fg:=rfl
  rw[hxs]at en
  rw[hxs]at hL1
  obtain⟨f,hfd⟩:∃f:Nat→Bool,(λ i=>qt p 0 c t (p.stp t i))=f:=⟨_,rfl⟩
  have hfa:∀i,qt p 0 c t (p.stp t i)=f i:=λ i=>congrFun hfd i
  rw[hfd]at hL1
  generalize p.threads.getD t fg=x at e2 hsz en hL1
  simp only[go_sem,hd,w2,c8,e2,ac,ad]
  refine⟨⟨by omega,by omega⟩,?_⟩
  refine aS (λ k fr st=>∃i:Nat,i≤x.steps.length∧k=x.steps.length - i∧fr=%[.o,.o,.ref Z.length 0,.ref (Z.length+1) 0,.o,.rs (Z.length+2) 3 0 (jx L0 f t i).length (some 37),dn t,.o,.o,.o,dn p.threads.length,dn t|D4 %[dn x.steps.length,dn i|D5 []]]∧st=Z++[bN p,dy c,jE (jx L0 f t i)]) x.steps.length _ (Wk.mask [2,3,5,6,10,11,20,21] ⟨0,by omega,by omega,by rw[mr];rfl,by rw[mr]⟩) ?_
  rintro k2 fr st ⟨i,hi,hk2,rfl,rfl⟩
  have hsnoc:=rJ L0 f t i
  have hl1:=nP L0 f t i
  rcases aC i x.steps.length with hl2|hg2
  ·have hd2:decide ((i:Int)<(x.steps.length:Int))=true:=by simp;omega
   have w3:=bC i (by omega)
   have hen:=en i hl2
   rw[hfa i]at hen
   have hfl:=fh (jx L0 f t i)
   simp only[go_sem,hd2,ac,ad]
   refine bH (hen _ _ ?_)
   simp only[go_sem,w3]
   refine⟨λ q=> ?_,λ q=> ?_⟩
   ·rw[if_pos q]at hsnoc
    refine⟨⟨hfl,by simp only[maxLen];omega,by omega⟩,Wk.keep [2,3,5,6,10,11,20,21] [0,1,4] (by decide) (aE _) hbd ⟨x.steps.length - (i+1),by omega,i+1,by omega,rfl,?_,?_⟩⟩
    ·rw[hsnoc];simp only[go_sem,aF,ae,aj]
    ·rw[hsnoc,jE,lc];simp only[go_sem,dj,cG]
   ·rw[q,if_neg cX]at hsnoc
    exact Wk.mask [2,3,5,6,10,11,20,21] ⟨x.steps.length - (i+1),by omega,i+1,by omega,rfl,by rw[hsnoc];rfl,by rw[hsnoc]⟩
  ·have hd2:decide ((i:Int)<(x.steps.length:Int))=false:=by simp;omega
   have:i=x.steps.length:=by omega
   subst this
   simp only[go_sem,hd2,w2,ac,ad]
   exact Wk.mask [2,3,5,10,11] ⟨p.threads.length - (t+1),by omega,t+1,by omega,rfl,by rw[hL1];rfl,by rw[hL1]⟩
 ·have hd:decide ((t:Int)<(p.threads.length:Int))=false:=by simp;omega
  have:t=p.threads.length:=by omega
  subst this
  rw[hL0]at h
  simp only[go_sem,hd,ac]
  refine de 2 3 0 (L0.map c7) rfl (kZ L0) ?_
  simp only[go_sem,ac]
  exact aQ hbd h
theorem EnabledM{G:Glob}(hG:G.g 0=some cB)(p:Prg)(hp:Good p)(c:Cfg)(hf:Fits p 0 c)(Z:St)(R:A→St→Prop)(h:R (.d (.sl 3 ((fY p 0 c).map c7))) Z):AC Tryz.prog G 40 [.d (bK p),.d (bX c)] Z R:=by
 have va:=AE hG p hp
 have fi:=fitsM (G:=G) p hp c hf
 have ch:=z8 hG p hp c hf
 obtain⟨C,hC⟩:∃C,(fY p 0 c).map c7=C:=⟨_,rfl⟩
 rw[hC]at h ch
 unfold bK bX at*
 refine bg a9 Tryz.func40 rfl Tryz.ntmps40 (by simp only[go_sem]) λ hbd=> ?_
 simp only[ae,aj,Nat.reduceAdd,Nat.reduceSub,af,ag,ah,ak]
 try simp only[go_sem]
 refine bH (va _ _ ?_)
 try simp only[go_sem]
 refine gO (.bool true) ⟨λ _=>⟨rfl,bH (fi _ _ ?_)⟩,?_⟩
 ·simp only[go_sem]
 try simp only[go_sem]
 refine bH (ch _ _ ?_)
 try simp only[go_sem]
 exact aQ hbd h
theorem zS{G:Glob}(hG:G.g 0=some cB){p:Prg}{t:Int}{n:Int}{s:Stp}(hk:StpOk p t n s)(hs:StpSm s){a:Asg}(ha:a∈s.set)(v:List Int)(hv:v.length≤1000)(Z:St)(R:A→St→Prop)(h:R (di (mu v a.to)) Z):AC Tryz.prog G 85 [.d (eD a.to),.d (bu v),.d (bu v)] Z R:=by
 obtain⟨_,hd,_⟩:=Ex.valid_iff.1 (hk.set a ha).to
 have:=xG a.to (lF (hs.to a ha)) (by have:=hs.to a ha;omega) hd v v (by simp only[reachBytes];omega) (by simp only[reachBytes];omega) Z G hG R h
 rw[ed]at this
 exact this
theorem sX(n:Nat):(List.replicate n [A.d (D.int IntKind.i64 0)]).flatten=(List.replicate n (0:Int)).map λ x=>A.d (iD x):=by simp
theorem executeM{G:Glob}(hG:G.g 0=some cB)(p:Prg)(hp:Good p)(c:Cfg)(hf:Fits p 0 c)(t i:Nat)(ht:t<p.threads.length)(hi:i<(p.thr t).steps.length)(he:qt p 0 c t (p.stp t i)=true)(Z:St)(R:A→St→Prop)(h:R (.d (bX (nG p 0 c t (p.stp t i)))) Z):AC Tryz.prog G 89 [.d (bK p),.d (bX c),.d (c7 ⟨t,i,0⟩)] Z R:=by
 obtain⟨z1,z2,z3,z4⟩:=hf.sz hp
 have hnp:=hf.npos
 have hml:=hf.mem.len
 have e1:=fe (l:=p.threads) ht
 have e2:=mw (l:=(p.thr t).steps) hi
 have hsk:=qN hp.ok ht hi
 have hth:p.threads.getD t fg=p.thr t:=rfl
 have hstp:(p.thr t).steps.getD i jY=p.stp t i:=rfl
 have hss:=(hp.thrS ht).steps (p.stp t i) (by rw[hth,←hstp];exact bv jY hi)
 rw[hth]at e1
 rw[hstp]at e2
 have ev:=λ a ha=>zS hG hsk hss (a:=a) ha c.mem (by omega)
 have hex:nG p 0 c t (p.stp t i)=⟨gT c.mem c.mem (p.stp t i).set,iL c t (p.stp t i),c.buf⟩:=by
  unfold nG;rw[if_neg (by simp),yi (hf.bufNil t)]
 rw[hex]at h
 generalize p.stp t i=s at*
 have hbn:c.buf.map cu=List.replicate c.buf.length (.sl 2 []):=by
  rw[List.eq_replicate_iff]
  refine⟨by simp,λ x hx=> ?_⟩
  obtain⟨b,hb,rfl⟩:=aI.1 hx
  rw[hf.quiet rfl b hb];rfl
 have hpml:=tL c t s
 have hs4:=hss.set
 unfold bK bX c7 at*
 refine bD [2,4,5,10] a9 Tryz.func89 rfl Tryz.ntmps89 (by simp only[go_sem]) λ hbd=> ?_
 simp only[ae,aj,Nat.reduceAdd,Nat.reduceSub,af,ag,ah,ak]
 try simp only[go_sem]
 refine bc (λ fr st=>fr=%[.o,.o,.o,.ref Z.length 0,.ref (Z.length+1) 0,.ref (Z.length+2) 0,.ref (Z.length+3) 0,.ref (Z.length+7) 0|D7 (D4 [.o])]∧st=Z++[bN p,dy c,iO ⟨t,i,0⟩,df (.d .nils) (.d .nils) (.d .nils),bY (List.replicate c.mem.length 0),bY (List.replicate c.pos.length 0),some (.cells (List.replicate c.buf.length (.d (.sl 2 [])))),df (.rs (Z.length+4) 1 0 c.mem.length (some 3)) (.rs (Z.length+5) 1 0 c.pos.length (some 3)) (.rs (Z.length+6) 1 0 c.buf.length (some 46))]) ?_ ?_
 ·try simp only[go_sem]
  refine nJ (.gro [0,1,2,4,5,6,8,9,10] [3,7,11] 13 (.plain (.take 12<| .take 14<| .done)) (.plain (.take 12<| .take 13<| .take 14<| .done))) (by kernel_rfl) ?_
  simp only[bu,go_sem,ac]
  refine lZ [⟨3,14,.rs 1 0 c.mem.length (some 3),.cells ((List.replicate c.mem.length (0:Int)).map λ x=>A.d (iD x))⟩,⟨7,18,.rs 1 0 c.pos.length (some 3),.cells ((List.replicate c.pos.length (0:Int)).map λ x=>A.d (iD x))⟩,⟨11,22,.rs 1 0 c.buf.length (some 46),.cells (List.replicate c.buf.length (.d .nils))⟩] ⟨13,7,.ref 0,.cells [.d .nils,.d .nils,.d .nils]⟩ (λ q hq=> ?_) (λ q hq=> ?_) rfl ?_ ?_
  ·simp only[ah,ak,aV,bi,or_false]at hq
   rcases hq with rfl|rfl|rfl|rfl<;> refine zm rfl λ Z k hk=> ?_<;> simp only[go_sem]
   ·rw[sX]
    exact⟨⟨by omega,by omega,by omega,by omega⟩,hk⟩
   ·rw[sX]
    exact⟨⟨by omega,by omega,by omega,by omega⟩,hk⟩
   ·have:(List.replicate c.buf.length [A.d D.nils]).flatten=List.replicate c.buf.length (A.d D.nils):=by simp
    rw[this]
    exact⟨⟨by omega,by omega,by omega,by omega⟩,hk⟩
   ·exact hk
  ·simp only[ah,ak,aV,bi,or_false]at hq
   rcases hq with rfl|rfl|rfl|rfl
   ·exact jn λ x hx=>let ⟨y,_,e⟩:=aI.1 hx;⟨_,e.symm⟩
   ·exact jn λ x hx=>let ⟨y,_,e⟩:=aI.1 hx;⟨_,e.symm⟩
   ·exact jn λ x hx=>⟨_,(fR.1 hx).2⟩
   ·rfl
  ·simp only[go_sem,ac,aM,bq,ah,ak,cf,Nat.reduceAdd]
   refine Wk.via (bw.nilsO (Z:=Z) 6 rfl (lY _ 2)) ?_
   exact Wk.mask [3,4,5,6,7] ⟨rfl,rfl⟩
  ·simp only[go_sem,ac,aM,bq,ah,ak,cf,Nat.reduceAdd]
   refine Wk.via (bw.nilsO (Z:=Z) 6 rfl (lY _ 2)) ?_
   exact Wk.mask [3,4,5,6,7] ⟨rfl,rfl⟩
 rintro fr st ⟨rfl,rfl⟩
 have hcp:∀l:List Int,bU (l.map iD)++List.drop l.length ((List.replicate l.length (0:Int)).map λ x=>A.d (iD x))=l.map λ x=>A.d (iD x):=λ l=>by
  rw[d7 (by simp),bt]
  induction l with
  |nil=>rfl
  |cons x l ih=>
   have:bU ((x::l).map iD)=[A.d (iD x)]++bU (l.map iD):=rfl
   rw[this,ih];rfl
 simp only[bu,bY,go_sem,ac,fd,br,hcp]
 refine bc (λ fr st=>fr=%[.o,.o,.o,.ref Z.length 0,.ref (Z.length+1) 0,.ref (Z.length+2) 0,.ref (Z.length+3) 0,.ref (Z.length+7) 0|D7 (D4 [.o])]∧st=Z++[bN p,dy c,iO ⟨t,i,0⟩,df (.d .nils) (.d .nils) (.d .nils),bY c.mem,bY c.pos,some (.cells (List.replicate c.buf.length (.d (.sl 2 [])))),df (.rs (Z.length+4) 1 0 c.mem.length (some 3)) (.rs (Z.length+5) 1 0 c.pos.length (some 3)) (.rs (Z.length+6) 1 0 c.buf.length (some 46))]) ?_ ?_
 ·simp only[bu,bY,go_sem,ac,fd,br,hcp]
  exact Wk.mask [3,4,5,6,7] ⟨rfl,rfl⟩
 rintro fr st ⟨rfl,rfl⟩
 refine bc (λ fr st=>fr=%[.o,.o,.o,.ref Z.length 0,.ref (Z.length+1) 0,.ref (Z.length+2) 0,.ref (Z.length+3) 0,.ref (Z.length+7) 0,.ref (Z.length+8) 0|D7 (D4 [])]∧st=Z++[bN p,dy c,iO ⟨t,i,0⟩,df (.d .nils) (.d .nils) (.d .nils),bY c.mem,bY c.pos,some (.cells (List.replicate c.buf.length (.d (.sl 2 [])))),df (.rs (Z.length+4) 1 0 c.mem.length (some 3)) (.rs (Z.length+5) 1 0 c.pos.length (some 3)) (.rs (Z.length+6) 1 0 c.buf.length (some 46)),gS s]) ?_ ?_
 ·try simp only[go_sem]
  refine bb (.tk 13 0<| .done) (by kernel_rfl) ?_
  simp only[go_sem,c8,e1,e2,eP,ac,ad]
  exact⟨⟨by omega,by omega⟩,⟨by omega,by omega⟩,Wk.mask [3,4,5,6,7,8] ⟨rfl,rfl⟩⟩
 rintro fr st ⟨rfl,rfl⟩
 refine bc (λ fr st=>fr=%[.o,.o,.o,.ref Z.length 0,.ref (Z.length+1) 0,.ref (Z.length+2) 0,.ref (Z.length+3) 0,.ref (Z.length+7) 0,.ref (Z.length+8) 0|D7 (D4 [])]∧st=Z++[bN p,dy c,iO ⟨t,i,0⟩,df (.d .nils) (.d .nils) (.d .nils),bY (gT c.mem c.mem s.set),bY c.pos,some (.cells (List.replicate c.buf.length (.d (.sl 2 [])))),df (.rs (Z.length+4) 1 0 c.mem.length (some 3)) (.rs (Z.length+5) 1 0 c.pos.length (some 3)) (.rs (Z.length+6) 1 0 c.buf.length (some 46)),gS s]) ?_ ?_
 ·simp only[go_sem,ac]
  refine aS (λ k fr st=>∃j:Nat,j≤s.set.length∧k=s.set.length - j∧fr=%[.o,.o,.o,.ref Z.length 0,.ref (Z.length+1) 0,.ref (Z.length+2) 0,.ref (Z.length+3) 0,.ref (Z.length+7) 0,.ref (Z.length+8) 0|D6 %[.o,.o,.o,.o,.o,.d (.sl 5 (s.set.map dM)),dn s.set.length,dn j|D6 []]]∧st=Z++[bN p,dy c,iO ⟨t,i,0⟩,df (.d .nils) (.d .nils) (.d .nils),bY (gT c.mem c.mem (s.set.take j)),bY c.pos,some (.cells (List.replicate c.buf.length (.d (.sl 2 [])))),df (.rs (Z.length+4) 1 0 c.mem.length (some 3)) (.rs (Z.length+5) 1 0 c.pos.length (some 3)) (.rs (Z.length+6) 1 0 c.buf.length (some 46)),gS s]) s.set.length _ (Wk.mask [3,4,5,6,7,8,46,47,48] ⟨0,by omega,by omega,rfl,rfl⟩) ?_
  rintro k fr st ⟨j,hj,hk,rfl,rfl⟩
  have hsl:=j0 c.mem c.mem (s.set.take j)
  rcases aC j s.set.length with hlt|hge
  ·have hd:decide ((j:Int)<(s.set.length:Int))=true:=by simp;omega
   have w2:=bC j (by omega)
   have e5:=iP (l:=s.set) hlt
   have ham:=bv dt hlt
   have hsuc:=vD c.mem c.mem s.set j hlt
   generalize s.set.getD j dt=a at e5 ham hsuc
   have eva:=ev a ham
   have hac:=(hsk.set a ham).cell
   have hcr:0≤a.cell∧a.cell<p.cells.length:=cS.1 hac
   have hsp:=eH (l:=gT c.mem c.mem (s.set.take j)) (t:=a.cell.toNat) (by omega) (mu c.mem a.to)
   rw[←hsuc]at hsp
   unfold eD at eva
   simp only[go_sem,hd,dM,e5,ac,ad]
   refine⟨⟨by omega,by omega⟩,?_⟩
   refine bb (.tk 6 4<| .pure 10<| .tk 4 0<| .tk 2 11<| .done) (by kernel_rfl) ?_
   simp only[bu,go_sem,ac,ad]
   refine mN (di (mu c.mem a.to)) ⟨λ Z'=>bH (eva Z' _ (And.intro rfl rfl)),?_⟩
   simp only[bu,bY,go_sem,w2,hsl,hsp,br,ac,ad]
   exact⟨⟨by omega,by omega⟩,by omega,Wk.keep [3,4,5,6,7,8,46,47,48] [0,1,2,3,4,5,6,7,8] (by decide) (aE _) hbd ⟨s.set.length - (j+1),by omega,j+1,by omega,rfl,by simp only[go_sem],by simp only[go_sem,cx,nr,dK _ _ _ (gA c.buf)]⟩⟩
  ·have hd:decide ((j:Int)<(s.set.length:Int))=false:=by simp;omega
   obtain rfl:j=s.set.length:=by omega
   rw[bB]
   simp only[go_sem,hd,ac]
   exact Wk.mask [3,4,5,6,7,8] ⟨rfl,rfl⟩
 rintro fr st ⟨rfl,rfl⟩
 have hpt:t<c.pos.length:=by omega
 have hsl:=j0 c.mem c.mem s.set
 obtain⟨N,hN⟩:∃N,gT c.mem c.mem s.set=N:=⟨_,rfl⟩
 rw[hN]at h hsl
 rw[hN]
 have fin:∃r Z',bw G Z.length [.agg [.rs (Z.length+4) 1 0 c.mem.length (some 3),.rs (Z.length+5) 1 0 c.pos.length (some 3),.rs (Z.length+6) 1 0 c.buf.length (some 46)]] (Z++[bN p,dy c,iO ⟨t,i,0⟩,df (.rs (Z.length+4) 1 0 c.mem.length (some 3)) (.rs (Z.length+5) 1 0 c.pos.length (some 3)) (.rs (Z.length+6) 1 0 c.buf.length (some 46)),bY N,bY (iL c t s),some (.cells (List.replicate c.buf.length (.d (.sl 2 [])))),df (.rs (Z.length+4) 1 0 c.mem.length (some 3)) (.rs (Z.length+5) 1 0 c.pos.length (some 3)) (.rs (Z.length+6) 1 0 c.buf.length (some 46)),gS s]) [r] Z'∧R r Z':=by
  refine de 4 1 0 (N.map iD) rfl (cJ _) ?_
  simp only[go_sem,ac,hsl,and_self,if_true,false_and,if_false]
  refine de 5 1 0 ((iL c t s).map iD) rfl (cJ _) ?_
  simp only[go_sem,ac,hpml,and_self,if_true,false_and,if_false]
  refine de 6 1 0 (List.replicate c.buf.length (.sl 2 [])) rfl ?_ ?_
  ·have:=gV (λ _:List Ent=>D.sl 2 []) (λ _=>⟨rfl,rfl⟩) c.buf
   rwa [gY,gY]at this
  simp only[go_sem,fd,and_self,if_true,false_and,if_false]
  refine aQ hbd ?_
  rw[←hbn]
  exact h
 by_cases hk6:s.kind=6
 ·have b6:(s.kind==6)=true:=by simp [hk6]
  have htg:0≤s.target∧s.target<p.threads.length:=by
   rcases hsk.kind with q|q|q|q|q|q|q<;> first|(have:=q.1;omega)|skip
   exact cS.1 q.2.2.2.1
  have hpl:s.target.toNat<(c.pos.set t s.dst).length:=by rw[aH];omega
  have hps:iL c t s=(c.pos.set t s.dst).set s.target.toNat 0:=by unfold iL;rw[if_pos hk6]
  rw[hps]at fin
  simp only[go_sem,b6,bY,hpt,eH hpt,eH hpl,ac,aH,ad,br]
  exact⟨⟨by omega,by omega⟩,by omega,⟨by omega,by omega⟩,by omega,fin⟩
 ·have b6:(s.kind==6)=false:=by simp [hk6]
  have hps:iL c t s=c.pos.set t s.dst:=by unfold iL;rw[if_neg hk6]
  rw[hps]at fin
  simp only[go_sem,b6,bY,hpt,eH hpt,ac,ad,br]
  exact⟨⟨by omega,by omega⟩,by omega,fin⟩
theorem nextM_p{G:Glob}(hG:G.g 0=some cB)(p:Prg)(hp:Good p)(c:Cfg)(hf:Fits p 0 c)(x:Cho)(hx:x∈fY p 0 c)(Z:St)(R:A→St→Prop)(h:R (.tup [.d (bX (fV p 0 c x)),di 0]) Z):AC Tryz.prog G 47 [.d (bK p),.d (bX c),.d (c7 x)] Z R:=by
 have va:=AE hG p hp
 have fi:=fitsM (G:=G) p hp c hf
 have ch:=z8 hG p hp c hf
 have hcl:=qy hp hf
 have exx:∀(Z:St) (R:A→St→Prop),R (.d (bX (fV p 0 c x))) Z→AC Tryz.prog G 89 [.d (bK p),.d (bX c),.d (c7 x)] Z R:=λ Z R hR=>by
  obtain⟨t,ht,hxt⟩:=l9.1 hx
  rcases hxt with⟨i,hi,he,e⟩|⟨i,hi,hr,e⟩
  ·subst e
   rw[oc]at hR
   exact executeM hG p hp c hf t i ht hi he Z R hR
  ·rw[hf.bufNil t]at hi;exact absurd hi (by simp)
 obtain⟨C,hC⟩:∃C,fY p 0 c=C:=⟨_,rfl⟩
 rw[hC]at ch hx hcl
 obtain⟨d,hd⟩:∃d,fV p 0 c x=d:=⟨_,rfl⟩
 rw[hd]at exx h
 unfold bK bX at*
 simp only[c7]at exx ⊢
 refine bg a9 Tryz.func47 rfl Tryz.ntmps47 (by simp only[go_sem]) λ hbd=> ?_
 simp only[ae,aj,Nat.reduceAdd,Nat.reduceSub,af,ag,ah,ak]
 try simp only[go_sem]
 refine bH (va _ _ ?_)
 try simp only[go_sem]
 refine gO (.bool true) ⟨λ _=>⟨rfl,bH (fi _ _ ?_)⟩,?_⟩
 ·simp only[go_sem]
 try simp only[go_sem]
 refine bH (ch _ _ ?_)
 simp only[go_sem,ac]
 refine aS (λ k fr st=>∃j:Nat,j≤C.length∧k=C.length - j∧(x∉C.take j)∧fr=%[.o,.o,.o,.ref Z.length 0,.ref (Z.length+1) 0,.ref (Z.length+2) 0,.ref (Z.length+3) 0|D4 %[.o,.o,.o,.o,.o,.o,.o,.d (.sl 3 (C.map c7)),dn C.length,dn j|D4 [.o,.o,.o,.o]]]∧st=Z++[bN p,dy c,iO x,df (.d .nils) (.d .nils) (.d .nils)]) C.length _ (Wk.mask [3,4,5,6,22,23,24] ⟨0,by omega,by omega,by simp,rfl,rfl⟩) ?_
 rintro k fr st ⟨j,hj,hk,hno,rfl,rfl⟩
 rcases aC j C.length with hlt|hge
 ·have hd':decide ((j:Int)<(C.length:Int))=true:=by simp;omega
  have w2:=bC j (by omega)
  have e1:=uF (l:=C) hlt
  have ht:x∈C.take (j+1)→x∈C.take j∨x=C.getD j fE:=λ ho=>gz fE hlt ho
  generalize C.getD j fE=y at e1 ht
  simp only[go_sem,hd',w2,e1,c7,ac,ad]
  simp only[eq_cho,go_sem]
  refine⟨⟨by omega,by omega⟩,λ q=> ?_,λ q=>Wk.keep [3,4,5,6,22,23,24] [0,1,2,3] (by decide) (aE _) hbd ⟨C.length - (j+1),by omega,j+1,by omega,rfl,λ z=> ?_,by simp only[go_sem],by simp only[go_sem]⟩⟩
  ·refine bH (exx _ _ ?_)
   try simp only[go_sem]
   exact dq hbd rfl h
  ·rcases ht z with z|z
   ·exact hno z
   ·subst z
    simp at q
 ·rw[aK hge]at hno
  exact absurd hx hno
theorem idxU(xs:List Int)(hn:xs.length≤1000)(c:Int)(Z:St)(G:Glob)(R:A→St→Prop)(h:∀i:Int,decide (0≤i)=decide (c∈xs)→R (di i) Z):AC Tryz.prog G 150 [.d (bu xs),di c] Z R:=by
 unfold bu
 refine bg a9 Tryz.func150 rfl Tryz.ntmps150 (by simp only[go_sem]) λ hbd=> ?_
 simp only[ae,aj,Nat.reduceAdd,Nat.reduceSub,af,ag,ah,ak]
 simp only[go_sem,ac]
 refine aS (λ m fr st=>∃j:Nat,j≤xs.length∧m=xs.length - j∧(c∉xs.take j)∧st=Z∧fr=%[.d (.sl 1 (xs.map iD)),di c,.o,.o,.o,.o,.o,dn xs.length,dn j|D4 [.o,.o]]) xs.length _ (Wk.mask [0,1,7,8] ⟨0,by omega,by omega,by simp,rfl,rfl⟩) ?_
 rintro m fr st ⟨j,hj,hm,ht,rfl,rfl⟩
 rcases aC j xs.length with hlt|hge
 ·have hd:decide ((j:Int)<(xs.length:Int))=true:=by simp;omega
  have w2:=bC j (by omega)
  simp only[go_sem,hd,ac,bW hlt,ad,w2]
  refine⟨⟨by omega,by omega⟩,λ q=>cw (h _ ?_),λ q=>Wk.mask [0,1,7,8] ⟨xs.length - (j+1),by omega,j+1,by omega,rfl,?_,rfl,rfl⟩⟩
  ·have q':c=xs.getD j 0:=by simpa using q
   have:c∈xs:=q'▸bv 0 hlt
   simp [this]
  ·have q':¬c=xs.getD j 0:=by simpa using q
   rw[bG 0 hlt,aW]
   rintro(h1|h1)
   ·exact ht h1
   ·exact q' (by simpa using h1)
 ·have hd:decide ((j:Int)<(xs.length:Int))=false:=by simp;omega
  simp only[go_sem,hd]
  rw[aK hge]at ht
  exact cw (h _ (by simp [ht]))
theorem conU(xs:List Int)(hn:xs.length≤1000)(c:Int)(Z:St)(G:Glob)(R:A→St→Prop)(h:R (db (decide (c∈xs))) Z):AC Tryz.prog G 122 [.d (bu xs),di c] Z R:=by
 refine bg a9 Tryz.func122 rfl Tryz.ntmps122 (by simp only[go_sem]) λ hbd=> ?_
 simp only[ae,aj,Nat.reduceAdd,Nat.reduceSub,af,ag,ah,ak]
 try simp only[go_sem]
 refine bH (idxU xs hn c _ _ _ λ i hi=> ?_)
 simp only[go_sem,hi]
 exact cw h
theorem Cp{p:Prop}{b:Bool}{k:A→St→Prop}{Z:St}(h1:p→k (.d (.bool (true==b))) Z)(h2:k (.d (.bool (false==b))) Z):sO p b k Z:=λ r hr=>by
 cases r
 ·exact h2
 ·exact h1 (hr rfl)
theorem ui(l:List Int):bU (l.map iD)=l.map λ x=>A.d (iD x):=by
 induction l with
 |nil=>rfl
 |cons x l ih=>simp only[aM,wd,ih];rfl
theorem Bx(xs:List Int)(hl:xs.length≤1000)(Z:St)(G:Glob)(R:A→St→Prop)(h:R (.rs Z.length 1 0 xs.length (some 3)) (Z++[bY xs])):AC Tryz.prog G 83 [.d (bu xs)] Z R:=by
 unfold bu
 refine bg a9 Tryz.func83 rfl Tryz.ntmps83 (by simp only[go_sem]) λ hbd=> ?_
 simp only[ae,aj,Nat.reduceAdd,Nat.reduceSub,af,ag,ah,ak]
 try simp only[go_sem]
 refine Cp (λ e=> ?_) ?_
 ·have hx:xs=[]:=by simpa using e
  subst hx
  try simp only[go_sem]
  exact⟨_,_,bw.empty 0 1 (some 3) rfl,h⟩
 ·try simp only[go_sem]
  rw[ui,ac]
  refine⟨⟨by simp only[maxLen];omega,by omega⟩,nn [1] (by decide) hbd ?_⟩
  simp only[go_sem,iC]
  exact h
theorem rD(xs:List Int)(hl:xs.length≤1000)(Z:St)(G:Glob)(R:A→St→Prop)(h:R (.d (bu xs)) Z):AC Tryz.prog G 83 [.d (bu xs)] Z R:=by
 unfold bu at h ⊢
 refine bg a9 Tryz.func83 rfl Tryz.ntmps83 (by simp only[go_sem]) λ hbd=> ?_
 simp only[ae,aj,Nat.reduceAdd,Nat.reduceSub,af,ag,ah,ak]
 try simp only[go_sem]
 refine Cp (λ e=> ?_) ?_
 ·have hx:xs=[]:=by simpa using e
  subst hx
  try simp only[go_sem]
  refine nY (bw.nils ?_) (cw h)
  exact NilAL.cons (.d (.nil _)) .nil
 ·try simp only[go_sem]
  rw[ui,ac]
  refine⟨⟨by simp only[maxLen];omega,by omega⟩,?_⟩
  refine de 1 1 0 (xs.map iD) rfl (cJ xs) ?_
  simp only[go_sem,ac]
  exact aQ hbd h
theorem CN{n0:Nat}{G:Glob}{Z junk:St}{R:A→St→Prop}(hn:n0≤Z.length)(hbd:Bd Z.length Z)(h:R (.tup []) Z):∃r Z',bw G n0 [.tup []] (Z++junk) [r] Z'∧R r Z':=by
 have:=bw.keep (G:=G) (n0:=n0) (fr:=[A.tup []]) (Z:=Z) (l:=junk) [] (by decide) hn hbd
 refine⟨_,_,this,?_⟩
 simp only[iC,bq,bt]
 exact h
theorem writeU(m:List Int)(e:Ent)(he:EntIn m.length e)(id:Nat)(n:Nat)(hn:n=m.length)(Z:St)(hσ:Z[id]? =some (bY m))(G:Glob)(R:A→St→Prop)(h:R (.tup []) (Z.set id (bY (oI m e)))):AC Tryz.prog G 84 [.rs id 1 0 n (some 3),.d (bO e)] Z R:=by
 obtain⟨hv,hf,hc⟩:=he
 subst hn
 unfold bO
 have hid:=(aA.1 hσ).1
 refine bg a9 Tryz.func84 rfl Tryz.ntmps84 (by simp only[go_sem]) λ hbd=> ?_
 simp only[ae,aj,Nat.reduceAdd,Nat.reduceSub,af,ag,ah,ak]
 simp only[bu,go_sem,ac]
 refine aS (λ k fr st=>∃(j:Nat) (τ:St),j≤e.cells.length∧k=e.cells.length - j∧τ=Z.set id (bY (yb m e j))∧fr=%[.rs id 1 0 m.length (some 3),.o,.o,.ref τ.length 0,.o,.o,.o,.d (bu e.cells),dn e.cells.length,dn j|D4 [.o,.o,.o,.o,.o]]∧st=τ++[some (.cells [.d (bu e.cells),.d (bu e.vals)])]) e.cells.length _ ?_ ?_
 ·have h0:Z.set id (bY (yb m e 0))=Z:=by
   refine cz λ i=> ?_
   rw[aR]
   split
   ·next hi=>subst hi;rw[hσ];simp [yb,hid]
   ·rfl
  exact Wk.mask [0,3,7,8,9] ⟨0,Z,by omega,by omega,h0.symm,rfl,rfl⟩
 rintro k fr st ⟨j,τ,hj,hk,hτ,rfl,rfl⟩
 have hlen:τ.length=Z.length:=by rw[hτ,aH]
 have hτi:τ[id]? =some (bY (yb m e j)):=by rw[hτ];exact aT hid
 rcases aC j e.cells.length with hlt|hge
 ·have hd:decide ((j:Int)<(e.cells.length:Int))=true:=by simp;omega
  have w2:=bC j (by omega)
  have e1:=bW (l:=e.cells) hlt
  have e2:=bW (l:=e.vals) (j:=j) (by omega)
  have hcj:=hc (e.cells.getD j 0) (by rw[au,ap hlt];exact bI hlt)
  have hl:=BP m e j
  have hset:=kH (l:=yb m e j) (j:=(e.cells.getD j 0).toNat) (e.vals.getD j 0) (by omega)
  rw[←ya m e j hv hlt]at hset
  unfold bY at hτi
  have h1:(τ++[some (Ob.cells [.d (bu e.cells),.d (bu e.vals)])])[id]? =some (some (.cells ((yb m e j).map λ x=>A.d (iD x)))):=by rw[aq (by omega)];exact hτi
  have h2:∀x,(τ++[some (Ob.cells [.d (bu e.cells),.d (bu e.vals)])]).set id x=τ.set id x++[some (Ob.cells [.d (bu e.cells),.d (bu e.vals)])]:=λ x=>dN _ _ (by omega)
  unfold bu at h1 h2
  simp only[bu,bY,go_sem,hd,w2,ac,ad,br,ci,e1,e2,aX h1,aO h1,h2,hset,hl]
  refine⟨⟨by omega,by omega⟩,⟨by omega,by omega⟩,hcj,by omega,Wk.mask [0,3,7,8,9] ⟨e.cells.length - (j+1),by omega,j+1,_,by omega,rfl,?_,by rw[aH];rfl,rfl⟩⟩
  rw[hτ,dT]
 ·have hd:decide ((j:Int)<(e.cells.length:Int))=false:=by simp;omega
  have hw:yb m e j=oI m e:=by unfold yb oI;rw[aK (by rw[f9];omega)]
  rw[hw]at hτ
  simp only[bu,go_sem,hd,ac]
  subst hτ
  refine CN (by rw[aH];exact aE _) ?_ h
  rw[aH]
  exact hbd.set _ λ o ho=>by
   injection ho with ho;subst ho
   exact gI λ x hx=>let ⟨y,_,e⟩:=aI.1 hx;by rw[←e];rfl
theorem ot(L:List Ent):∀m0:List Int,(L.foldl oI m0).length=m0.length:=by
 induction L with
 |nil=>exactλ _=>rfl
 |cons q L ih=>intro m0;rw[cc,ih,sF]
theorem viewU(c:Cfg)(t:Nat)(ht:t<c.buf.length)(hm:c.mem.length≤1000)(hf:(c.bufAt t).length≤100)(he:∀e∈c.bufAt t,EntIn c.mem.length e)(Z:St)(G:Glob)(R:A→St→Prop)(h:R (.d (bu (cT c t))) Z):AC Tryz.prog G 42 [.d (bX c),dn t] Z R:=by
 have eb:List.getD (c.buf.map cu) t default= .sl 2 ((c.bufAt t).map bO):=gH (l:=c.buf) ht
 obtain⟨B,hB⟩:∃B,c.bufAt t=B:=⟨_,rfl⟩
 have hv:cT c t=B.foldl oI c.mem:=by unfold cT;rw[hB]
 rw[hv]at h
 rw[hB]at eb hf he
 unfold bX
 refine bg a9 Tryz.func42 rfl Tryz.ntmps42 (by simp only[go_sem]) λ hbd=> ?_
 simp only[ae,aj,Nat.reduceAdd,Nat.reduceSub,af,ag,ah,ak]
 try simp only[go_sem]
 refine bH (Bx c.mem hm _ _ _ ?_)
 simp only[go_sem,eb,ac,ad]
 refine⟨⟨by omega,by omega⟩,?_⟩
 refine aS (λ k fr st=>∃j:Nat,j≤B.length∧k=B.length - j∧fr=%[.o,.o,.ref Z.length 0,.o,.o,.rs (Z.length+1) 1 0 c.mem.length (some 3)|D4 %[.o,.d (.sl 2 (B.map bO)),dn B.length,dn j|D4 []]]∧st=Z++[dy c,bY ((B.take j).foldl oI c.mem)]) B.length _ (Wk.mask [2,5,15,16,17] ⟨0,by omega,by omega,rfl,rfl⟩) ?_
 rintro k fr st ⟨j,hj,hk,rfl,rfl⟩
 rcases aC j B.length with hlt|hge
 ·have hd:decide ((j:Int)<(B.length:Int))=true:=by simp;omega
  have w2:=bC j (by omega)
  have e2:=gG (l:=B) hlt
  have hmem:B.getD j cD∈B:=by rw[au,ap hlt];exact bI hlt
  have hl:=ot (B.take j) c.mem
  have hs:(B.take (j+1)).foldl oI c.mem=oI ((B.take j).foldl oI c.mem) (B.getD j cD):=by
   rw[bG cD hlt,dG];rfl
  have he':=he _ hmem
  rw[←hl]at he'
  generalize hM:(B.take j).foldl oI c.mem=M at hl hs he'
  generalize B.getD j cD=E at e2 hs he'
  have hw:=writeU M E he' (Z.length+1) c.mem.length hl.symm
  unfold bO at hw
  simp only[go_sem,e2,bO,hd,w2,ac,ad]
  refine⟨⟨by omega,by omega⟩,bH (hw _ ?_ _ _ ?_)⟩
  ·simp
  have h3:∀a b c x,(Z++[a,b,c]).set (Z.length+1) x=Z++[a,x,c]:=λ a b c x=>by simp [List.set_append]
  rw[h3]
  simp only[go_sem,w2]
  exact Wk.keep [2,5,15,16,17] [0,1] (by decide) (aE _) hbd ⟨B.length - (j+1),by omega,j+1,by omega,rfl,by simp only[go_sem],by rw[hs];simp only[go_sem,bY,dy,cx]⟩
 ·have hd:decide ((j:Int)<(B.length:Int))=false:=by simp;omega
  rw[aK hge]
  simp only[go_sem,hd,ac,ad]
  refine de 1 1 0 ((B.foldl oI c.mem).map iD) rfl (cJ _) ?_
  simp only[go_sem,ac]
  rw[if_pos (ot B c.mem).symm]
  exact aQ hbd h
theorem Dq(L:List Ent)(o e:Ent):nA (L++[o]) e=(nA L e||e.cells.any λ c=>o.cells.contains c):=by
 unfold nA
 rw[List.any_append]
 simp only[List.any_cons,List.any_nil,Bool.or_false]
theorem blockedU(B:List Ent)(e:Ent)(hB:B.length≤100)(hs:∀o∈B,o.cells.length≤1000)(he:e.cells.length≤1000)(Z:St)(G:Glob)(R:A→St→Prop)(h:R (db (nA B e)) Z):AC Tryz.prog G 87 [.d (.sl 2 (B.map bO)),.d (bO e)] Z R:=by
 unfold bO
 refine bg a9 Tryz.func87 rfl Tryz.ntmps87 (by simp only[go_sem]) λ hbd=> ?_
 simp only[ae,aj,Nat.reduceAdd,Nat.reduceSub,af,ag,ah,ak]
 simp only[bu,go_sem,ac]
 refine aS (λ k fr st=>∃j:Nat,j≤B.length∧k=B.length - j∧nA (B.take j) e=false∧fr=%[.o,.o,.o,.ref Z.length 0,.o,.o,.o,.o,.o,.d (.sl 2 (B.map bO)),dn B.length,dn j|D5 []]∧st=Z++[some (.cells [.d (bu e.cells),.d (bu e.vals)])]) B.length _ (Wk.mask [3,9,10,11] ⟨0,by omega,by omega,rfl,rfl,rfl⟩) ?_
 rintro k fr st ⟨j,hj,hk,hh,rfl,rfl⟩
 rcases aC j B.length with hlt|hge
 ·have hd:decide ((j:Int)<(B.length:Int))=true:=by simp;omega
  have w2:=bC j (by omega)
  have e2:=gG (l:=B) hlt
  have hmem:=bv cD hlt
  have hs':=hs _ hmem
  have hsn:=bG cD hlt
  have hsub:∀o,o=B.getD j cD→(e.cells.any λ c=>o.cells.contains c)=true→nA B e=true:=λ o ho hc=>by
   unfold nA
   exact d8.2 ⟨o,ho▸hmem,hc⟩
  generalize B.getD j cD=O at e2 hs' hsn hsub
  replace e2:List.getD (B.map bO) j default= .agg [bu O.cells,bu O.vals]:=e2
  simp only[bu,go_sem,e2,hd,w2,ac,ad]
  refine⟨⟨by omega,by omega⟩,?_⟩
  refine aS (λ k fr st=>∃i:Nat,i≤e.cells.length∧k=e.cells.length - i∧((e.cells.take i).any λ c=>O.cells.contains c)=false∧fr=%[.o,.o,.o,.ref Z.length 0,.o,.o,.ref (Z.length+1) 0,.o,.o,.d (.sl 2 (B.map bO)),dn B.length,dn j,.o,.o,.o,.o,.d (bu e.cells),dn e.cells.length,dn i|D4 [.o]]∧st=Z++[some (.cells [.d (bu e.cells),.d (bu e.vals)]),some (.cells [.d (bu O.cells),.d (bu O.vals)])]) e.cells.length _ (Wk.mask [3,6,9,10,11,16,17,18] ⟨0,by omega,by omega,rfl,rfl,rfl⟩) ?_
  rintro k2 fr st ⟨i,hi,hk2,hh2,rfl,rfl⟩
  rcases aC i e.cells.length with hl2|hg2
  ·have hd2:decide ((i:Int)<(e.cells.length:Int))=true:=by simp;omega
   have w3:=bC i (by omega)
   have e3:=bW (l:=e.cells) hl2
   have hm2:=bv 0 hl2
   have hsn2:=bG 0 hl2
   generalize e.cells.getD i 0=C at e3 hm2 hsn2
   have hc:=conU O.cells hs' C
   unfold bu at hc
   simp only[bu,go_sem,e3,hd2,w3,ac,ad]
   refine⟨⟨by omega,by omega⟩,bH (hc _ _ _ ?_)⟩
   simp only[go_sem,w3]
   refine⟨λ q=> ?_,λ q=>Wk.mask [3,6,9,10,11,16,17,18] ⟨e.cells.length - (i+1),by omega,i+1,by omega,rfl,?_,rfl,rfl⟩⟩
   ·rw[hsub O rfl (d8.2 ⟨C,hm2,by simpa using q⟩)]at h
    exact aQ hbd h
   ·rw[hsn2,List.any_append,hh2]
    simpa using q
  ·have hd2:decide ((i:Int)<(e.cells.length:Int))=false:=by simp;omega
   rw[aK hg2]at hh2
   simp only[bu,go_sem,hd2,w2]
   exact Wk.keep [3,9,10,11] [0] (by decide) (aE _) hbd ⟨B.length - (j+1),by omega,j+1,by omega,rfl,by rw[hsn,Dq,hh,hh2];rfl,by simp only[go_sem],by simp only[go_sem]⟩
 ·have hd:decide ((j:Int)<(B.length:Int))=false:=by simp;omega
  rw[aK hge]at hh
  rw[hh]at h
  simp only[bu,go_sem,hd]
  exact aQ hbd h
theorem properU(p:Prg)(hp:Good p)(e:Ent)(he:EntOk p e)(Z:St)(G:Glob)(R:A→St→Prop)(h:R (db true) Z):AC Tryz.prog G 88 [.d (bK p),.d (bO e)] Z R:=by
 have hcn:=hp.sm.ncel
 have hfew:=he.few
 have hl:=he.len
 have hpos:0<e.cells.length:=by have:=he.pos;rcases h0:e.cells with _|⟨a,r⟩;exact absurd h0 this;simp
 have n1:((e.cells.length:Int)==0)=false:=by rw[ck];omega
 have n2:((e.vals.length:Int)!=(e.cells.length:Int))=false:=by rw[bne_eq_false_iff_eq];omega
 have n3:decide ((p.cells.length:Int)<(e.cells.length:Int))=false:=by rw[ay];omega
 have n4:decide ((e.cells.length:Int) > (p.cells.length:Int))=false:=by rw[ay];omega
 unfold bK bO
 refine bg a9 Tryz.func88 rfl Tryz.ntmps88 (by simp only[go_sem]) λ hbd=> ?_
 simp only[ae,aj,Nat.reduceAdd,Nat.reduceSub,af,ag,ah,ak]
 simp only[aY,bu,go_sem,n1,n2,n3,n4,ac]
 refine aS (λ k fr st=>∃j:Nat,j≤e.cells.length∧k=e.cells.length - j∧fr=%[.o,.o,.ref Z.length 0,.ref (Z.length+1) 0|D5 (D4 %[.o,.o,.o,.d (bu e.cells),dn e.cells.length,dn j|D6 (D5 (D4 []))])]∧st=Z++[bN p,some (.cells [.d (bu e.cells),.d (bu e.vals)])]) e.cells.length _ (Wk.mask [2,3,31,32,33] ⟨0,by omega,by omega,rfl,rfl⟩) ?_
 rintro k fr st ⟨j,hj,hk,rfl,rfl⟩
 rcases aC j e.cells.length with hlt|hge
 ·have hd:decide ((j:Int)<(e.cells.length:Int))=true:=by simp;omega
  have w2:=bC j (by omega)
  have e1:=bW (l:=e.cells) hlt
  have e3:=bW (l:=e.vals) (j:=j) (by omega)
  obtain⟨hsh,hgh⟩:=he.cell j _ (cU 0 hlt)
  have hv:=he.val j _ _ (cU 0 hlt) (cU 0 (by omega))
  have hne:e.cells.getD j 0∉e.cells.take j:=λ q=>by
   obtain⟨i,hi,q⟩:=dm.1 q
   rw[aP]at hi
   have:=(dO.1 he.nodup) i j (by omega) hlt (by omega)
   rw[List.getElem_take,au,ap hlt]at q
   exact this q
  have hcon:=conU (e.cells.take j) (by rw[aP];omega) (e.cells.getD j 0)
  rw[decide_eq_false hne]at hcon
  generalize hcj:e.cells.getD j 0=cj at e1 hsh hgh hv hne hcon
  obtain⟨c01,hth⟩:=eJ.1 hsh
  obtain⟨c0,c1⟩:=c01
  unfold Prg.cell at hgh hv hth
  have e2:=iM (l:=p.cells) (j:=cj.toNat) (by omega)
  have hc:=(hp.cell (j:=cj.toNat) (by omega)).w
  obtain⟨C,hC⟩:∃C,p.cells.getD cj.toNat fU=C:=⟨_,rfl⟩
  rw[hC]at e2 hv hc hgh hth
  generalize e.vals.getD j 0=v at e3 hv
  simp only[fb]at e2
  have d1:decide (cj<0)=false:=by simp;omega
  have d2:decide (cj≥(p.cells.length:Int))=false:=by rw[ay];omega
  have d2':decide ((p.cells.length:Int)≤cj)=false:=by rw[ay];omega
  have d3:(C.thread != -1)=false:=by rw[hth];rfl
  have d4:(decide (0<j)==decide ((0:Int)<(j:Int)))=true:=by
   rw[show decide ((0:Int)<(j:Int))=decide (0<j)by apply decide_eq_decide.2;omega];simp
  have d5:decide (v<0)=false:=by simp;omega
  have d6:decide ((2:Int)^C.w.toNat≤v)=false:=by rw[ay];omega
  unfold bu at hcon
  simp only[aY,bu,go_sem,hd,e1,e2,d1,d2,d2',ac,ad]
  rw[List.map_take]at hcon
  refine⟨⟨by omega,by omega⟩,⟨by omega,by omega,by omega⟩,gO (.bool false) ⟨λ _=>⟨rfl,bH (hcon _ _ _ ?_)⟩,?_⟩⟩
  ·simp only[go_sem]
  simp only[aY,bu,go_sem,w2,e1,e2,e3,d2,d2',d3,hgh,d4,d5,d6,bshl1 hc,ac,ad]
  exact⟨⟨by omega,by omega⟩,⟨by omega,by omega⟩,⟨by omega,by omega⟩,by omega,Wk.keep [2,3,31,32,33] [0,1] (by decide) (aE _) hbd ⟨e.cells.length - (j+1),by omega,j+1,by omega,rfl,by simp only[go_sem],by simp only[go_sem]⟩⟩
 ·have hd:decide ((j:Int)<(e.cells.length:Int))=false:=by simp;omega
  simp only[aY,bu,go_sem,hd,ac]
  exact aQ hbd h
theorem tI(c:Cfg)(hb:c.buf.length≤1000)(Z:St)(G:Glob)(R:A→St→Prop)(h:R (db (fO c)) Z):AC Tryz.prog G 20 [.d (bX c)] Z R:=by
 unfold bX
 refine bg a9 Tryz.func20 rfl Tryz.ntmps20 (by simp only[go_sem]) λ hbd=> ?_
 simp only[ae,aj,Nat.reduceAdd,Nat.reduceSub,af,ag,ah,ak]
 simp only[go_sem,ac]
 refine aS (λ k fr st=>∃j:Nat,j≤c.buf.length∧k=c.buf.length - j∧((c.buf.take j).all List.isEmpty)=true∧fr=[.o,.o,.o,.o,.o,.o,.d (.sl 1 (c.buf.map cu)),dn c.buf.length,dn j,.o,.o,.o,.o,.o,.o,.o]∧st=Z) c.buf.length _ ?_ ?_
 ·exact Wk.keep [6,7,8] [] (by decide) (aE _) hbd ⟨0,by omega,by omega,rfl,by simp only[go_sem];rfl,by simp only[go_sem,bt]⟩
 rintro k fr st ⟨j,hj,hk,ha,rfl,rfl⟩
 rcases aC j c.buf.length with hlt|hge
 ·have hd:decide ((j:Int)<(c.buf.length:Int))=true:=by simp;omega
  have w2:=bC j (by omega)
  have eb:List.getD (c.buf.map cu) j default= .sl 2 ((c.buf.getD j []).map bO):=gH (l:=c.buf) hlt
  have hsn:=bG [] hlt
  have hmem:=bv [] hlt
  generalize c.buf.getD j []=B at eb hsn hmem
  simp only[go_sem,eb,hd,w2,ac,ad]
  refine⟨⟨by omega,by omega⟩,λ q=> ?_,λ q=>Wk.mask [6,7,8] ⟨c.buf.length - (j+1),by omega,j+1,by omega,rfl,?_,rfl,rfl⟩⟩
  ·have:fO c=false:=by
    unfold fO
    rw[List.all_eq_false]
    refine⟨B,hmem,?_⟩
    rcases B with _|⟨x,r⟩
    ·simp at q
    ·simp
   rw[this]at h
   exact cw h
  ·rw[hsn,List.all_append,ha]
   rcases B with _|⟨x,r⟩
   ·rfl
   ·simp at q
 ·have hd:decide ((j:Int)<(c.buf.length:Int))=false:=by simp;omega
  rw[aK hge]at ha
  have:fO c=true:=ha
  rw[this]at h
  simp only[go_sem,hd]
  exact cw h
theorem fitsU{G:Glob}(p:Prg)(hp:Good p)(m:Int)(c:Cfg)(hf:Fits p m c)(Z:St)(R:A→St→Prop)(h:R (db true) Z):AC Tryz.prog G 46 [.d (bK p),.d (bX c)] Z R:=by
 obtain⟨z1,z2,z3,z4⟩:=hf.sz hp
 have hml:=hf.mem.len
 have hnp:=hf.npos
 have hnb:=hf.nbuf
 have hcn:=hp.sm.ncel
 have htn:=hp.sm.nthr
 have n1:((c.mem.length:Int)!=(p.cells.length:Int))=false:=by simp;omega
 have n2:((c.pos.length:Int)!=(p.threads.length:Int))=false:=by simp;omega
 have n3:((c.buf.length:Int)!=(p.threads.length:Int))=false:=by simp;omega
 unfold bK bX
 refine iN [9] a9 Tryz.func46 rfl Tryz.ntmps46 (by simp only[go_sem]) λ hbd=> ?_
 simp only[ae,aj,Nat.reduceAdd,Nat.reduceSub,af,ag,ah,ak]
 simp only[aY,bu,go_sem,n1,n2,n3,ac]
 refine bc (λ fr st=>fr=%[.o,.o,.ref Z.length 0,.ref (Z.length+1) 0|D7 (D6 (D5 [.o,.o,.o,.o,.o]))]∧st=Z++[bN p,dy c]) ?_ ?_
 ·simp only[bu,go_sem,ac]
  refine aS (λ k fr st=>∃j:Nat,j≤c.mem.length∧k=c.mem.length - j∧fr=%[.o,.o,.ref Z.length 0,.ref (Z.length+1) 0|D6 %[.o,.o,.d (.sl 1 (c.mem.map iD)),dn c.mem.length,dn j|D7 (D5 [])]]∧st=Z++[bN p,dy c]) c.mem.length _ (Wk.mask [2,3,38,39,40] ⟨0,by omega,by omega,rfl,rfl⟩) ?_
  rintro k fr st ⟨j,hj,hk,rfl,rfl⟩
  rcases aC j c.mem.length with hlt|hge
  ·have hd:decide ((j:Int)<(c.mem.length:Int))=true:=by simp;omega
   have w2:=bC j (by omega)
   have e1:=bW hlt
   have e2:=iM (l:=p.cells) (j:=j) (by omega)
   have hc:=hp.cell (j:=j) (by omega)
   have hv:=hf.mem.val j _ (cU 0 hlt)
   have hcj:p.cell (j:Int)=p.cells.getD j fU:=by unfold Prg.cell;rw[ad]
   rw[hcj]at hv
   generalize p.cells.getD j fU=x at e2 hc hv
   generalize c.mem.getD j 0=v at e1 hv
   simp only[fb]at e2
   have d0:decide (v<0)=false:=by simp;omega
   have d1:decide ((2:Int)^x.w.toNat≤v)=false:=by rw[ay];omega
   have hw:=hc.w
   simp only[aY,go_sem,hd,w2,e1,e2,d0,bshl1 hc.w,d1,ac,ad]
   exact⟨⟨by omega,by omega⟩,⟨by omega,by omega⟩,by omega,Wk.mask [2,3,38,39,40] ⟨c.mem.length - (j+1),by omega,j+1,by omega,rfl,rfl,rfl⟩⟩
  ·have hd:decide ((j:Int)<(c.mem.length:Int))=false:=by simp;omega
   simp only[go_sem,hd]
   exact Wk.mask [2,3] ⟨rfl,rfl⟩
 rintro fr st ⟨rfl,rfl⟩
 simp only[bu,go_sem,ac]
 refine aS (λ k fr st=>∃j:Nat,j≤c.pos.length∧k=c.pos.length - j∧fr=%[.o,.o,.ref Z.length 0,.ref (Z.length+1) 0|D6 (D5 (D4 %[.d (.sl 1 (c.pos.map iD)),dn c.pos.length,dn j|D6 (D5 (D4 [.o,.o]))]))]∧st=Z++[bN p,dy c]) c.pos.length _ (Wk.mask [2,3,60,61,62] ⟨0,by omega,by omega,rfl,rfl⟩) ?_
 rintro k fr st ⟨j,hj,hk,rfl,rfl⟩
 rcases aC j c.pos.length with hlt|hge
 ·have hd:decide ((j:Int)<(c.pos.length:Int))=true:=by simp;omega
  have w2:=bC j (by omega)
  have e1:=bW hlt
  have e2:=fe (l:=p.threads) (j:=j) (by omega)
  obtain⟨v1,v2,v3⟩:=hf.pos j _ (cU 0 hlt)
  have hth:p.thr j=p.threads.getD j fg:=rfl
  have eb:List.getD (c.buf.map cu) j default= .sl 2 ((c.buf.getD j []).map bO):=gH (l:=c.buf) (by omega)
  obtain⟨b1,b2⟩:=hf.few j _ (cU [] (by omega))
  have hbt:c.bufAt j=c.buf.getD j []:=rfl
  rw[hbt]at v3
  rw[hth]at v2 v3
  generalize p.threads.getD j fg=x at e2 v2 v3
  generalize c.pos.getD j 0=v at e1 v1 v2 v3
  generalize c.buf.getD j []=B at eb b1 b2 v3
  have d1:decide (v< -1)=false:=by simp;omega
  have d2:decide (v≥x.points)=false:=by simp;omega
  have d2':decide (x.points≤v)=false:=by simp;omega
  have d3:((v== -1)&&(!x.asleep||decide ((0:Int)<(B.length:Int))))=false:=by
   by_cases hv1:v= -1
   ·obtain⟨q1,q2⟩:=v3 hv1
    subst q2
    simp [q1]
   ·simp [hv1]
  have d4:decide ((3:Int)<(B.length:Int))=false:=by rw[ay];omega
  simp only[bu,go_sem,hd,w2,e1,e2,eb,c8,d1,d2,d2',d3,d4,ac,ad]
  refine⟨⟨by omega,by omega⟩,⟨by omega,by omega⟩,⟨by omega,by omega⟩,λ q=>⟨q,by omega,by omega⟩,λ q=>⟨q,λ q2=>by rw[q];simpa using q2⟩,⟨by omega,by omega⟩,?_⟩
  refine aS (λ k fr st=>∃i:Nat,i≤B.length∧k=B.length - i∧fr=%[.o,.o,.ref Z.length 0,.ref (Z.length+1) 0|D6 (D5 (D4 %[.d (.sl 1 (c.pos.map iD)),dn c.pos.length,dn j|D6 (D4 %[.o,.o,.o,.o,.o,.o,.d (.sl 2 (B.map bO)),dn B.length,dn i|D4 [.o]])]))]∧st=Z++[bN p,dy c]) B.length _ (Wk.keep [2,3,60,61,62,109,110,111] [0,1] (by decide) (aE _) hbd ⟨0,by omega,by omega,by simp only[go_sem];rfl,by simp only[go_sem]⟩) ?_
  rintro k2 fr st ⟨i,hi,hk2,rfl,rfl⟩
  rcases aC i B.length with hl2|hg2
  ·have hd2:decide ((i:Int)<(B.length:Int))=true:=by simp;omega
   have w3:=bC i (by omega)
   have e3:=gG (l:=B) hl2
   have hpr:=properU p hp (B.getD i cD) (b2 _ (bv cD hl2))
   generalize B.getD i cD=E at e3 hpr
   unfold bK at hpr
   replace e3:List.getD (B.map bO) i default= .agg [bu E.cells,bu E.vals]:=e3
   simp only[aY,bu,go_sem,hd2,w3,e3,ac,ad]
   refine⟨⟨by omega,by omega⟩,bH (hpr _ _ _ ?_)⟩
   simp only[go_sem,w3]
   exact Wk.keep [2,3,60,61,62,109,110,111] [0,1] (by decide) (aE _) hbd ⟨B.length - (i+1),by omega,i+1,by omega,rfl,by simp only[go_sem],by simp only[go_sem]⟩
  ·have hd2:decide ((i:Int)<(B.length:Int))=false:=by simp;omega
   simp only[go_sem,hd2,w2]
   exact Wk.mask [2,3,60,61,62] ⟨c.pos.length - (j+1),by omega,j+1,by omega,rfl,rfl,rfl⟩
 ·have hd:decide ((j:Int)<(c.pos.length:Int))=false:=by simp;omega
  simp only[go_sem,hd]
  exact aQ hbd h
def qO(p:Prg)(m:Int)(c:Cfg):D:= .agg [bu c.mem,bu c.pos,.sl 1 (c.buf.map cu),aY p.cells,.sl 11 (p.modules.map iH),.sl 6 (p.locks.map iZ),.sl 7 (p.threads.map c8),iD m]
abbrev pc(p:Prg)(m:Int)(c:Cfg):Option Ob:=some (.cells [.d (bu c.mem),.d (bu c.pos),.d (.sl 1 (c.buf.map cu)),.d (aY p.cells),.d (.sl 11 (p.modules.map iH)),.d (.sl 6 (p.locks.map iZ)),.d (.sl 7 (p.threads.map c8)),.d (iD m)])
theorem loadU{G:Glob}(hG:G.g 0=some cB)(p:Prg)(hp:Good p)(m:Int)(hm:m=1∨m=2)(c:Cfg)(hf:Fits p m c)(Z:St)(R:A→St→Prop)(h:R (.tup [.d (qO p m c),db true]) Z):AC Tryz.prog G 41 [.d (bK p),di m,.d (bX c)] Z R:=by
 have va:=validB hG p hp
 have fi:=fitsU (G:=G) p hp m c hf
 have m0:((m !=1)&&(m !=2))=false:=by rcases hm with rfl|rfl<;> rfl
 unfold bK bX at*
 refine bg a9 Tryz.func41 rfl Tryz.ntmps41 (by simp only[go_sem]) λ hbd=> ?_
 simp only[ae,aj,Nat.reduceAdd,Nat.reduceSub,af,ag,ah,ak]
 simp only[go_sem,m0]
 refine gO (.bool true) ⟨λ _=>⟨rfl,bH (va _ _ ?_)⟩,?_⟩
 ·simp only[go_sem]
 simp only[go_sem,m0]
 refine gO (.bool true) ⟨λ _=>⟨rfl,bH (fi _ _ ?_)⟩,?_⟩
 ·simp only[go_sem]
 simp only[go_sem,m0]
 exact dq hbd rfl h
theorem zX{G:Glob}(hG:G.g 0=some cB)(p:Prg)(hp:Good p)(m:Int)(hm:m=1∨m=2)(c:Cfg)(hf:Fits p m c)(t i:Nat)(ht:t<p.threads.length)(hi:i<(p.thr t).steps.length)(Z:St)(R:A→St→Prop)(h:R (db (qt p m c t (p.stp t i))) Z):AC Tryz.prog G 43 [.d (qO p m c),dn t,dn i,.d (bu (cT c t))] Z R:=by
 obtain⟨z1,z2,z3,z4⟩:=hf.sz hp
 have hnp:=hf.npos
 have hnb:=hf.nbuf
 have e1:=fe (l:=p.threads) ht
 have e2:=mw (l:=(p.thr t).steps) hi
 have hsk:=qN hp.ok ht hi
 have hth:p.threads.getD t fg=p.thr t:=rfl
 have hstp:(p.thr t).steps.getD i jY=p.stp t i:=rfl
 have hss:=(hp.thrS ht).steps (p.stp t i) (by rw[hth,←hstp];exact bv jY hi)
 rw[hth]at e1
 rw[hstp]at e2
 have hvl:(cT c t).length≤1000:=by
  have:(cT c t).length=c.mem.length:=ot _ _
  omega
 have ev:=zR hG hsk hss (cT c t) hvl
 unfold qt at h
 generalize p.stp t i=s at*
 have ep:=bW (l:=c.pos) (j:=t) (by omega)
 have eb:List.getD (c.buf.map cu) t default= .sl 2 ((c.bufAt t).map bO):=gH (l:=c.buf) (by omega)
 have m0:(m==0)=false:=by rcases hm with rfl|rfl<;> rfl
 unfold qO
 unfold eD at*
 refine bD [4] a9 Tryz.func43 rfl Tryz.ntmps43 (by simp only[go_sem]) λ hbd=> ?_
 simp only[ae,aj,Nat.reduceAdd,Nat.reduceSub,af,ag,ah,ak]
 simp only[go_sem,c8,eP,e1,e2,ac,ad]
 refine⟨⟨by omega,by omega⟩,⟨by omega,by omega⟩,?_⟩
 obtain⟨V,hV⟩:∃V,mu (cT c t) s.guard=V:=⟨_,rfl⟩
 obtain⟨Q,hQ⟩:∃Q,c.pos.getD t 0=Q:=⟨_,rfl⟩
 rw[hV]at h ev
 rw[hQ]at h ep
 refine bc (λ fr st=>(Q==s.src&&V==1)=true∧fr=%[.o,dn t,.o,.o,.ref Z.length 0,.o,.o,.o,.o,.ref (Z.length+1) 0|D7 (D6 [.o,.o,.o])]∧st=Z++[pc p m c,gS s]) ?_ ?_
 ·by_cases hq:Q=s.src
  ·have q1:(Q !=s.src)=false:=by simp [hq]
   have q2:(Q==s.src)=true:=by simp [hq]
   try simp only[go_sem]
   refine bb (.tk 17 0<| .done) (by kernel_rfl) ?_
   simp only[bu,go_sem,ep,q1,ac,ad]
   refine⟨⟨by omega,by omega⟩,gO (iD V) ⟨λ _=>⟨rfl,bH (ev _ _ ?_)⟩,?_⟩⟩
   ·simp only[go_sem]
   simp only[bu,go_sem,ep,q1,ac,ad]
   refine⟨λ z=> ?_,λ z=> ?_⟩
   ·have:(V==1)=false:=by simpa using z
    rw[q2,this]at h
    exact aQ hbd h
   ·have:(V==1)=true:=by simpa using z
    exact Wk.mask [1,4,9] ⟨by rw[q2,this];rfl,rfl,rfl⟩
  ·have q1:(Q !=s.src)=true:=by simp [hq]
   have q2:(Q==s.src)=false:=by simp [hq]
   rw[q2]at h
   try simp only[go_sem]
   refine bb (.tk 17 0<| .done) (by kernel_rfl) ?_
   simp only[bu,go_sem,ep,q1,ac,ad]
   refine⟨⟨by omega,by omega⟩,gO (iD V) ⟨λ z=>Bool.noConfusion z,?_⟩⟩
   simp only[bu,go_sem,ep,q1,ac,ad]
   exact aQ hbd h
 rintro fr st ⟨hqv,rfl,rfl⟩
 rw[hqv]at h
 unfold mX at h
 have hB:=(hf.bufOk t).1
 obtain⟨B,hBd⟩:∃B,c.bufAt t=B:=⟨_,rfl⟩
 rw[hBd]at h eb hB
 have be:B.isEmpty=((B.length:Int)==0):=by
  rcases B with _|⟨x,r⟩
  ·rfl
  ·simp;omega
 rw[m0,be]at h
 simp only[fj,ca,dJ]at h
 by_cases h3:s.kind=3
 ·have b3:(s.kind==3)=true:=by simp [h3]
  rw[if_pos h3]at h
  simp only[go_sem,eb,b3,ac,ad]
  refine⟨⟨by omega,by omega⟩,λ q=> ?_,λ q=> ?_⟩
  ·have q':s.rel=false:=by simpa using q
   rw[q']at h
   simp only[eG,if_false]at h
   have hdd:decide (B.length<3)=decide ((B.length:Int)<3):=by apply decide_eq_decide.2;omega
   rw[hdd]at h
   exact aQ hbd h
  ·have q':s.rel=true:=by simpa using q
   rw[q']at h
   exact aQ hbd h
 have b3:(s.kind==3)=false:=by simp [h3]
 rw[if_neg h3]at h
 by_cases h4:s.kind=4∨s.kind=5
 ·rw[if_pos h4]at h
  rcases h4 with h4|h4
  ·have b4:(s.kind==4)=true:=by simp [h4]
   simp only[go_sem,eb,b3,b4,ac,ad]
   exact⟨⟨by omega,by omega⟩,aQ hbd h⟩
  ·have b4:(s.kind==4)=false:=by simp [h4]
   have b5:(s.kind==5)=true:=by simp [h4]
   simp only[go_sem,eb,b3,b4,b5,ac,ad]
   exact⟨⟨by omega,by omega⟩,aQ hbd h⟩
 have b4:(s.kind==4)=false:=by simp;omega
 have b5:(s.kind==5)=false:=by simp;omega
 rw[if_neg h4]at h
 by_cases h6:s.kind=6
 ·have b6:(s.kind==6)=true:=by simp [h6]
  have htg:0≤s.target∧s.target<p.threads.length:=by
   rcases hsk.kind with q|q|q|q|q|q|q<;> first|(have:=q.1;omega)|skip
   exact cS.1 q.2.2.2.1
  have et:=bW (l:=c.pos) (j:=s.target.toNat) (by omega)
  rw[if_pos h6]at h
  simp only[bu,go_sem,eb,b3,b4,b5,b6,et,ac,ad]
  exact⟨⟨by omega,by omega⟩,λ q=>⟨q,by omega,by omega⟩,aQ hbd h⟩
 have b6:(s.kind==6)=false:=by simp [h6]
 rw[if_neg h6]at h
 by_cases h7:s.kind=7
 ·have b7:(s.kind==7)=true:=by simp [h7]
  have htg:0≤s.target∧s.target<p.threads.length:=by
   rcases hsk.kind with q|q|q|q|q|q|q<;> first|(have:=q.1;omega)|skip
   exact cS.1 q.2.2.2.1
  have et:=bW (l:=c.pos) (j:=s.target.toNat) (by omega)
  have e3:=fe (l:=p.threads) (j:=s.target.toNat) (by omega)
  have eb2:List.getD (c.buf.map cu) s.target.toNat default= .sl 2 ((c.bufAt s.target.toNat).map bO):=gH (l:=c.buf) (by omega)
  have h1:=(hp.thr (j:=s.target.toNat) (by omega)).points
  have h8:=(hp.thrS (j:=s.target.toNat) (by omega)).points
  rw[if_pos h7]at h
  unfold Prg.thr at h
  generalize p.threads.getD s.target.toNat fg=x at e3 h1 h8 h
  generalize c.bufAt s.target.toNat=B2 at eb2 h
  have be2:B2.isEmpty=((B2.length:Int)==0):=by
   rcases B2 with _|⟨x,r⟩
   ·rfl
   ·simp;omega
  rw[be2]at h
  have ws:IntKind.i64.wrap (x.points - 1)=x.points - 1:=cq _ (by omega) (by omega)
  simp only[bu,go_sem,eb,eb2,b3,b4,b5,b6,b7,et,e3,c8,ws,ac,ad]
  exact⟨⟨by omega,by omega⟩,⟨by omega,by omega⟩,λ q=>⟨q,by omega,by omega⟩,λ q=>⟨q,by omega,by omega⟩,aQ hbd h⟩
 ·have b7:(s.kind==7)=false:=by simp [h7]
  rw[if_neg h7]at h
  simp only[bu,go_sem,eb,b3,b4,b5,b6,b7,ac,ad]
  exact⟨⟨by omega,by omega⟩,aQ hbd h⟩
theorem openU(p:Prg)(m:Int)(c:Cfg)(t:Nat)(Z:St)(G:Glob)(R:A→St→Prop)(h:R (.fn (.func 86) [] [.ref Z.length 0,.ref (Z.length+1) 0]) (Z++[pc p m c,some (.cells [dn t])])):AC Tryz.prog G 44 [.d (qO p m c),dn t] Z R:=by
 unfold qO
 refine bg a9 Tryz.func44 rfl Tryz.ntmps44 (by simp only[go_sem]) λ hbd=> ?_
 simp only[ae,aj,Nat.reduceAdd,Nat.reduceSub,af,ag,ah,ak]
 simp only[bu,go_sem]
 exact⟨_,_,bw.refl _ _ _ _,h⟩
theorem open1U (p:Prg) (m:Int) (hm:m=1∨m=2) (c:Cfg) (t:Nat) (ht:t<c.buf.length) (B:List Ent) (hBt:c.bufAt t=B) (hB:B.length≤100) (hs:∀o∈B,o.cells.length≤1000) {sb tb y:Nat} (Z:St) (I:Nat→St→Prop) (E:St→Prop) (G:Glob)
  (h0:I 0 Z) (hI:∀j st,I j st→st[sb]? =some (pc p m c)∧st[tb]? =some (some (.cells [dn t])))
  (hP:∀j st l,I j st→I j (st++l))
  (hN:∀j st,j<B.length→eL m B j=false→I j st→I (j+1) st)
  (hY:∀j st,j<B.length→eL m B j=true→I j st→YC Tryz.prog G y [dn j,.d (bO (B.getD j cD))] st λ r st'=>(r=db true∧I (j+1) st')∨(r=db false∧E st'))
  (R:A→St→Prop) (h:∀r st,I B.length st∨E st→R r st):AC Tryz.prog G 86 [.fn (.yield y) [] [],.ref sb 0,.ref tb 0] Z R:=by
 have eb:List.getD (c.buf.map cu) t default= .sl 2 ((c.bufAt t).map bO):=gH (l:=c.buf) ht
 rw[hBt]at eb
 obtain⟨i1,i2⟩:=hI _ _ h0
 refine bM a9 Tryz.func86 rfl Tryz.ntmps86 (by simp only[go_sem]) λ hbd=> ?_
 simp only[ae,aj,Nat.reduceAdd,Nat.reduceSub,af,ag,ah,ak]
 simp only[go_sem,aO i1,aX i1,aO i2,aX i2,eb,ac,ad]
 refine⟨⟨by omega,by omega⟩,?_⟩
 refine aS (λ k fr st=>∃j:Nat,j≤B.length∧k=B.length - j∧I j st∧fr=%[.fn (.yield y) [] [],.ref sb 0,.ref tb 0,.o,.d (.sl 2 (B.map bO))|D4 %[.d (.sl 2 (B.map bO)),dn B.length,dn j|D5 (D4 [])]]) B.length _ (Wk.mask [0,1,2,4,13,14,15] ⟨0,by omega,by omega,h0,rfl⟩) ?_
 rintro k fr st ⟨j,hj,hk,hi,rfl⟩
 rcases aC j B.length with hlt|hge
 ·have hd:decide ((j:Int)<(B.length:Int))=true:=by simp;omega
  have w2:=bC j (by omega)
  have e2:=gG (l:=B) hlt
  have hY':=hY j
  have hmem:=bv cD hlt
  obtain⟨E0,hE0⟩:∃E0,B.getD j cD=E0:=⟨_,rfl⟩
  rw[hE0]at hY' e2 hmem
  replace e2:List.getD (B.map bO) j default= .agg [bu E0.cells,bu E0.vals]:=e2
  have hbl:=blockedU (B.take j) E0 (by rw[aP];omega) (λ o ho=>hs o (dW ho)) (hs _ hmem)
  have hN':=hN j
  obtain⟨j1,j2⟩:=hI _ _ (hP j st [some (.cells [.d (bu E0.cells),.d (bu E0.vals)])] hi)
  have hip:=hP j st [some (.cells [.d (bu E0.cells),.d (bu E0.vals)])] hi
  rcases cv j with rfl|hj0
  ·have d0:decide ((0:Int)<((0:Nat):Int))=false:=rfl
   have d0':decide (((0:Nat):Int) > 0)=false:=rfl
   simp only[go_sem,hd,e2,ac,ad]
   refine⟨⟨by omega,by omega⟩,?_⟩
   refine bb (.tk 14 0<| .done) (by kernel_rfl) ?_
   simp only[go_sem,d0,aO j1,aX j1,ac,ad]
   refine gO (.bool true) ⟨λ q=>Bool.noConfusion q,?_⟩
   simp only[go_sem,d0,aO j1,aX j1,ac,ad]
   refine yc' ((hY' _ hlt rfl hip).mono λ r st' hr=> ?_)
   rcases hr with⟨rfl,hI'⟩|⟨rfl,hE⟩
   ·simp only[go_sem,w2]
    exact Wk.mask [0,1,2,4,13,14,15] ⟨B.length - (0+1),by omega,0+1,by omega,rfl,hI',rfl⟩
   ·try simp only[go_sem]
    exact⟨_,_,bw.refl _ _ _ _,h _ _ (.inr hE)⟩
  ·have d0:decide ((0:Int)<(j:Int))=true:=by simp;omega
   have jb:(j==0)=false:=by simp;omega
   simp only[go_sem,hd,e2,ac,ad]
   refine⟨⟨by omega,by omega⟩,?_⟩
   refine bb (.tk 14 0<| .done) (by kernel_rfl) ?_
   rcases hm with rfl|rfl
   ·have mb:((1:Int)!=2)=true:=rfl
    have hr:eL 1 B j=false:=by unfold eL;rw[jb];rfl
    simp only[go_sem,d0,mb,aO j1,aX j1,ac,ad]
    refine gO (.bool true) ⟨λ q=>Bool.noConfusion q,?_⟩
    simp only[go_sem,d0,mb,w2,aO j1,aX j1,ac,ad]
    exact Wk.mask [0,1,2,4,13,14,15] ⟨B.length - (j+1),by omega,j+1,by omega,rfl,hN' _ hlt hr hip,rfl⟩
   ·have mb:((2:Int)!=2)=false:=rfl
    have hr:eL 2 B j= !nA (B.take j) E0:=by unfold eL;rw[jb,hE0];simp
    simp only[go_sem,d0,mb,aO j1,aX j1,ac,ad]
    rw[List.map_take]at hbl
    refine⟨⟨by omega,by omega,by omega⟩,gO (.bool (nA (B.take j) E0)) ⟨λ _=>⟨rfl,bH (hbl _ _ _ ?_)⟩,?_⟩⟩
    ·simp only[go_sem]
    simp only[go_sem,d0,mb,w2,aO j1,aX j1,ac,ad]
    refine⟨λ q=> ?_,λ q=> ?_⟩
    ·rw[q]at hr
     exact Wk.mask [0,1,2,4,13,14,15] ⟨B.length - (j+1),by omega,j+1,by omega,rfl,hN' _ hlt hr hip,rfl⟩
    rw[q]at hr
    refine yc' ((hY' _ hlt hr hip).mono λ r st' hr=> ?_)
    rcases hr with⟨rfl,hI'⟩|⟨rfl,hE⟩
    ·simp only[go_sem,w2]
     exact Wk.mask [0,1,2,4,13,14,15] ⟨B.length - (j+1),by omega,j+1,by omega,rfl,hI',rfl⟩
    ·try simp only[go_sem]
     exact⟨_,_,bw.refl _ _ _ _,h _ _ (.inr hE)⟩
 ·have hd:decide ((j:Int)<(B.length:Int))=false:=by simp;omega
  have:j=B.length:=by omega
  subst this
  simp only[go_sem,hd]
  exact⟨_,_,bw.refl _ _ _ _,h _ _ (.inl hi)⟩
@[go_sem ↓] theorem headId_range (g:Operand) (ps:Array Tmp) (a b:Code):il (.rangeFunc g ps a b)=none:=(rfl)
structure ChU (Z:St) (p:Prg) (m:Int) (c:Cfg) (t:Nat) (lp:Ob) (L:List Cho) (st:St):Prop where
 old:∀k,k<Z.length→st[k]? =Z[k]?
 o0:st[Z.length]? =some (bN p)
 o1:st[Z.length+1]? =some (dy c)
 o2:st[Z.length+2]? =some (pc p m c)
 o5:st[Z.length+5]? =some (some (.cells [dn t]))
 o6:st[Z.length+6]? =some (pc p m c)
 o7:st[Z.length+7]? =some (some (.cells [dn t]))
 o8:st[Z.length+8]? =some (some lp)
 acc:∃a,(a=4∨8<a)∧st[Z.length+3]? =some (some (.cells [.rs (Z.length+a) 3 0 L.length (some 37)]))∧st[Z.length+a]? =some (jE L)
theorem ChU.app{Z:St}{p:Prg}{m:Int}{c:Cfg}{t:Nat}{lp:Ob}{L:List Cho}{st:St}(h:ChU Z p m c t lp L st)(l:St):ChU Z p m c t lp L (st++l):=by
 obtain⟨h0,h1,h2,h3,h4,h5,h6,h7,a,ha,h8,h9⟩:=h
 have e:∀{k:Nat} {o:Option Ob},st[k]? =some o→(st++l)[k]? =some o:=λ hk=>by rw[aq (aL hk)];exact hk
 exact⟨λ k hk=>by rw[aq (by have:=aL h1;omega)];exact h0 k hk,e h1,e h2,e h3,e h4,e h5,e h6,e h7,a,ha,e h8,e h9⟩
theorem Gh{G:Glob}(hG:G.g 0=some cB)(hpan:∀a s,¬G.pan a s)(p:Prg)(hp:Good p)(m:Int)(hm:0≤m∧m≤2)(c:Cfg)(hf:Fits p m c)(Z:St)(R:A→St→Prop)(h:R (.d (.sl 3 ((fY p m c).map c7))) Z):AC Tryz.prog G 17 [.d (bK p),di m,.d (bX c)] Z R:=by
 by_cases hm0:m=0
 ·subst hm0
  have en:=EnabledM hG p hp c hf
  have z0:((0:Int)==0)=true:=rfl
  unfold bK bX at*
  refine bg a9 Tryz.func17 rfl Tryz.ntmps17 (by simp only[go_sem]) λ hbd=> ?_
  simp only[ae,aj,Nat.reduceAdd,Nat.reduceSub,af,ag,ah,ak]
  simp only[go_sem,z0]
  refine bH (en _ _ ?_)
  try simp only[go_sem]
  exact aQ hbd h
 have hm':m=1∨m=2:=by omega
 have m0:(m==0)=false:=by simp [hm0]
 have lo:=loadU hG p hp m hm' c hf
 have htn:=hp.sm.nthr
 have hcn:=hp.sm.ncel
 have hnp:=hf.npos
 have hnb:=hf.nbuf
 have hml:=hf.mem.len
 have en:=λ t ht i hi=>zX hG p hp m hm' c hf t i ht hi
 have hpl:=λ t (ht:t≤p.threads.length)=>qa hp hf (t:=t) ht
 unfold fY at h
 unfold bK bX qO at*
 refine iN [17] a9 Tryz.func17 rfl Tryz.ntmps17 (by simp only[go_sem]) λ hbd=> ?_
 simp only[ae,aj,Nat.reduceAdd,Nat.reduceSub,af,ag,ah,ak]
 simp only[go_sem,m0]
 refine bH (lo _ _ ?_)
 simp only[bu,go_sem,ac,hnp]
 refine aS (λ k fr st=>∃t:Nat,t≤p.threads.length∧k=p.threads.length - t∧fr=%[.o,.o,.o,.ref Z.length 0,.o,.ref (Z.length+1) 0,.o,.ref (Z.length+2) 0,.o,.ref (Z.length+3) 0|D5 %[.o,.o,.o,.o,.o,.o,dn p.threads.length,dn t|D6 (D4 [.o,.o,.o])]]∧st=Z++[bN p,dy c,pc p m c,some (.cells [.rs (Z.length+4) 3 0 ((List.range t).flatMap (lH p m c)).length (some 37)]),jE ((List.range t).flatMap (lH p m c))]) p.threads.length _ ?_ ?_
 ·exact⟨_,_,(bw.mask [3,5,7,9,32,33]).trans (bw.emptyIn 3 0 3 (some 37) rfl rfl),0,by omega,by omega,rfl,by simp [bU,bu]⟩
 rintro k fr st ⟨t,ht,hk,rfl,rfl⟩
 obtain⟨L0,hL0⟩:∃L0,(List.range t).flatMap (lH p m c)=L0:=⟨_,rfl⟩
 have hl0:=hpl t ht
 rw[hL0]at hl0
 rw[hL0]
 rcases aC t p.threads.length with hlt|hge
 ·have hd:decide ((t:Int)<(p.threads.length:Int))=true:=by simp;omega
  have w2:=bC t (by omega)
  have e2:=fe (l:=p.threads) hlt
  have hsz:=(hp.thrS hlt).nst
  have hL1:(List.range (t+1)).flatMap (lH p m c)=nQ (jx L0 (λ i=>qt p m c t (p.stp t i)) t (p.thr t).steps.length) (eL m (c.bufAt t)) (c.bufAt t) t (c.bufAt t).length:=by rw[eY,dB,hL0,←Aa];simp
  have en:=en t hlt
  have hxs:p.thr t=p.threads.getD t fg:=rfl
  rw[hxs]at en
  rw[hxs]at hL1
  obtain⟨f,hfd⟩:∃f:Nat→Bool,(λ i=>qt p m c t (p.stp t i))=f:=⟨_,rfl⟩
  have hfa:∀i,qt p m c t (p.stp t i)=f i:=λ i=>congrFun hfd i
  rw[hfd]at hL1
  generalize p.threads.getD t fg=x at e2 hsz en hL1
  obtain⟨hB3,hB4⟩:=hf.bufOk t
  have vi:=viewU c t (by omega) (by omega) (by omega) (λ e he=>EntOk.isIn hp hf (hB4 _ he))
  have opn:=openU p m c t
  unfold bX at vi
  unfold qO at opn
  simp only[bu,go_sem,hd,w2,ac,ad]
  refine bH (vi _ _ _ ?_)
  simp only[bu,go_sem]
  refine bc (λ fr st=>fr=%[.o,.o,.o,.ref Z.length 0,.o,.ref (Z.length+1) 0,.o,.ref (Z.length+2) 0,.o,.ref (Z.length+3) 0,.ref (Z.length+5) 0|D5 %[.o,.o,.o,.o,.o,dn p.threads.length,dn t|D6 (D4 [.o,.o,.o])]]∧st=Z++[bN p,dy c,pc p m c,some (.cells [.rs (Z.length+4) 3 0 (jx L0 f t x.steps.length).length (some 37)]),jE (jx L0 f t x.steps.length),some (.cells [dn t])]) ?_ ?_
  ·simp only[bu,go_sem,c8,e2,ac,ad]
   refine⟨⟨by omega,by omega⟩,?_⟩
   refine aS (λ k fr st=>∃i:Nat,i≤x.steps.length∧k=x.steps.length - i∧fr=%[.o,.o,.o,.ref Z.length 0,.o,.ref (Z.length+1) 0,.o,.ref (Z.length+2) 0,.o,.ref (Z.length+3) 0,.ref (Z.length+5) 0,.d (bu (cT c t))|D5 %[.o,.o,.o,.o,dn p.threads.length,dn t|D4 %[.o,.o,.o,dn x.steps.length,dn i|D5 (D4 [.o,.o,.o,.o,.o,.o])]]]∧st=Z++[bN p,dy c,pc p m c,some (.cells [.rs (Z.length+4) 3 0 (jx L0 f t i).length (some 37)]),jE (jx L0 f t i),some (.cells [dn t])]) x.steps.length _ (Wk.mask [3,5,7,9,10,11,32,33,45,46] ⟨0,by omega,by omega,rfl,by rw[mr]⟩) ?_
   rintro k2 fr st ⟨i,hi,hk2,rfl,rfl⟩
   have hsnoc:=rJ L0 f t i
   have hl1:=nP L0 f t i
   rcases aC i x.steps.length with hl2|hg2
   ·have hd2:decide ((i:Int)<(x.steps.length:Int))=true:=by simp;omega
    have w3:=bC i (by omega)
    have hen:=en i hl2
    rw[hfa i]at hen
    have hfl:=fh (jx L0 f t i)
    simp only[go_sem,hd2,ac,ad]
    refine bH (hen _ _ ?_)
    simp only[go_sem,w3]
    refine⟨λ q=> ?_,λ q=> ?_⟩
    ·rw[if_pos q]at hsnoc
     refine⟨⟨hfl,by simp only[maxLen];omega,by omega⟩,Wk.keep [3,5,7,9,10,11,32,33,45,46] [0,1,2,3,7,5] (by decide) (aE _) hbd ⟨x.steps.length - (i+1),by omega,i+1,by omega,rfl,?_,?_⟩⟩
     ·simp only[go_sem,aF,ae,aj]
     ·rw[hsnoc,jE,lc];simp only[go_sem,dj,cG,aF,ae,aj]
    ·rw[q,if_neg cX]at hsnoc
     exact Wk.mask [3,5,7,9,10,11,32,33,45,46] ⟨x.steps.length - (i+1),by omega,i+1,by omega,rfl,rfl,by rw[hsnoc]⟩
   ·have hd2:decide ((i:Int)<(x.steps.length:Int))=false:=by simp;omega
    have:i=x.steps.length:=by omega
    subst this
    simp only[go_sem,hd2]
    exact Wk.mask [3,5,7,9,10,32,33] ⟨rfl,rfl⟩
  rintro fr st ⟨rfl,rfl⟩
  obtain⟨L1,hL1e⟩:∃L1,jx L0 f t x.steps.length=L1:=⟨_,rfl⟩
  have hl1:=nP L0 f t x.steps.length
  rw[hL1e]at hl1 hL1
  rw[hL1e]
  simp only[bu,go_sem]
  refine bH (opn _ _ _ ?_)
  try simp only[go_sem]
  have eb:List.getD (c.buf.map cu) t default= .sl 2 ((c.bufAt t).map bO):=gH (l:=c.buf) (by omega)
  obtain⟨B,hB⟩:∃B,c.bufAt t=B:=⟨_,rfl⟩
  have hBne:∀e∈B,e.cells≠[]∧e.cells.length≤1000:=λ e he=>⟨(hB4 e (hB▸he)).pos,by have:=(hB4 e (hB▸he)).few;omega⟩
  rw[hB]at hB3 hL1
  have hal:=λ j=>Aq L1 (eL m B) B t j
  obtain⟨fr0,hfr0⟩:∃fr0:Fr,fr0=%[.o,.o,.o,.ref Z.length 0,.o,.ref (Z.length+1) 0,.o,.ref (Z.length+2) 0,.o,.ref (Z.length+3) 0,.ref (Z.length+5) 0|D5 %[.o,.o,.o,.o,.o,dn p.threads.length,dn t|D5 (D4 %[.o,.o,.o,.o,.o,.fn (.func 86) [] [.ref (Z.length+6) 0,.ref (Z.length+7) 0]|D4 [.o,.o,.o,.o,.o]])]]:=⟨_,rfl⟩
  refine qB hpan ⟨fr0,_,by rw[hfr0];exact bw.mask [3,5,7,9,10,32,33,63],by rw[hfr0];simp [jo,A.bd],86,[],[.ref (Z.length+6) 0,.ref (Z.length+7) 0],by rw[hfr0];rfl,λ q r hY=> ?_⟩
  simp only[aF,ae,aj,Nat.reduceAdd,aU,ah,ak]at hY ⊢
  refine open1U p m hm' c t (by omega) B hB (by omega) (λ o ho=>(hBne o ho).2) _ (λ j st=>ChU Z p m c t (.lp q r fr0) (nQ L1 (eL m B) B t j) st) (λ _=>False) G ?_ (λ j st hI=>⟨hI.o6,hI.o7⟩) (λ j st l hI=>hI.app l) (λ j st hj hr hI=> ?_) (λ j st hj hr hI=> ?_) _ (λ r' st hst=> ?_)
  ·have hat:∀(k:Nat) (l:St) (o:Option Ob),l[k]? =some o→(Z++l)[Z.length+k]? =some o:=λ k l o hk=>by rw[az (by omega),bk];exact hk
   exact⟨λ k hk=>aq hk,hat 0 _ _ rfl,hat 1 _ _ rfl,hat 2 _ _ rfl,hat 5 _ _ rfl,hat 6 _ _ rfl,hat 7 _ _ rfl,hat 8 _ _ rfl,4,.inl rfl,by rw[oD];exact hat 3 _ _ rfl,by rw[oD];exact hat 4 _ _ rfl⟩
  ·rw[rK,hr];exact hI
  ·have hsnoc:=rK L1 (eL m B) B t j
   rw[if_pos hr]at hsnoc
   have haj:=hal j
   have hEm:=hBne _ (bv cD hj)
   rw[hsnoc]
   generalize nQ L1 (eL m B) B t j=A0 at haj hI
   generalize B.getD j cD=E at hEm
   obtain⟨iold,i0,i1,i2,i5,i6,i7,i8,a,ha,i3,i4⟩:=hI
   refine hY _ _ _ ⟨i8,rfl,?_⟩
   have hset:oK fr0 [64,65] [dn j,.d (bO E)]=%[.o,.o,.o,.ref Z.length 0,.o,.ref (Z.length+1) 0,.o,.ref (Z.length+2) 0,.o,.ref (Z.length+3) 0,.ref (Z.length+5) 0|D5 %[.o,.o,.o,.o,.o,dn p.threads.length,dn t|D5 (D4 %[.o,.o,.o,.o,.o,.fn (.func 86) [] [.ref (Z.length+6) 0,.ref (Z.length+7) 0],dn j,.d (bO E)|D4 [.o,.o,.o]])]]:=by rw[hfr0];rfl
   rw[hset]
   simp only[bO,go_sem]
   have i8l:=aL i8
   refine⟨by rw[aq i8l];exact i8,?_⟩
   obtain⟨s2,hs2⟩:∃s2,(st++[some (Ob.cells [A.d (bu E.cells),A.d (bu E.vals)])]).set (Z.length+8) (some (.lp q { r with state:= .busy} fr0))=s2:=⟨_,rfl⟩
   have hv2:s2[st.length]? =some (some (.cells [A.d (bu E.cells),A.d (bu E.vals)])):=by rw[←hs2,fM (by omega)];simp
   have old2:∀k,k<st.length→k≠Z.length+8→s2[k]? =st[k]? :=λ k hk hn=>by rw[←hs2,fM (Ne.symm hn),aq hk]
   have l2':s2.length=st.length+1:=by rw[←hs2,aH];simp
   have hal4:=aL i4
   have b3:=old2 _ (aL i3) (by omega)
   have b5:=old2 _ (aL i5) (by omega)
   have b4:=old2 _ hal4 (by omega)
   rw[i3]at b3
   rw[i5]at b5
   rw[i4]at b4
   rw[hs2]
   have hfl:=fh A0
   unfold jE at b4
   have hpos:0<E.cells.length:=by have:=hEm.1;rcases h0:E.cells with _|⟨u,w⟩;exact absurd h0 this;simp
   have e0:List.getD (List.map iD E.cells) (Int.toNat 0) default=iD (E.cells.getD 0 0):=bW (l:=E.cells) (j:=0) hpos
   generalize E.cells.getD 0 0=C0 at e0
   simp only[bu,go_sem,aO b3,aX b3,aO b5,aX b5,aO hv2,aX hv2,e0,fC,aO b4,aX b4,gU b4,ac]
   obtain⟨s3,hs3⟩:∃s3,(List.set (s2++[some (Ob.cells [A.d (D.int IntKind.i64 (t:Int)),A.d (D.int IntKind.i64 (-1)),A.d (iD C0)])]) (Z.length+a) none++[some (Ob.cells (bU (List.map c7 A0)++[A.d (D.int IntKind.i64 (t:Int)),A.d (D.int IntKind.i64 (-1)),A.d (iD C0)]))])=s3:=⟨_,rfl⟩
   rw[hs3]
   have g3:∀k,k<s2.length→k≠Z.length+a→s3[k]? =s2[k]? :=λ k hk hne=>by
    rw[←hs3,aq (by simp;omega),aD (Ne.symm hne),aq hk]
   have l3':s3.length=s2.length+2:=by rw[←hs3];simp
   have h3:s3[Z.length+3]? =some (some (.cells [.rs (Z.length+a) 3 0 A0.length (some 37)])):=by rw[g3 _ (by omega) (by omega)];exact b3
   have h4:s3[s2.length+1]? =some (some (.cells (bU (List.map c7 A0)++[A.d (D.int IntKind.i64 (t:Int)),A.d (D.int IntKind.i64 (-1)),A.d (iD C0)]))):=by
    rw[←hs3,az (by simp)]
    simp
   simp only[go_sem,aO h3,aX h3,aO h4]
   refine⟨⟨by omega,by omega⟩,⟨hfl,by simp only[maxLen];omega,by omega⟩,?_⟩
   refine⟨_,bw.refl _ _ _ _,?_,.inl ⟨rfl,?_⟩⟩
   ·rw[aD (by omega),g3 _ (by omega) (by omega),←hs2]
    exact iR (by rw[aq i8l];exact i8)
   ·have g5:∀k o,st[k]? =some o→k≠Z.length+a→k≠Z.length+3→k≠Z.length+8→(List.set (List.set s3 (Z.length+3) (some (.cells [A.rs (s2.length+1) 3 0 (A0.length+1) (some 37)]))) (Z.length+8) (some (.lp q r fr0)))[k]? =some o:=λ k o hk k1 k2 k3=>by
     have:=aL hk
     rw[aD (Ne.symm k3),aD (Ne.symm k2),g3 k (by omega) k1,old2 k (by omega) k3]
     exact hk
    have g6:∀k,k<Z.length→(List.set (List.set s3 (Z.length+3) (some (.cells [A.rs (s2.length+1) 3 0 (A0.length+1) (some 37)]))) (Z.length+8) (some (.lp q r fr0)))[k]? =Z[k]? :=λ k hk=>by
     rw[aD (by omega),aD (by omega),g3 k (by omega) (by omega),old2 k (by omega) (by omega)]
     exact iold k hk
    refine⟨g6,g5 _ _ i0 (by omega) (by omega) (by omega),g5 _ _ i1 (by omega) (by omega) (by omega),g5 _ _ i2 (by omega) (by omega) (by omega),g5 _ _ i5 (by omega) (by omega) (by omega),g5 _ _ i6 (by omega) (by omega) (by omega),g5 _ _ i7 (by omega) (by omega) (by omega),aT (by rw[aH];omega),s2.length+1 - Z.length,.inr (by omega),?_,?_⟩
    ·rw[aD (by omega),aT (by omega),show Z.length+(s2.length+1 - Z.length)=s2.length+1 by omega,aF];rfl
    ·rw[show Z.length+(s2.length+1 - Z.length)=s2.length+1 by omega,aD (by omega),aD (by omega),h4,jE,lc]
  ·rcases hst with hI|hI
   ·obtain⟨iold,i0,i1,i2,i5,i6,i7,i8,a,ha,i3,i4⟩:=hI
    refine .inl ⟨i8,_,_,bw.refl _ _ _ _,?_⟩
    rw[hfr0]
    simp only[go_sem,w2]
    obtain⟨s4,hs4⟩:∃s4,st.set (Z.length+8) none=s4:=⟨_,rfl⟩
    rw[hs4]
    have g4:∀k o,st[Z.length+k]? =some o→k≠8→(s4.drop Z.length)[k]? =some o:=λ k o hk hn=>by
     rw[bE,←hs4,aD (by omega)];exact hk
    have hs5:s4=Z++s4.drop Z.length:=by
     have:s4.take Z.length=Z:=by
      refine cz λ k=> ?_
      rcases aC k Z.length with hk|hk
      ·rw[bL hk,←hs4,aD (by omega)];exact iold k hk
      ·rw[bm (by rw[aP];omega),bm hk]
     rw[←congrArg (· ++s4.drop Z.length) this]
     exact(ct _ _).symm
    have k0:=g4 0 _ i0 (by omega)
    have k1:=g4 1 _ i1 (by omega)
    have k2:=g4 2 _ i2 (by omega)
    have k3:=g4 3 _ i3 (by omega)
    have k4:=g4 a _ i4 (by omega)
    generalize s4.drop Z.length=l4 at hs5 k0 k1 k2 k3 k4
    rw[hs5]
    have n0:((0:Nat)=a)=False:=eq_false (by omega)
    have n1:((1:Nat)=a)=False:=eq_false (by omega)
    have n2:((2:Nat)=a)=False:=eq_false (by omega)
    have n3:((3:Nat)=a)=False:=eq_false (by omega)
    refine Wk.keep [3,5,7,9,32,33] [0,1,2,3,a] ?_ (aE _) hbd ⟨p.threads.length - (t+1),by omega,t+1,by omega,rfl,?_,?_⟩
    ·simp only[cR,aV,bi,or_false,not_or,not_false_eq_true,List.nodup_nil,and_true]
     omega
    ·simp only[go_sem]
    ·rw[hL1]
     simp only[iC,aM,bq,lD,au,k0,k1,k2,k3,k4,b9,bJ]
     simp only[go_sem,n0,n1,n2,n3,if_false,bJ,cG]
   ·exact hI.elim
 ·have hd:decide ((t:Int)<(p.threads.length:Int))=false:=by simp;omega
  have:t=p.threads.length:=by omega
  subst this
  rw[hL0]at h
  simp only[bu,go_sem,hd,ac]
  refine de 4 3 0 (L0.map c7) rfl (kZ L0) ?_
  simp only[go_sem,ac,and_self,if_true,false_and,if_false]
  exact aQ hbd h
end
end Go.Proofs.YtdpdbokicanpoaaGreatDoor
