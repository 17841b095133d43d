import Derived.Test.YtdpdbokicanpoaaGreatDoorZ43
set_option linter.unusedSimpArgs false
set_option linter.unusedVariables false
set_option maxHeartbeats 64000000
set_option maxRecDepth 100000
namespace Go.Proofs.YtdpdbokicanpoaaGreatDoor
section
open Go Go.Ab
structure StpIn (p:Prg) (s:Stp):Prop where
 ncel:p.cells.length≤12
 nmod:p.modules.length≤3
 nthr:p.threads.length≤3
 sm:StpSm s
 gv:s.guard.valid p.cells false=true
 set:∀a∈s.set,AsgOk p a
theorem AZ{p:Prg}{pair:Bool}{f:Int→Bool}{e:Ex}(hn:e.nodes≤40)(hv:e.valid p.cells pair=true)(h:e.allB f=true):Ovr (λ c=>f c=true) e:=by
 obtain⟨_,hd,_⟩:=Ex.valid_iff.1 hv
 obtain⟨h3,h2⟩:=qD hd |>.1 h
 exact⟨hn,hd,h3,h2⟩
theorem StpIn.ovrG{p:Prg}{s:Stp}(h:StpIn p s){f:Int→Bool}(hf:s.guard.allB f=true):Ovr (λ c=>f c=true) s.guard:=AZ h.sm.guard h.gv hf
theorem StpIn.ovrA{p:Prg}{s:Stp}(h:StpIn p s){f:Int→Bool}{a:Asg}(ha:a∈s.set)(hf:a.to.allB f=true):Ovr (λ c=>f c=true) a.to:=AZ (h.sm.to a ha) (h.set a ha).to hf
theorem zN{G:Glob}(hG:G.g 0=some cB)(p:Prg)(t:Int)(s:Stp)(hs:StpIn p s)(h1:s.guard.allB (p.owB t)=true)(h2:∀a∈s.set,a.to.allB (p.owB t)=true∧p.owB t a.cell=true)(Z:St)(R:A→St→Prop)(h:R (db true) Z):
  AC Tryz.prog G 167 [.d (bK p),di t,.d (eP s)] Z R:=by
 have hn:=hs.sm.set
 have own:=B7 p t
 have pr:=xk p t (by have:=hs.ncel;omega) G (Z.length+2) (Z.length+3)
 have hv:=ta hG pr s (by omega) (hs.ovrG h1) (λ a ha=>hs.ovrA ha (h2 a ha).1)
 have ht:=qM pr s.set (by omega) (λ a ha=>(h2 a ha).2)
 unfold eP bK at*
 refine bg a9 Tryz.func167 rfl Tryz.ntmps167 (by simp only[go_sem]) λ hbd=> ?_
 simp only[ae,aj,Nat.reduceAdd,Nat.reduceSub,af,ag,ah,ak]
 try simp only[go_sem]
 refine bH (own _ _ _ ?_)
 try simp only[go_sem]
 refine bH (hv _ ⟨by simp,by simp⟩ _ ?_)
 try simp only[go_sem]
 refine gO (.bool true) ⟨λ _=>⟨rfl,bH (ht _ ⟨by simp,by simp⟩ _ ?_)⟩,?_⟩
 ·simp only[go_sem]
 try simp only[go_sem]
 exact aQ hbd h
theorem xD{G:Glob}(hG:G.g 0=some cB)(p:Prg)(t:Int)(s:Stp)(hs:StpIn p s)(h1:s.guard.allB (p.viB t)=true)(h2:∀a∈s.set,a.to.allB (p.viB t)=true∧p.viB t a.cell=true)(Z:St)(R:A→St→Prop)(h:R (db true) Z):
  AC Tryz.prog G 170 [.d (bK p),di t,.d (eP s)] Z R:=by
 have hn:=hs.sm.set
 have vis:=qK p t
 have pr:=oY p t (by have:=hs.ncel;omega) G (Z.length+2) (Z.length+5) (Z.length+3) (Z.length+4)
 have hv:=ta hG pr s (by omega) (hs.ovrG h1) (λ a ha=>hs.ovrA ha (h2 a ha).1)
 have ht:=qM pr s.set (by omega) (λ a ha=>(h2 a ha).2)
 unfold eP bK at*
 refine bg a9 Tryz.func170 rfl Tryz.ntmps170 (by simp only[go_sem]) λ hbd=> ?_
 simp only[ae,aj,Nat.reduceAdd,Nat.reduceSub,af,ag,ah,ak]
 try simp only[go_sem]
 refine bH (vis _ _ _ ?_)
 try simp only[go_sem]
 refine bH (hv _ ⟨⟨by simp,by simp⟩,by simp,by simp⟩ _ ?_)
 try simp only[go_sem]
 refine gO (.bool true) ⟨λ _=>⟨rfl,bH (ht _ ⟨⟨by simp,by simp⟩,by simp,by simp⟩ _ ?_)⟩,?_⟩
 ·simp only[go_sem]
 try simp only[go_sem]
 exact aQ hbd h
theorem zO{G:Glob}(p:Prg)(t:Int)(s:Stp)(hs:StpIn p s)(h1:s.guard.one=true)(h2:s.set=[])(Z:St)(R:A→St→Prop)(h:R (db true) Z):
  AC Tryz.prog G 171 [.d (bK p),di t,.d (eP s)] Z R:=by
 have hb:=bare_p s (by have:=hs.sm.set;omega) hs.sm.guard h1 h2
 unfold eP bK at*
 refine bg a9 Tryz.func171 rfl Tryz.ntmps171 (by simp only[go_sem]) λ hbd=> ?_
 simp only[ae,aj,Nat.reduceAdd,Nat.reduceSub,af,ag,ah,ak]
 try simp only[go_sem]
 refine bH (hb _ _ _ ?_)
 try simp only[go_sem]
 exact aQ hbd h
theorem uk{G:Glob}(p:Prg)(t:Int)(s:Stp)(hs:StpIn p s)(h1:s.guard.one=true)(h2:s.set=[])(h3:kj s.target p.threads.length=true)(h4:s.target≠t)(Z:St)(R:A→St→Prop)(h:R (db true) Z):
  AC Tryz.prog G 173 [.d (bK p),di t,.d (eP s)] Z R:=by
 have hb:=bare_p s (by have:=hs.sm.set;omega) hs.sm.guard h1 h2
 have hr:0≤s.target∧s.target<p.threads.length:=by simpa [kj]using h3
 have hbl:=mm p.threads c8 hr
 have e1:(s.target !=t)=true:=by simp [h4]
 unfold eP bK at*
 refine bg a9 Tryz.func173 rfl Tryz.ntmps173 (by simp only[go_sem]) λ hbd=> ?_
 simp only[ae,aj,Nat.reduceAdd,Nat.reduceSub,af,ag,ah,ak]
 try simp only[go_sem]
 refine bH (hb _ _ _ ?_)
 simp only[go_sem,e1]
 refine gO (.bool true) ⟨λ _=>⟨?_,bH (hbl _ _ _ ?_)⟩,?_⟩
 ·simp only[e1];rfl
 ·simp only[go_sem]
 simp only[go_sem,e1]
 exact aQ hbd h
theorem zM{G:Glob}(p:Prg)(t:Int)(s:Stp)(hs:StpIn p s)(h1:s.guard.one=true)(h2:s.set=[])(h3:kj s.target p.threads.length=true)(h4:s.target≠t)(h5:(p.threads.getD s.target.toNat fg).asleep=true)(Z:St)(R:A→St→Prop)(h:R (db true) Z):
  AC Tryz.prog G 172 [.d (bK p),di t,.d (eP s)] Z R:=by
 have hj:=uk (G:=G) p t s hs h1 h2 h3 h4
 have hr:0≤s.target∧s.target<p.threads.length:=by simpa [kj]using h3
 have e2:=fe (l:=p.threads) (j:=s.target.toNat) (by omega)
 unfold eP bK at*
 refine bg a9 Tryz.func172 rfl Tryz.ntmps172 (by simp only[go_sem]) λ hbd=> ?_
 simp only[ae,aj,Nat.reduceAdd,Nat.reduceSub,af,ag,ah,ak]
 try simp only[go_sem]
 refine bH (hj _ _ ?_)
 simp only[go_sem,e2,c8,h5,ac]
 exact⟨hr,aQ hbd h⟩
theorem Bi {G:Glob} (hG:G.g 0=some cB) (p:Prg) (t:Int) (s:Stp) (hs:StpIn p s) (h1:s.guard.allB (p.owB t)=true) (a:Asg) (r:List Asg) (hset:s.set=a::r) (h2:p.owB t a.cell=true) (h3:(p.cell a.cell).ghost=false) (h4:a.to.op=2) (h5:p.shB a.to.n=true) (h6:(p.cell a.to.n).ghost=false)
  (h7:∀b∈r,p.owB t b.cell=true∧(p.cell b.cell).ghost=true∧b.to.allB (p.owB t)=true) (Z:St) (R:A→St→Prop) (h:R (db true) Z):
  AC Tryz.prog G 168 [.d (bK p),di t,.d (eP s)] Z R:=by
 have hn:=hs.sm.set
 have hnc:=hs.ncel
 have own:=B7 p t
 have pr:=xk p t (by omega) G (Z.length+2) (Z.length+3)
 have hov:=λ e (he:Ovr (λ c=>p.owB t c=true) e)=>sH hG pr he
 have og:=hov s.guard (hs.ovrG h1)
 have or':∀b∈r,Ovr (λ c=>p.owB t c=true) b.to:=λ b hb=>hs.ovrA (by rw[hset];exact bR _ hb) (h7 b hb).2.2
 have r1:=(gB.1 h2).1
 obtain⟨r2,q2⟩:=eJ.1 h5
 have g1:=qm p a.cell r1
 have g2:=qm p a.to.n r2
 have s2:=nj p (by omega) a.to.n r2
 have gg:=λ c hc=>qm p c hc
 rw[h3]at g1
 rw[h6]at g2
 rw[dU q2]at s2
 have hl:s.set.length=r.length+1:=by rw[hset];rfl
 have n0:((s.set.length:Int)==0)=false:=by rw[hl];simp;omega
 have e1:List.getD (s.set.map dM) 0 default=dM a:=by rw[hset];rfl
 have e2:(a.to.op !=2)=false:=by simp [h4]
 have hdr:(s.set.map dM).drop 1=r.map dM:=by rw[hset];rfl
 unfold eP bK eD at*
 refine bM a9 Tryz.func168 rfl Tryz.ntmps168 (by simp only[go_sem]) λ hbd=> ?_
 simp only[ae,aj,Nat.reduceAdd,Nat.reduceSub,af,ag,ah,ak]
 try simp only[go_sem]
 refine bH (own _ _ _ ?_)
 simp only[go_sem,n0,ac]
 refine gO (.bool true) ⟨λ _=>⟨?_,bH (og _ ⟨by simp,by simp⟩ _ ?_)⟩,?_⟩
 ·rfl
 ·simp only[go_sem]
 simp only[go_sem,n0,ac]
 refine bb (.tk 13 0<| .done) (by kernel_rfl) ?_
 simp only[go_sem,e1,dM,ac,bZ]
 refine⟨⟨by omega,by omega⟩,⟨by omega,by omega⟩,bH (pr.ans a.cell _ _ h2 ⟨by simp,by simp⟩ ?_)⟩
 try simp only[go_sem]
 refine gO (.bool false) ⟨λ _=>⟨rfl,bH (g1 _ _ _ ?_)⟩,?_⟩
 ·simp only[go_sem]
 simp only[go_sem,e2]
 refine gO (.bool true) ⟨λ _=>⟨?_,bH (s2 _ _ _ ?_)⟩,?_⟩
 ·rfl
 ·simp only[go_sem]
 simp only[go_sem,e2]
 refine gO (.bool false) ⟨λ _=>⟨?_,bH (g2 _ _ _ ?_)⟩,?_⟩
 ·rfl
 ·simp only[go_sem]
 simp only[go_sem,e2,hl,ac]
 have hdr2:List.drop (Int.toNat 1) (List.take (r.length+1) (s.set.map dM))=r.map dM:=by
  rw[aK (by rw[ac,hl];exact aE _)];exact hdr
 rw[hdr2]
 simp only[go_sem,ac]
 refine⟨⟨by omega,by omega,by omega⟩,?_⟩
 refine aS (λ m fr st=>∃j:Nat,j≤r.length∧m=r.length - j∧fr=%[.o,.o,.o,.ref Z.length 0,.o,.o,.o,.fn (.func 166) [] [.ref (Z.length+2) 0,.ref (Z.length+3) 0]|D6 (D5 (D4 %[.o,.d (.sl 5 (r.map dM)),dn r.length,dn j|D5 [.o,.o,.o,.o,.o,.o,.o]]))]∧st=Z++[bN p,gS s,bN p,some (.cells [di t])]) r.length _ ?_ ?_
 ·exact Wk.keep [3,7,65,66,67] [0,1,2,3] (by decide) (aE _) hbd ⟨0,by omega,by omega,by simp only[go_sem];rfl,by simp only[go_sem]⟩
 rintro m fr st ⟨j,hj,hm,rfl,rfl⟩
 rcases aC j r.length with hlt|hge
 ·have hd:decide ((j:Int)<(r.length:Int))=true:=by simp;omega
  have w2:=bC j (by omega)
  have e3:=iP (l:=r) hlt
  have hb:=bT dt hlt
  generalize r.getD j dt=b at e3 hb
  obtain⟨b1,b2,b3⟩:=h7 b hb
  have gb:=gg b.cell (gB.1 b1).1
  have ob:=hov b.to (or' b hb)
  rw[b2]at gb
  simp only[go_sem,dM,hd,w2,e3,ac,ad]
  refine⟨⟨by omega,by omega⟩,bH (pr.ans b.cell _ _ b1 ⟨by simp,by simp⟩ ?_)⟩
  try simp only[go_sem]
  refine gO (.bool true) ⟨λ _=>⟨rfl,bH (gb _ _ _ ?_)⟩,?_⟩
  ·simp only[go_sem]
  try simp only[go_sem]
  refine gO (.bool true) ⟨λ _=>⟨rfl,bH (ob _ ⟨by simp,by simp⟩ _ ?_)⟩,?_⟩
  ·simp only[go_sem]
  simp only[go_sem,w2]
  exact Wk.keep [3,7,65,66,67] [0,1,2,3] (by decide) (aE _) hbd ⟨r.length - (j+1),by omega,j+1,by omega,rfl,by simp only[go_sem],by simp only[go_sem]⟩
 ·have hd:decide ((j:Int)<(r.length:Int))=false:=by simp;omega
  simp only[go_sem,hd,ac]
  exact aQ hbd h
theorem zL {G:Glob} (hG:G.g 0=some cB) (p:Prg) (t:Int) (s:Stp) (hs:StpIn p s) (h1:s.guard.allB (p.owB t)=true) (h2:∀a∈s.set,a.to.allB (p.owB t)=true) (a:Asg) (r:List Asg) (hset:s.set=a::r) (h3:p.shB a.cell=true) (h4:(p.cell a.cell).ghost=false)
  (h5:∀b∈r,(p.cell b.cell).ghost=true∧p.viB t b.cell=true) (Z:St) (R:A→St→Prop) (h:R (db true) Z):
  AC Tryz.prog G 169 [.d (bK p),di t,.d (eP s)] Z R:=by
 have hn:=hs.sm.set
 have hnc:=hs.ncel
 have own:=B7 p t
 have vis:=qK p t
 have pr:=xk p t (by omega) G (Z.length+2) (Z.length+3)
 have hv:=ta hG pr s (by omega) (hs.ovrG h1) (λ a ha=>hs.ovrA ha (h2 a ha))
 obtain⟨r1,q1⟩:=eJ.1 h3
 have g1:=qm p a.cell r1
 have s1:=nj p (by omega) a.cell r1
 rw[h4]at g1
 rw[dU q1]at s1
 have hl:s.set.length=r.length+1:=by rw[hset];rfl
 have n0:((s.set.length:Int)==0)=false:=by rw[hl];simp;omega
 have e1:List.getD (s.set.map dM) 0 default=dM a:=by rw[hset];rfl
 have hdr2:List.drop (Int.toNat 1) (List.take (r.length+1) (s.set.map dM))=r.map dM:=by
  rw[aK (by rw[ac,hl];exact aE _),hset];rfl
 unfold eP bK at*
 refine bD [3] a9 Tryz.func169 rfl Tryz.ntmps169 (by simp only[go_sem]) λ hbd=> ?_
 simp only[ae,aj,Nat.reduceAdd,Nat.reduceSub,af,ag,ah,ak]
 try simp only[go_sem]
 refine bc (λ fr st=>fr=%[.o,di t,.o,.ref Z.length 0,.o,.ref (Z.length+1) 0|D6 [.o,.o,.o,.o,.o]]∧st=Z++[bN p,gS s]) ?_ ?_
 ·try simp only[go_sem]
  refine bb (.tk 5 0<| .tk 2 6<| .alt 5 (.take 8<| .take 9<| .tk 2 10<| .done)<| .alt 8 (.take 5<| .take 9<| .tk 2 10<| .done)<| .stop) (by kernel_rfl) ?_
  simp only[go_sem,n0,ac]
  refine⟨?_,?_⟩
  ·refine exs ⟨λ _=> ?_,λ h=>Bool.noConfusion h⟩
   try simp only[go_sem]
   refine bH (own _ _ _ ?_)
   simp only[go_sem,n0,ac]
   refine gO (.bool true) ⟨λ _=>⟨?_,bH (hv _ ⟨by simp,by simp⟩ _ ?_)⟩,?_⟩
   ·rfl
   ·simp only[go_sem]
   simp only[go_sem,n0,ac]
   exact Wk.keep [1,3,5] [0,1] (by decide) (aE _) hbd ⟨by simp only[go_sem],by simp only[go_sem]⟩
  ·refine exs ⟨λ _=> ?_,λ h=>Bool.noConfusion h⟩
   try simp only[go_sem]
   refine bH (own _ _ _ ?_)
   simp only[go_sem,n0,ac]
   refine gO (.bool true) ⟨λ _=>⟨?_,bH (hv _ ⟨by simp,by simp⟩ _ ?_)⟩,?_⟩
   ·rfl
   ·simp only[go_sem]
   simp only[go_sem,n0,ac]
   exact Wk.keep [1,3,5] [0,1] (by decide) (aE _) hbd ⟨by simp only[go_sem],by simp only[go_sem]⟩
 rintro fr st ⟨rfl,rfl⟩
 simp only[go_sem,e1,dM,ac,bZ]
 refine⟨⟨by omega,by omega⟩,bH (s1 _ _ _ ?_)⟩
 try simp only[go_sem]
 refine gO (.bool false) ⟨λ _=>⟨rfl,bH (g1 _ _ _ ?_)⟩,?_⟩
 ·simp only[go_sem]
 try simp only[go_sem]
 refine bH (vis _ _ _ ?_)
 simp only[go_sem,hl,hdr2,ac]
 have pv:=oY p t (by omega) G (Z.length+2) (Z.length+5) (Z.length+3) (Z.length+4)
 have ps:=store1_p p t (by omega) G Z.length (Z.length+6) pv
 have ht:=qM ps r (by omega) h5
 refine⟨⟨by omega,by omega,by omega⟩,bH (ht _ ⟨⟨by simp,by simp⟩,⟨by simp,by simp⟩,by simp,by simp⟩ _ ?_)⟩
 try simp only[go_sem]
 exact aQ hbd h
@[go_sem,go_sem ↓] theorem rdIndex_aggA {P:Program} {k:Prop→A→Prop} (t:TypeId) (cs:List A) (ik:IntKind) (n:Int):gf P t k (.agg cs) (.d (.int ik n))=iy (mO P t) λ q=>gy P q.2.1 (n.toNat*q.2.2) (λ p a=>k (0≤n∧n<q.1∧p) a) (.agg cs):=by
 simp only[gf,iy]
 rcases mO P t with _|⟨_,_,_⟩<;> rfl
theorem kinds_p(Z:St)(G:Glob)(R:A→St→Prop)(h:R (.agg [.d .nilf,.fn (.func 167) [] [],.fn (.func 168) [] [],.fn (.func 169) [] [],.fn (.func 170) [] [],.fn (.func 171) [] [],.fn (.func 172) [] [],.fn (.func 173) [] []]) Z):AC Tryz.prog G 155 [] Z R:=by
 refine bg a9 Tryz.func155 rfl Tryz.ntmps155 (by simp only[go_sem]) λ hbd=> ?_
 simp only[ae,aj,Nat.reduceAdd,Nat.reduceSub,af,ag,ah,ak]
 try simp only[go_sem]
 refine dq hbd rfl ?_
 exact h
theorem A9{p:Prg}{t:Int}{s:Stp}(h:jR p t s):1≤s.kind∧s.kind≤7:=by
 rcases h with h|h|h|h|h|h|h<;> have:=h.1<;> omega
theorem step_p{G:Glob}(hG:G.g 0=some cB)(p:Prg)(t:Int)(x:Thr)(s:Stp)(hs:StpIn p s)(hk:StpOk p t x.points s)(hx:x.points≤8)(Z:St)(R:A→St→Prop)(h:R (di 0) Z):
  AC Tryz.prog G 136 [.d (bK p),di t,.d (c8 x),.d (eP s)] Z R:=by
 obtain⟨kr1,kr2⟩:=A9 hk.kind
 have hn:=hs.sm.set
 have hnc:=hs.ncel
 have hnm:=hs.nmod
 have d1:decide (s.kind<1)=false:=by simp;omega
 have d2:decide (s.kind > 7)=false:=by simp;omega
 have d2':decide (7<s.kind)=false:=by simp;omega
 have w1:IntKind.i64.wrap (x.points - 1)=x.points - 1:=cq _ (by have:=hk.src;omega) (by omega)
 have b1:=kK s.src (x.points - 1)
 have b2:=kK s.dst x.points
 have b3:=kK s.mod p.modules.length
 rw[uf hk.src]at b1
 rw[uf hk.dst]at b2
 rw[uf hk.mod]at b3
 have r1:(s.rel&&(s.kind !=3))=false:=by
  cases hr:s.rel with
  |false=>rfl
  |true=>simp [hk.rel hr]
 have r2:((s.target !=0)&& !((s.kind==6)||(s.kind==7)))=false:=by
  by_cases h0:s.target=0
  ·simp [h0]
  ·rcases hk.target h0 with q|q<;> simp [q]
 have n1:(s.guard.w !=1)=false:=by simp [hk.gw]
 obtain⟨_,hd,ho⟩:=Ex.valid_iff.1 hk.guard
 have hva:=ng s.guard (lF hs.sm.guard) (by have:=hs.sm.guard;omega) p.cells false
 rw[ed,hd,ho]at hva
 unfold eP bK eD at*
 refine bD [15,26] a9 Tryz.func136 rfl Tryz.ntmps136 (by simp only[go_sem]) λ hbd=> ?_
 simp only[ae,aj,Nat.reduceAdd,Nat.reduceSub,af,ag,ah,ak]
 simp only[go_sem,c8]
 refine bc (λ fr st=>fr=%[.o,di t,.o,.o,.ref Z.length 0,.o,.o,.ref (Z.length+2) 0|D7 (D7 [.o,.o,.o,.o,.o])]∧st=Z++[bN p,iw x,gS s]) ?_ ?_
 ·simp only[go_sem,d1,d2,d2',w1]
  refine bH (b1 _ _ _ ?_)
  try simp only[go_sem]
  refine bH (b2 _ _ _ ?_)
  simp only[go_sem,ac]
  refine bH (b3 _ _ _ ?_)
  simp only[go_sem,r1,r2,n1,ac]
  refine bH (hva _ _ hG _ ?_)
  simp only[go_sem,r1,r2,n1,ac]
  exact Wk.mask [1,4,7] ⟨rfl,rfl⟩
 rintro fr st ⟨rfl,rfl⟩
 try simp only[go_sem]
 refine bc (λ fr st=>fr=%[.o,di t,.o,.o,.ref Z.length 0,.o,.o,.ref (Z.length+2) 0|D7 (D7 [.o,.o,.o,.o,.o])]∧st=Z++[bN p,iw x,gS s]) ?_ ?_
 ·simp only[go_sem,ac]
  refine aS (λ m fr st=>∃j:Nat,j≤s.set.length∧m=s.set.length - j∧fr=%[.o,di t,.o,.o,.ref Z.length 0,.o,.o,.ref (Z.length+2) 0,.o,.o,.mapr (Z.length+3)|D7 %[.o,.o,.o,.o,.o,.o,.d (.sl 5 (s.set.map dM)),dn s.set.length,dn j|D6 (D5 (D4 [.o]))]]∧st=Z++[bN p,iw x,gS s,some (.map (tt ((s.set.take j).map Asg.cell)))]) s.set.length _ (Wk.mask [1,4,7,10,81,82,83] ⟨0,by omega,by omega,rfl,rfl⟩) ?_
  rintro m fr st ⟨j,hj,hm,rfl,rfl⟩
  rcases aC j s.set.length with hlt|hge
  ·have hd:decide ((j:Int)<(s.set.length:Int))=true:=by simp;omega
   have w2:=bC j (by omega)
   have e1:=iP (l:=s.set) hlt
   have ha:=hk.set _ (bT dt hlt)
   have hsa:=hs.sm.to _ (bT dt hlt)
   have hfr:(s.set.getD j dt).cell∉(s.set.take j).map Asg.cell:=nB dt hlt hk.nodup
   have hsn:(s.set.take (j+1)).map Asg.cell=(s.set.take j).map Asg.cell++[(s.set.getD j dt).cell]:=by rw[bG dt hlt,aJ];rfl
   generalize s.set.getD j dt=a at e1 ha hsa hfr hsn
   obtain⟨a1,a2,a3⟩:=ha
   have ar:0≤a.cell∧a.cell<p.cells.length:=by simpa [kj]using a1
   have hbl:=mm p.cells fb ar
   have e2:=fZ p ar
   have n2:(a.to.w !=(p.cell a.cell).w)=false:=by simp [a2]
   obtain⟨_,had,hao⟩:=Ex.valid_iff.1 a3
   have hvb:=ng a.to (lF hsa) (by omega) p.cells false
   rw[ed,had,hao]at hvb
   unfold eD at hvb
   simp only[go_sem,aY,dM,hd,w2,e1,pP,uc _ _ hfr,ac,ad]
   refine⟨⟨by omega,by omega⟩,?_⟩
   refine gO (.bool true) ⟨λ _=>⟨rfl,bH (hbl _ _ _ ?_)⟩,?_⟩
   ·simp only[go_sem]
   simp only[go_sem,aY,pP,nW,if_neg hfr,lf,eF,←hsn,ac]
   refine bb (.tk 21 0<| .done) (by kernel_rfl) ?_
   simp only[go_sem,aY,e2,fb,n2,ac]
   refine⟨ar,gO (.bool true) ⟨λ _=>⟨?_,bH (hvb _ _ hG _ ?_)⟩,?_⟩⟩
   ·rfl
   ·simp only[go_sem]
   simp only[go_sem,aY,e2,fb,n2,w2,ac]
   exact Wk.keep [1,4,7,10,81,82,83] [0,1,2,3] (by decide) (aE _) hbd ⟨s.set.length - (j+1),by omega,j+1,by omega,rfl,by simp only[go_sem],by simp only[go_sem,yI]⟩
  ·have hd:decide ((j:Int)<(s.set.length:Int))=false:=by simp;omega
   simp only[go_sem,hd,ac]
   exact Wk.keep [1,4,7] [0,1,2] (by decide) (aE _) hbd ⟨by simp only[go_sem],by simp only[go_sem]⟩
 rintro fr st ⟨rfl,rfl⟩
 try simp only[go_sem]
 refine bb (.take 6<| .pure 0<| .tk 5 1<| .tk 3 7<| .done) (by kernel_rfl) ?_
 try simp only[go_sem]
 refine mN (.agg [.d .nilf,.fn (.func 167) [] [],.fn (.func 168) [] [],.fn (.func 169) [] [],.fn (.func 170) [] [],.fn (.func 171) [] [],.fn (.func 172) [] [],.fn (.func 173) [] []]) ⟨λ Z'=>bH (kinds_p Z' G _ ⟨rfl,rfl⟩),?_⟩
 try simp only[go_sem]
 rcases hk.kind with q|q|q|q|q|q|q
 ·have f:=zN hG p t s hs q.2.1 q.2.2
  have e9:s.kind.toNat=1:=by omega
  unfold eP bK at f
  simp only[go_sem,e9,eu,eB,dR,dV,fC,br]
  refine⟨⟨by omega,by omega⟩,bH (f _ _ ?_)⟩
  try simp only[go_sem]
  exact aQ hbd h
 ·have f:=let ⟨_,q1,a,r,q2,q3,q4,q5,q6,q7,q8⟩:=q;Bi hG p t s hs q1 a r q2 q3 q4 q5 q6 q7 q8
  have e9:s.kind.toNat=2:=by omega
  unfold eP bK at f
  simp only[go_sem,e9,eu,eB,dR,dV,fC,br]
  refine⟨⟨by omega,by omega⟩,bH (f _ _ ?_)⟩
  try simp only[go_sem]
  exact aQ hbd h
 ·have f:=let ⟨_,q1,q2,a,r,q3,q4,q5,q6⟩:=q;zL hG p t s hs q1 q2 a r q3 q4 q5 q6
  have e9:s.kind.toNat=3:=by omega
  unfold eP bK at f
  simp only[go_sem,e9,eu,eB,dR,dV,fC,br]
  refine⟨⟨by omega,by omega⟩,bH (f _ _ ?_)⟩
  try simp only[go_sem]
  exact aQ hbd h
 ·have f:=xD hG p t s hs q.2.1 q.2.2
  have e9:s.kind.toNat=4:=by omega
  unfold eP bK at f
  simp only[go_sem,e9,eu,eB,dR,dV,fC,br]
  refine⟨⟨by omega,by omega⟩,bH (f _ _ ?_)⟩
  try simp only[go_sem]
  exact aQ hbd h
 ·have f:=zO (G:=G) p t s hs q.2.1 q.2.2
  have e9:s.kind.toNat=5:=by omega
  unfold eP bK at f
  simp only[go_sem,e9,eu,eB,dR,dV,fC,br]
  refine⟨⟨by omega,by omega⟩,bH (f _ _ ?_)⟩
  try simp only[go_sem]
  exact aQ hbd h
 ·have f:=let ⟨_,q1,q2,q3,q4,q5⟩:=q;zM (G:=G) p t s hs q1 q2 q3 q4 q5
  have e9:s.kind.toNat=6:=by omega
  unfold eP bK at f
  simp only[go_sem,e9,eu,eB,dR,dV,fC,br]
  refine⟨⟨by omega,by omega⟩,bH (f _ _ ?_)⟩
  try simp only[go_sem]
  exact aQ hbd h
 ·have f:=let ⟨_,q1,q2,q3,q4⟩:=q;uk (G:=G) p t s hs q1 q2 q3 q4
  have e9:s.kind.toNat=7:=by omega
  unfold eP bK at f
  simp only[go_sem,e9,eu,eB,dR,dV,fC,br]
  refine⟨⟨by omega,by omega⟩,bH (f _ _ ?_)⟩
  try simp only[go_sem]
  exact aQ hbd h
abbrev lopOb(l:Lop):Option Ob:=some (.cells [.d (iD l.head),.d (bu l.body),.d (iD l.var.op),.d (iD l.var.w),.d (iD l.var.n),.d (.sl 4 (l.var.kids.map Ex.d))])
theorem mods1_p(p:Prg)(G:Glob)(i:Nat):Pred G 134 [] [.ref i 0] (λ m=>0≤m∧m<p.modules.length) λ st=>st[i]? =some (bN p):=by
 refine⟨?_,λ st l h=>jf h,λ st h=> ?_⟩
 ·intro c st R hc h1 h
  have hb:=mm p.modules iH hc
  show AC Tryz.prog G 134 [di c,.ref i 0] st R
  refine bg a9 Tryz.func134 rfl Tryz.ntmps134 (by simp only[go_sem]) λ hbd=> ?_
  simp only[ae,aj,Nat.reduceAdd,Nat.reduceSub,af,ag,ah,ak]
  simp only[go_sem,aO h1,aX h1]
  refine bH (hb _ _ _ ?_)
  try simp only[go_sem]
  exact cw h
 ·have:=aL h
  simp only[jo,A.bd]
  simp;omega
theorem body1_p(x:Thr)(l:Lop)(G:Glob)(i j:Nat):Pred G 137 [] [.ref i 0,.ref j 0] (λ c=>0≤c∧c<x.points∧c≠l.head) λ st=>st[i]? =some (iw x)∧st[j]? =some (lopOb l):=by
 refine⟨?_,λ st l h=>⟨jf h.1,jf h.2⟩,λ st h=> ?_⟩
 ·rintro c st R ⟨hc1,hc2,hc3⟩ ⟨h1,h2⟩ h
  have hb:=kK c x.points
  rw[uf ⟨hc1,hc2⟩]at hb
  have e1:(c !=l.head)=true:=by simp [hc3]
  show AC Tryz.prog G 137 [di c,.ref i 0,.ref j 0] st R
  refine bg a9 Tryz.func137 rfl Tryz.ntmps137 (by simp only[go_sem]) λ hbd=> ?_
  simp only[ae,aj,Nat.reduceAdd,Nat.reduceSub,af,ag,ah,ak]
  simp only[go_sem,aO h1,aX h1,aO h2,aX h2]
  refine bH (hb _ _ _ ?_)
  simp only[go_sem,aO h1,aX h1,aO h2,aX h2,e1]
  exact cw h
 ·have:=aL h.1
  have:=aL h.2
  simp only[jo,A.bd]
  simp;omega
theorem thread_p {G:Glob} (hG:G.g 0=some cB) (p:Prg) (hp:p.Small) (t:Nat) (x:Thr) (hx:ThrOk p t x) (hsm:ThrSm x) (hnm:x.name.length≤reachBytes) (L:List (List UInt8)) (hfr:x.name∉L) (im:Nat) (Z:St) (hσ:Z[im]? =some (some (.map (lj L)))) (R:A→St→Prop)
  (h:R (.tup [di 0,di (-1)]) (Z.set im (some (.map (lj (L++[x.name])))))):AC Tryz.prog G 98 [.d (bK p),dn t,.d (c8 x),.mapr im] Z R:=by
 have hlt:=(aA.1 hσ).1
 obtain⟨τ,hτ⟩:∃τ,Z.set im (some (.map (lj (L++[x.name]))))=τ:=⟨_,rfl⟩
 have hlen:τ.length=Z.length:=by rw[←hτ,aH]
 rw[hτ]at h
 have hnc:=hp.ncel
 have l1:=sK x.name hnm hx.name
 have tk:=wW L x.name hfr im
 have hbd':Bd Z.length Z→Bd τ.length τ:=λ hbd=>by
  rw[←hτ,aH]
  exact hbd.set _ λ o ho=>by
   injection ho with ho;subst ho
   simp [Ob.bd,lj,A.bd]
 have q1:decide (x.points<1)=false:=by have:=hx.points;simp;omega
 have q2:((x.asserts.length:Int)!=x.points)=false:=by simp [hx.nas]
 have q3:((x.mods.length:Int)!=x.points)=false:=by simp [hx.nmo]
 have wm:=nc (mods1_p p G τ.length) x.mods (by have:=hsm.nmo;omega) hx.mods
 have vis:=qK p t
 unfold bK at*
 refine iN [11,12,18,25] a9 Tryz.func98 rfl Tryz.ntmps98 (by simp only[go_sem]) λ hbd=> ?_
 simp only[ae,aj,Nat.reduceAdd,Nat.reduceSub,af,ag,ah,ak]
 simp only[go_sem,c8]
 refine bc (λ fr st=>fr=%[.o,dn t,.o,.o,.ref τ.length 0,.o,.ref (τ.length+1) 0|D7 (D6 (D5 [.o,.o,.o,.o]))]∧st=τ++[bN p,iw x]) ?_ ?_
 ·try simp only[go_sem]
  refine bH (l1 _ _ _ ?_)
  try simp only[go_sem]
  refine bH (tk _ (jf hσ) _ _ ?_)
  rw[dN _ _ hlt,hτ,←hlen]
  simp only[go_sem,q1,q2,q3,ac,bu]
  refine bH (wm _ (by simp) _ ?_)
  try simp only[go_sem]
  exact Wk.mask [1,4,6] ⟨rfl,rfl⟩
 rintro fr st ⟨rfl,rfl⟩
 have hbd:=hbd' hbd
 rw[←hlen]
 clear hσ hlt tk l1 hbd'
 refine bc (λ fr st=>fr=%[.o,dn t,.o,.o,.ref τ.length 0,.o,.ref (τ.length+1) 0,.o,.o,.o,.fn (.func 154) [] [.ref (τ.length+2) 0,.ref (τ.length+5) 0]|D7 (D6 (D5 []))]∧st=τ++[bN p,iw x,bN p,bN p,some (.cells [dn t]),some (.cells [.fn (.func 166) [] [.ref (τ.length+3) 0,.ref (τ.length+4) 0]])]) ?_ ?_
 ·try simp only[go_sem]
  refine bH (vis _ _ _ ?_)
  try simp only[go_sem]
  exact Wk.mask [1,4,6,10] ⟨rfl,rfl⟩
 rintro fr st ⟨rfl,rfl⟩
 have pv:=oY p t (by omega) G (τ.length+2) (τ.length+5) (τ.length+3) (τ.length+4)
 refine bc (λ fr st=>fr=%[.o,dn t,.o,.o,.ref τ.length 0,.o,.ref (τ.length+1) 0,.o,.o,.o,.fn (.func 154) [] [.ref (τ.length+2) 0,.ref (τ.length+5) 0]|D7 (D6 (D5 []))]∧st=τ++[bN p,iw x,bN p,bN p,some (.cells [dn t]),some (.cells [.fn (.func 166) [] [.ref (τ.length+3) 0,.ref (τ.length+4) 0]])]) ?_ ?_
 ·have hn:=hsm.nas
  simp only[go_sem,ac]
  refine aS (λ m fr st=>∃j:Nat,j≤x.asserts.length∧m=x.asserts.length - j∧fr=%[.o,dn t,.o,.o,.ref τ.length 0,.o,.ref (τ.length+1) 0,.o,.o,.o,.fn (.func 154) [] [.ref (τ.length+2) 0,.ref (τ.length+5) 0]|D6 (D4 %[.o,.o,.o,.o,.d (.sl 4 (x.asserts.map Ex.d)),dn x.asserts.length,dn j|D7 [.o]])]∧st=τ++[bN p,iw x,bN p,bN p,some (.cells [dn t]),some (.cells [.fn (.func 166) [] [.ref (τ.length+3) 0,.ref (τ.length+4) 0]])]) x.asserts.length _ (Wk.mask [1,4,6,10,55,56,57] ⟨0,by omega,by omega,rfl,rfl⟩) ?_
  rintro m fr st ⟨j,hj,hm,rfl,rfl⟩
  rcases aC j x.asserts.length with hlt|hge
  ·have hd:decide ((j:Int)<(x.asserts.length:Int))=true:=by simp;omega
   have w2:=bC j (by omega)
   have e1:=Gy (l:=x.asserts) hlt
   have ha:=hx.asserts _ (bT zQ hlt)
   have hs:=hsm.asserts _ (bT zQ hlt)
   generalize x.asserts.getD j zQ=e at e1 ha hs
   obtain⟨a1,a2,a3,a4⟩:=vt ha
   have hb:=bit_p hG pv p e (lF hs) (by omega) false a1 a2 a3 a4
   unfold bK eD at hb
   unfold eD at e1
   simp only[go_sem,hd,w2,e1,ac,ad]
   refine⟨⟨by omega,by omega⟩,bH (hb _ ⟨⟨by simp,by simp⟩,by simp,by simp⟩ _ ?_)⟩
   simp only[go_sem,w2]
   exact Wk.keep [1,4,6,10,55,56,57] [0,1,2,3,4,5] (by decide) (aE _) hbd ⟨x.asserts.length - (j+1),by omega,j+1,by omega,rfl,by simp only[go_sem],by simp only[go_sem]⟩
  ·have hd:decide ((j:Int)<(x.asserts.length:Int))=false:=by simp;omega
   simp only[go_sem,hd,ac]
   exact Wk.mask [1,4,6,10] ⟨rfl,rfl⟩
 rintro fr st ⟨rfl,rfl⟩
 refine bc (λ fr st=>fr=%[.o,dn t,.o,.o,.ref τ.length 0,.o,.ref (τ.length+1) 0,.o,.o,.o,.fn (.func 154) [] [.ref (τ.length+2) 0,.ref (τ.length+5) 0]|D7 (D6 (D5 []))]∧st=τ++[bN p,iw x,bN p,bN p,some (.cells [dn t]),some (.cells [.fn (.func 166) [] [.ref (τ.length+3) 0,.ref (τ.length+4) 0]])]) ?_ ?_
 ·have hn:=hsm.nst
  simp only[go_sem,ac]
  refine aS (λ m fr st=>∃j:Nat,j≤x.steps.length∧m=x.steps.length - j∧fr=%[.o,dn t,.o,.o,.ref τ.length 0,.o,.ref (τ.length+1) 0,.o,.o,.o,.fn (.func 154) [] [.ref (τ.length+2) 0,.ref (τ.length+5) 0]|D6 (D5 (D4 %[.o,.d (.sl 11 (x.steps.map eP)),dn x.steps.length,dn j|D6 (D5 [.o,.o,.o,.o])]))]∧st=τ++[bN p,iw x,bN p,bN p,some (.cells [dn t]),some (.cells [.fn (.func 166) [] [.ref (τ.length+3) 0,.ref (τ.length+4) 0]])]) x.steps.length _ (Wk.mask [1,4,6,10,68,69,70] ⟨0,by omega,by omega,rfl,rfl⟩) ?_
  rintro m fr st ⟨j,hj,hm,rfl,rfl⟩
  rcases aC j x.steps.length with hlt|hge
  ·have hd:decide ((j:Int)<(x.steps.length:Int))=true:=by simp;omega
   have w2:=bC j (by omega)
   have e1:=mw (l:=x.steps) hlt
   have ha:=hx.steps _ (bT jY hlt)
   have hs:=hsm.steps _ (bT jY hlt)
   generalize x.steps.getD j jY=s at e1 ha hs
   have hb:=step_p hG p t x s ⟨hp.ncel,hp.nmod,hp.nthr,hs,ha.guard,ha.set⟩ ha hsm.points
   unfold bK eP at hb
   simp only[c8]at hb
   simp only[go_sem,eP,hd,w2,e1,ac,ad]
   refine⟨⟨by omega,by omega⟩,bH (hb _ _ ?_)⟩
   have z0:((0:Int)!=0)=false:=rfl
   simp only[go_sem,z0,w2]
   exact Wk.keep [1,4,6,10,68,69,70] [0,1,2,3,4,5] (by decide) (aE _) hbd ⟨x.steps.length - (j+1),by omega,j+1,by omega,rfl,by simp only[go_sem],by simp only[go_sem]⟩
  ·have hd:decide ((j:Int)<(x.steps.length:Int))=false:=by simp;omega
   simp only[go_sem,hd,ac]
   exact Wk.mask [1,4,6,10] ⟨rfl,rfl⟩
 rintro fr st ⟨rfl,rfl⟩
 have hn:=hsm.nlo
 simp only[go_sem,ac]
 refine aS (λ m fr st=>∃j:Nat,j≤x.loops.length∧m=x.loops.length - j∧fr=%[.o,dn t,.o,.o,.ref τ.length 0,.o,.ref (τ.length+1) 0,.o,.o,.o,.fn (.func 154) [] [.ref (τ.length+2) 0,.ref (τ.length+5) 0]|D7 (D4 %[.o,.o,.o,.d (.sl 6 (x.loops.map pt)),dn x.loops.length,dn j|D6 [.o,.o]])]∧st=τ++[bN p,iw x,bN p,bN p,some (.cells [dn t]),some (.cells [.fn (.func 166) [] [.ref (τ.length+3) 0,.ref (τ.length+4) 0]])]) x.loops.length _ (Wk.mask [1,4,6,10,86,87,88] ⟨0,by omega,by omega,rfl,rfl⟩) ?_
 rintro m fr st ⟨j,hj,hm,rfl,rfl⟩
 rcases aC j x.loops.length with hlt|hge
 ·have hd:decide ((j:Int)<(x.loops.length:Int))=true:=by simp;omega
  have w2:=bC j (by omega)
  have e1:=A5 (l:=x.loops) hlt
  have ha:=hx.loops _ (bT vg hlt)
  have hs:=hsm.loops _ (bT vg hlt)
  generalize x.loops.getD j vg=l at e1 ha hs
  obtain⟨a1,a2,a3,a4,a5⟩:=ha
  obtain⟨s1,s2⟩:=hs
  have b1:=kK l.head x.points
  rw[uf a1]at b1
  have ri:=yF l.body (by simp only[reachBytes];omega) a2
  have wi:=nc (body1_p x l G (τ.length+1) (τ.length+6)) l.body (by omega) a3
  obtain⟨_,hde,hov⟩:=Ex.valid_iff.1 a4
  have hva:=ng l.var (lF s2) (by omega) p.cells false
  rw[ed,hde,hov]at hva
  have hvo:=sH hG pv (AZ s2 a4 a5)
  unfold eD at hva hvo
  unfold bu at ri wi
  simp only[go_sem,pt,bu,hd,w2,e1,ac,ad]
  refine⟨⟨by omega,by omega⟩,bH (b1 _ _ _ ?_)⟩
  try simp only[go_sem]
  refine bH (ri _ _ _ ?_)
  try simp only[go_sem]
  refine bH (wi _ ⟨by simp,by simp [bu]⟩ _ ?_)
  try simp only[go_sem]
  refine bH (hva _ _ hG _ ?_)
  try simp only[go_sem]
  refine bH (hvo _ ⟨⟨by simp,by simp⟩,by simp,by simp⟩ _ ?_)
  simp only[go_sem,w2]
  exact Wk.keep [1,4,6,10,86,87,88] [0,1,2,3,4,5] (by decide) (aE _) hbd ⟨x.loops.length - (j+1),by omega,j+1,by omega,rfl,by simp only[go_sem],by simp only[go_sem]⟩
 ·have hd:decide ((j:Int)<(x.loops.length:Int))=false:=by simp;omega
  simp only[go_sem,hd,ac]
  exact dq hbd rfl h
theorem sm40(e:Ex)(hok:e.Ok)(Z:St)(G:Glob)(R:A→St→Prop)(h:R (db (decide (e.nodes≤40))) Z):AC Tryz.prog G 28 [.d (eD e),di 40] Z R:=by
 have:=small_ac e hok 40 (by omega) Z G R h
 rw[ed]at this
 exact this
theorem CD(x:Thr)(hz:ThrSz x)(Z:St)(G:Glob)(R:A→St→Prop)(h:∀b:Bool,(b=true→ThrSm x)→R (db b) Z):AC Tryz.prog G 29 [.d (c8 x)] Z R:=by
 have sm:=sm40
 unfold eD at sm
 unfold c8
 refine bD [3,9,14,18,20] a9 Tryz.func29 rfl Tryz.ntmps29 (by simp only[go_sem]) λ hbd=> ?_
 simp only[ae,aj,Nat.reduceAdd,Nat.reduceSub,af,ag,ah,ak]
 try simp only[go_sem]
 refine bc (λ fr st=>(x.points≤8∧x.asserts.length≤8∧x.mods.length≤8∧x.steps.length≤10∧x.loops.length≤3)∧fr=%[.o,.ref Z.length 0|D7 (D6 (D5 [.o]))]∧st=Z++[iw x]) ?_ ?_
 ·simp only[bu,go_sem,ac]
  refine⟨λ q=>aQ hbd (h false λ q=>Bool.noConfusion q),λ q=>Wk.mask [1] ⟨?_,rfl,rfl⟩⟩
  simp only[bA,ay]at q
  omega
 rintro fr st ⟨⟨l5,l1,l2,l3,l4⟩,rfl,rfl⟩
 refine bc (λ fr st=>(∀e∈x.asserts,e.nodes≤40)∧fr=%[.o,.ref Z.length 0|D7 (D6 (D5 [.o]))]∧st=Z++[iw x]) ?_ ?_
 ·simp only[go_sem,ac]
  refine aS (λ m fr st=>∃k:Nat,k≤x.asserts.length∧m=x.asserts.length - k∧(∀e∈x.asserts.take k,e.nodes≤40)∧fr=%[.o,.ref Z.length 0,.o,dn k|D7 (D6 (D4 [.o,.o,.o,.o,.o,.o,.o]))]∧st=Z++[iw x]) x.asserts.length _ (Wk.mask [1,3] ⟨0,by omega,by omega,by simp,rfl,rfl⟩) ?_
  rintro m fr st ⟨k,hk,hm,hall,rfl,rfl⟩
  rcases aC k x.asserts.length with hkl|hkg
  ·have hd2:decide ((k:Int)<(x.asserts.length:Int))=true:=by simp only[av];omega
   have w3:=bC k (by omega)
   obtain⟨c,hcc⟩:∃c,x.asserts.getD k zQ=c:=⟨_,rfl⟩
   have hcm:c∈x.asserts:=by rw[←hcc];exact bT zQ hkl
   have g2:List.getD (x.asserts.map Ex.d) k default=eD c:=by rw[Gy hkl,hcc]
   unfold eD at g2
   simp only[go_sem,hd2,g2,ac,ad]
   refine⟨⟨by omega,by omega⟩,bH (sm c (hz.asserts c hcm) _ _ _ ?_)⟩
   simp only[go_sem,w3,ac,ad]
   exact⟨λ q=>aQ hbd (h false λ q=>Bool.noConfusion q),λ q=>Wk.mask [1,3] ⟨x.asserts.length - (k+1),by omega,k+1,by omega,rfl,fm zQ hkl hall (by rw[hcc];simpa using q),rfl,rfl⟩⟩
  ·have hd2:decide ((k:Int)<(x.asserts.length:Int))=false:=by simp only[ay];omega
   simp only[go_sem,hd2,ac,ad]
   obtain rfl:k=x.asserts.length:=by omega
   rw[bB]at hall
   exact Wk.mask [1] ⟨hall,rfl,rfl⟩
 rintro fr st ⟨hass,rfl,rfl⟩
 refine bc (λ fr st=>(∀l∈x.loops,l.body.length≤8∧l.var.nodes≤40)∧fr=%[.o,.ref Z.length 0|D7 (D6 (D5 [.o]))]∧st=Z++[iw x]) ?_ ?_
 ·simp only[go_sem,ac]
  refine aS (λ m fr st=>∃k:Nat,k≤x.loops.length∧m=x.loops.length - k∧(∀l∈x.loops.take k,l.body.length≤8∧l.var.nodes≤40)∧fr=%[.o,.ref Z.length 0,.o,.o,.o,dn k|D7 (D6 (D4 [.o,.o,.o,.o,.o]))]∧st=Z++[iw x]) x.loops.length _ (Wk.mask [1,5] ⟨0,by omega,by omega,by simp,rfl,rfl⟩) ?_
  rintro m fr st ⟨k,hk,hm,hall,rfl,rfl⟩
  rcases aC k x.loops.length with hkl|hkg
  ·have hd2:decide ((k:Int)<(x.loops.length:Int))=true:=by simp only[av];omega
   have w3:=bC k (by omega)
   obtain⟨l,hcc⟩:∃c,x.loops.getD k vg=c:=⟨_,rfl⟩
   have hcm:l∈x.loops:=by rw[←hcc];exact bT vg hkl
   have g2:List.getD (x.loops.map pt) k default=pt l:=by rw[A5 hkl,hcc]
   simp only[go_sem,hd2,g2,pt,bu,ac,ad]
   refine⟨⟨by omega,by omega⟩,λ q=>⟨q,by omega,by omega⟩,gO (.bool (decide (l.var.nodes≤40))) ⟨λ hg=> ?_,?_⟩⟩
   ·simp only[go_sem]
    exact⟨hg,bH (sm l.var (hz.loops l hcm).2 _ _ _ ⟨rfl,rfl⟩)⟩
   simp only[go_sem,w3,ac,ad]
   refine⟨λ q=>aQ hbd (h false λ q=>Bool.noConfusion q),λ q=>Wk.mask [1,5] ⟨x.loops.length - (k+1),by omega,k+1,by omega,rfl,fm vg hkl hall (by rw[hcc];simp only[bA,cF,ay,av]at q;omega),rfl,rfl⟩⟩
  ·have hd2:decide ((k:Int)<(x.loops.length:Int))=false:=by simp only[ay];omega
   simp only[go_sem,hd2,ac,ad]
   obtain rfl:k=x.loops.length:=by omega
   rw[bB]at hall
   exact Wk.mask [1] ⟨hall,rfl,rfl⟩
 rintro fr st ⟨hlop,rfl,rfl⟩
 simp only[go_sem,ac]
 refine aS (λ m fr st=>∃k:Nat,k≤x.steps.length∧m=x.steps.length - k∧(∀s∈x.steps.take k,StpSm s)∧fr=%[.o,.ref Z.length 0,.o,.o,.o,.o,dn k|D7 (D6 (D4 [.o,.o,.o,.o]))]∧st=Z++[iw x]) x.steps.length _ (Wk.mask [1,6] ⟨0,by omega,by omega,by simp,rfl,rfl⟩) ?_
 rintro m fr st ⟨k,hk,hm,hall,rfl,rfl⟩
 rcases aC k x.steps.length with hkl|hkg
 ·have hd2:decide ((k:Int)<(x.steps.length:Int))=true:=by simp only[av];omega
  have w3:=bC k (by omega)
  obtain⟨s,hcc⟩:∃c,x.steps.getD k jY=c:=⟨_,rfl⟩
  have hcm:s∈x.steps:=by rw[←hcc];exact bT jY hkl
  have g2:List.getD (x.steps.map eP) k default=eP s:=by rw[mw hkl,hcc]
  have hsz:=hz.steps s hcm
  simp only[go_sem,hd2,ac]
  refine bc (λ fr st=>fr=%[.o,.ref Z.length 0,.o,.o,.o,.o,dn k,.ref (Z.length+1) 0|D7 (D6 (D4 [.o,.o,.o]))]∧st=Z++[iw x,gS s]) ?_ ?_
  ·simp only[go_sem,g2,eP,ac,ad]
   exact⟨⟨by omega,by omega⟩,Wk.mask [1,6,7] ⟨rfl,rfl⟩⟩
  rintro fr st ⟨rfl,rfl⟩
  refine bc (λ fr st=>(s.set.length≤4∧s.guard.nodes≤40)∧fr=%[.o,.ref Z.length 0,.o,.o,.o,.o,dn k,.ref (Z.length+1) 0|D7 (D6 (D4 [.o,.o,.o]))]∧st=Z++[iw x,gS s]) ?_ ?_
  ·simp only[go_sem,ac,ad]
   refine gO (.bool (decide (s.guard.nodes≤40))) ⟨λ hg=> ?_,?_⟩
   ·simp only[go_sem]
    exact⟨hg,bH (sm s.guard hsz.guard _ _ _ ⟨rfl,rfl⟩)⟩
   simp only[go_sem,ac,ad]
   refine⟨λ q=>aQ hbd (h false λ q=>Bool.noConfusion q),λ q=>Wk.mask [1,6,7] ⟨?_,rfl,rfl⟩⟩
   simp only[bA,cF,ay,av]at q
   omega
  rintro fr st ⟨hsg,rfl,rfl⟩
  simp only[go_sem,ac,ad]
  refine aS (λ m fr st=>∃i:Nat,i≤s.set.length∧m=s.set.length - i∧(∀a∈s.set.take i,a.to.nodes≤40)∧fr=%[.o,.ref Z.length 0,.o,.o,.o,.o,dn k,.ref (Z.length+1) 0,dn i|D7 (D6 (D4 [.o,.o]))]∧st=Z++[iw x,gS s]) s.set.length _ (Wk.mask [1,6,7,8] ⟨0,by omega,by omega,by simp,rfl,rfl⟩) ?_
  rintro m2 fr st ⟨i,hi,hm2,hal2,rfl,rfl⟩
  rcases aC i s.set.length with hil|hig
  ·have hd3:decide ((i:Int)<(s.set.length:Int))=true:=by simp only[av];omega
   have w4:=bC i (by omega)
   obtain⟨a,hac⟩:∃c,s.set.getD i dt=c:=⟨_,rfl⟩
   have ham:a∈s.set:=by rw[←hac];exact bT dt hil
   have g3:List.getD (s.set.map dM) i default=dM a:=by rw[iP hil,hac]
   simp only[go_sem,hd3,g3,dM,ac,ad]
   refine⟨⟨by omega,by omega⟩,bH (sm a.to (hsz.set a ham) _ _ _ ?_)⟩
   simp only[go_sem,w4,ac,ad]
   exact⟨λ q=>aQ hbd (h false λ q=>Bool.noConfusion q),λ q=>Wk.mask [1,6,7,8] ⟨s.set.length - (i+1),by omega,i+1,by omega,rfl,fm dt hil hal2 (by rw[hac];simpa using q),rfl,rfl⟩⟩
  ·have hd3:decide ((i:Int)<(s.set.length:Int))=false:=by simp only[ay];omega
   simp only[go_sem,hd3,w3,ac,ad]
   obtain rfl:i=s.set.length:=by omega
   rw[bB]at hal2
   exact Wk.keep [1,6] [0] (by decide) (aE _) hbd ⟨x.steps.length - (k+1),by omega,k+1,by omega,rfl,fm jY hkl hall (by rw[hcc];exact⟨hsg.2,hsg.1,hal2⟩),by simp only[go_sem],by simp only[go_sem]⟩
 ·have hd2:decide ((k:Int)<(x.steps.length:Int))=false:=by simp only[ay];omega
  simp only[go_sem,hd2,ac,ad]
  obtain rfl:k=x.steps.length:=by omega
  rw[bB]at hall
  exact aQ hbd (h true λ _=>⟨l5,l1,l2,l3,l4,hass,hlop,hall⟩)
theorem FQ(p:Prg)(hz:PrgSz p)(Z:St)(G:Glob)(R:A→St→Prop)(h:∀b:Bool,(b=true→p.Small∧p.Ok)→R (db b) Z):AC Tryz.prog G 7 [.d (bK p)] Z R:=by
 have sm:=sm40
 unfold eD at sm
 have nz:NamesSz p:=⟨hz.names,λ m hm=>⟨(hz.modules m hm).1,(hz.modules m hm).2.1⟩,λ x hx=>(hz.threads x hx).1⟩
 have va:=λ hs=>wU p hs nz
 unfold bK at*
 refine bD [3,9,15,21,7] a9 Tryz.func7 rfl Tryz.ntmps7 (by simp only[go_sem]) λ hbd=> ?_
 simp only[ae,aj,Nat.reduceAdd,Nat.reduceSub,af,ag,ah,ak]
 try simp only[go_sem]
 refine bc (λ fr st=>(p.cells.length≤12∧p.modules.length≤3∧p.locks.length≤2∧p.threads.length≤3)∧fr=%[.o,.ref Z.length 0|D7 (D6 [.o,.o,.o])]∧st=Z++[bN p]) ?_ ?_
 ·simp only[aY,go_sem,ac]
  refine⟨λ q=>aQ hbd (h false λ q=>Bool.noConfusion q),λ q=>Wk.mask [1] ⟨?_,rfl,rfl⟩⟩
  simp only[bA,ay]at q
  omega
 rintro fr st ⟨⟨l1,l2,l3,l4⟩,rfl,rfl⟩
 refine bc (λ fr st=>(∀m∈p.modules,m.frame.length≤12∧m.rely.nodes≤40∧m.guar.nodes≤40)∧fr=%[.o,.ref Z.length 0|D7 (D6 [.o,.o,.o])]∧st=Z++[bN p]) ?_ ?_
 ·simp only[go_sem,ac]
  refine aS (λ m fr st=>∃k:Nat,k≤p.modules.length∧m=p.modules.length - k∧(∀m∈p.modules.take k,m.frame.length≤12∧m.rely.nodes≤40∧m.guar.nodes≤40)∧fr=%[.o,.ref Z.length 0,.o,dn k|D7 (D6 [.o])]∧st=Z++[bN p]) p.modules.length _ (Wk.mask [1,3] ⟨0,by omega,by omega,by simp,rfl,rfl⟩) ?_
  rintro m fr st ⟨k,hk,hm,hall,rfl,rfl⟩
  rcases aC k p.modules.length with hkl|hkg
  ·have hd2:decide ((k:Int)<(p.modules.length:Int))=true:=by simp only[av];omega
   have w3:=bC k (by omega)
   obtain⟨c,hcc⟩:∃c,p.modules.getD k mj=c:=⟨_,rfl⟩
   have hcm:c∈p.modules:=by rw[←hcc];exact bT mj hkl
   obtain⟨_,_,ok1,ok2,_⟩:=hz.modules c hcm
   have g2:List.getD (p.modules.map iH) k default=iH c:=by rw[xM hkl,hcc]
   simp only[go_sem,hd2,ac,ad]
   refine bc (λ fr st=>fr=%[.o,.ref Z.length 0,.o,dn k,.ref (Z.length+1) 0|D7 (D6 [])]∧st=Z++[bN p,zZ c]) ?_ ?_
   ·simp only[go_sem,g2,iH,ac,ad]
    exact⟨⟨by omega,by omega⟩,Wk.mask [1,3,4] ⟨rfl,rfl⟩⟩
   rintro fr st ⟨rfl,rfl⟩
   simp only[bu,go_sem,ac,ad]
   refine gO (.bool (decide (c.rely.nodes≤40))) ⟨λ hg=> ?_,?_⟩
   ·simp only[go_sem]
    exact⟨hg,bH (sm c.rely ok1 _ _ _ ⟨rfl,rfl⟩)⟩
   simp only[bu,go_sem,ac,ad]
   refine gO (.bool (decide (c.guar.nodes≤40))) ⟨λ hg=> ?_,?_⟩
   ·simp only[go_sem]
    exact⟨hg,bH (sm c.guar ok2 _ _ _ ⟨rfl,rfl⟩)⟩
   simp only[bu,go_sem,w3,ac,ad]
   refine⟨λ q=>aQ hbd (h false λ q=>Bool.noConfusion q),λ q=>Wk.keep [1,3] [0] (by decide) (aE _) hbd ⟨p.modules.length - (k+1),by omega,k+1,by omega,rfl,fm mj hkl hall (by rw[hcc];simp only[bA,cF,ay,av]at q;omega),by simp only[go_sem],by simp only[go_sem]⟩⟩
  ·have hd2:decide ((k:Int)<(p.modules.length:Int))=false:=by simp only[ay];omega
   simp only[go_sem,hd2,ac,ad]
   obtain rfl:k=p.modules.length:=by omega
   rw[bB]at hall
   exact Wk.mask [1] ⟨hall,rfl,rfl⟩
 rintro fr st ⟨hmod,rfl,rfl⟩
 refine bc (λ fr st=>(∀l∈p.locks,l.inv.nodes≤40)∧fr=%[.o,.ref Z.length 0|D7 (D6 [.o,.o,.o])]∧st=Z++[bN p]) ?_ ?_
 ·simp only[go_sem,ac]
  refine aS (λ m fr st=>∃k:Nat,k≤p.locks.length∧m=p.locks.length - k∧(∀m∈p.locks.take k,m.inv.nodes≤40)∧fr=%[.o,.ref Z.length 0,.o,.o,.o,dn k|D7 (D5 (D4 [.o,.o,.o,.o,.o,.o,.o]))]∧st=Z++[bN p]) p.locks.length _ (Wk.mask [1,5] ⟨0,by omega,by omega,by simp,rfl,rfl⟩) ?_
  rintro m fr st ⟨k,hk,hm,hall,rfl,rfl⟩
  rcases aC k p.locks.length with hkl|hkg
  ·have hd2:decide ((k:Int)<(p.locks.length:Int))=true:=by simp only[av];omega
   have w3:=bC k (by omega)
   obtain⟨c,hcc⟩:∃c,p.locks.getD k mJ=c:=⟨_,rfl⟩
   have hcm:c∈p.locks:=by rw[←hcc];exact bT mJ hkl
   have g2:List.getD (p.locks.map iZ) k default=iZ c:=by rw[xw hkl,hcc]
   simp only[go_sem,hd2,g2,iZ,ac,ad]
   refine⟨⟨by omega,by omega⟩,bH (sm c.inv (hz.locks c hcm) _ _ _ ?_)⟩
   simp only[go_sem,w3,ac,ad]
   exact⟨λ q=>aQ hbd (h false λ q=>Bool.noConfusion q),λ q=>Wk.mask [1,5] ⟨p.locks.length - (k+1),by omega,k+1,by omega,rfl,fm mJ hkl hall (by rw[hcc];simpa using q),rfl,rfl⟩⟩
  ·have hd2:decide ((k:Int)<(p.locks.length:Int))=false:=by simp only[ay];omega
   simp only[go_sem,hd2,ac,ad]
   obtain rfl:k=p.locks.length:=by omega
   rw[bB]at hall
   exact Wk.mask [1] ⟨hall,rfl,rfl⟩
 rintro fr st ⟨hlck,rfl,rfl⟩
 refine bc (λ fr st=>(∀x∈p.threads,ThrSm x)∧fr=%[.o,.ref Z.length 0|D7 (D6 [.o,.o,.o])]∧st=Z++[bN p]) ?_ ?_
 ·simp only[go_sem,ac]
  refine aS (λ m fr st=>∃k:Nat,k≤p.threads.length∧m=p.threads.length - k∧(∀x∈p.threads.take k,ThrSm x)∧fr=%[.o,.ref Z.length 0,.o,.o,.o,.o,.o,dn k|D7 (D5 (D4 [.o,.o,.o,.o,.o]))]∧st=Z++[bN p]) p.threads.length _ (Wk.mask [1,7] ⟨0,by omega,by omega,by simp,rfl,rfl⟩) ?_
  rintro m fr st ⟨k,hk,hm,hall,rfl,rfl⟩
  rcases aC k p.threads.length with hkl|hkg
  ·have hd2:decide ((k:Int)<(p.threads.length:Int))=true:=by simp only[av];omega
   have w3:=bC k (by omega)
   obtain⟨c,hcc⟩:∃c,p.threads.getD k fg=c:=⟨_,rfl⟩
   have hcm:c∈p.threads:=by rw[←hcc];exact bT fg hkl
   have g2:List.getD (p.threads.map c8) k default=c8 c:=by rw[fe hkl,hcc]
   have st:=CD c (hz.threads c hcm).2
   unfold c8 at st
   simp only[go_sem,hd2,g2,c8,ac,ad]
   refine⟨⟨by omega,by omega⟩,bH (st _ _ _ λ b hb=> ?_)⟩
   simp only[go_sem,w3,ac,ad]
   exact⟨λ q=>aQ hbd (h false λ q=>Bool.noConfusion q),λ q=>Wk.mask [1,7] ⟨p.threads.length - (k+1),by omega,k+1,by omega,rfl,fm fg hkl hall (by rw[hcc];exact hb (by simpa using q)),rfl,rfl⟩⟩
  ·have hd2:decide ((k:Int)<(p.threads.length:Int))=false:=by simp only[ay];omega
   simp only[go_sem,hd2,ac,ad]
   obtain rfl:k=p.threads.length:=by omega
   rw[bB]at hall
   exact Wk.mask [1] ⟨hall,rfl,rfl⟩
 rintro fr st ⟨hthr,rfl,rfl⟩
 have hs:p.Small:=⟨l1,l2,l3,l4,hmod,hlck,hthr⟩
 simp only[go_sem,ac]
 refine bH (va hs _ _ _ λ c i j hcs=> ?_)
 simp only[go_sem,ac]
 exact aQ hbd (h _ λ q=>⟨hs,hcs.1 (cg.1 q)⟩)
theorem low_r(x w:Int)(hw:1≤w∧w≤8)(Z:St)(G:Glob)(R:A→St→Prop)(h:R (dn (lowb x w.toNat)) Z):AC Tryz.prog G 143 [di x,di w] Z R:=by
 have hb:=oB x (w:=w.toNat) (by omega)
 have hp:=qb (w:=w.toNat) (by omega)
 have hp0:=yY w.toNat
 have ws:IntKind.i64.wrap (((2^w.toNat:Nat):Int) - 1)=((2^w.toNat:Nat):Int) - 1:=cq _ (by omega) (by omega)
 refine bM a9 Tryz.func143 rfl Tryz.ntmps143 (by simp only[go_sem]) λ hbd=> ?_
 simp only[ae,aj,Nat.reduceAdd,Nat.reduceSub,af,ag,ah,ak]
 try simp only[go_sem]
 refine bH (yX w (by omega) _ _ _ ?_)
 simp only[go_sem,ws,hb]
 exact cw h
theorem at_r(l:List Int)(n:Int)(hn:0≤n)(hl:l.length≤reachBytes)(Z:St)(G:Glob)(R:A→St→Prop)(h:R (di (l.getD n.toNat 0)) Z):AC Tryz.prog G 144 [dL l,di n] Z R:=by
 refine bM a9 Tryz.func144 rfl Tryz.ntmps144 (by simp only[go_sem]) λ hbd=> ?_
 simp only[ae,aj,Nat.reduceAdd,Nat.reduceSub,af,ag,ah,ak]
 simp only[dL,bu,go_sem,ac]
 refine⟨λ q=> ?_,λ q=> ?_⟩
 ·have q:n<l.length:=by simpa using q
  have e1:=bW (l:=l) (j:=n.toNat) (by omega)
  simp only[go_sem,e1,ac]
  exact⟨⟨by omega,by omega⟩,cw h⟩
 ·have q:¬n<l.length:=by simpa using q
  have e:l.getD n.toNat 0=0:=by rw[au,bm (by omega)];rfl
  rw[e]at h
  exact cw h
def vI(k:List Nat):List Int:=k.map λ n:Nat=>(n:Int)
theorem vI_at(k:List Nat)(i:Nat)(h:i<k.length):List.getD ((vI k).map iD) i default=iD ((k.getD i 0:Nat):Int):=by
 simp only[vI,au,aN,ap h];rfl
structure App (e:Ex) (k:List Nat):Prop where
 op:4≤e.op∧e.op≤14
 w:1≤e.w∧e.w≤8
 len:k.length=(Ex.arity e.op).toNat
 lt:∀i,k.getD i 0<256
 own:4≤e.op→e.op≤10→∀i,i<k.length→k.getD i 0<2^e.w.toNat
 bit:e.op=14→k.getD 0 0<2
theorem apply_r(old now:List Int)(e:Ex)(k:List Nat)(hk:App e k)(Z:St)(G:Glob)(R:A→St→Prop)(h:R (dn (ss old now e.op e.w.toNat e.n k)) Z):AC Tryz.prog G 145 [.d (eD e),dL (vI k)] Z R:=by
 obtain⟨ho,hw,hl,h256,hown,hbit⟩:=hk
 have ho':e.op=4∨e.op=5∨e.op=6∨e.op=7∨e.op=8∨e.op=9∨e.op=10∨e.op=11∨e.op=12∨e.op=13∨e.op=14:=by omega
 have hvl:((vI k).map iD).length=k.length:=by simp [vI]
 have g0:0<k.length→List.getD ((vI k).map iD) 0 default=iD ((k.getD 0 0:Nat):Int):=vI_at k 0
 have g1:1<k.length→List.getD ((vI k).map iD) 1 default=iD ((k.getD 1 0:Nat):Int):=vI_at k 1
 obtain⟨W,hW⟩:∃W:Nat,e.w.toNat=W:=⟨_,rfl⟩
 have hp:=qb (w:=W) (by omega)
 have hp0:=yY W
 obtain⟨a,ha⟩:∃a,k.getD 0 0=a:=⟨_,rfl⟩
 obtain⟨b,hb⟩:∃b,k.getD 1 0=b:=⟨_,rfl⟩
 obtain⟨c,hc⟩:∃c,k.getD 2 0=c:=⟨_,rfl⟩
 have a256:=h256 0
 have b256:=h256 1
 have c256:=h256 2
 rw[ha]at a256 g0;rw[hb]at b256 g1;rw[hc]at c256
 rw[hW]at h hown
 have hml:=vR a256 b256
 have wa:IntKind.i64.wrap ((a:Int)+b)=(a:Int)+b:=cq _ (by omega) (by omega)
 have ws:IntKind.i64.wrap ((a:Int) - b)=(a:Int) - b:=cq _ (by omega) (by omega)
 have ws2:IntKind.i64.wrap ((a:Int) - b+((2^W:Nat):Int))=(a:Int) - b+((2^W:Nat):Int):=cq _ (by omega) (by omega)
 have wm:IntKind.i64.wrap ((a:Int)*b)=(a:Int)*b:=by
  have:(a:Int)*b=((a*b:Nat):Int):=by simp
  rw[this];exact cq _ (by omega) (by omega)
 have wp:IntKind.i64.wrap (((2^W:Nat):Int) - 1)=((2^W:Nat):Int) - 1:=cq _ (by omega) (by omega)
 have wq:IntKind.i64.wrap (((2^W:Nat):Int) - 1 - a)=((2^W:Nat):Int) - 1 - a:=cq _ (by omega) (by omega)
 have b2:=An (a:=a) (b:=b) (by omega) (by omega)
 have b3:=Cw (a:=a) (b:=b) (by omega) (by omega)
 have b4:=Am (a:=a) (b:=b) (by omega) (by omega)
 have t1:((a:Int)==(b:Int))=(a==b):=by rw[dD,cg,cg];omega
 have t2:decide ((a:Int)<(b:Int))=decide (a<b):=by apply decide_eq_decide.2;omega
 have t3:decide ((a:Int)≤(b:Int))=decide (a≤b):=by apply decide_eq_decide.2;omega
 have hpz:=λ (Z':St)=>yX e.w (by omega) Z' G (λ r s=>r=di ((2^W:Nat):Int)∧s=Z') ⟨by rw[hW],rfl⟩
 have hlo:=λ (x:Int) (Z':St) (R':A→St→Prop) (h':R' (dn (lowb x W)) Z')=>low_r x e.w hw Z' G R' (by rw[hW];exact h')
 have lowk:∀(x:Int) (N:Nat),lowb x W=N→ss old now e.op W e.n k=N→∀(Z':St) (R':A→St→Prop),R' (dn (ss old now e.op W e.n k)) Z'→AC Tryz.prog G 143 [di x,di e.w] Z' R':=λ x N h1 h2 Z' R' h'=>hlo x Z' R' (by rw[h1,←h2];exact h')
 unfold eD
 refine bM a9 Tryz.func145 rfl Tryz.ntmps145 (by simp only[go_sem]) λ hbd=> ?_
 simp only[ae,aj,Nat.reduceAdd,Nat.reduceSub,af,ag,ah,ak]
 simp only[dL,bu,go_sem,hvl]
 rcases ho' with o|o|o|o|o|o|o|o|o|o|o<;> simp only[o,ss,Int.reduceEq,if_true,if_false,ha,hb,hc]at h lowk<;> simp only[go_sem,o,Int.reduceBEq]
 ·have hlk:k.length=1:=by rw[hl,o];rfl
  have g0:=g0 (by omega)
  refine bb (.tk 2 0<| .take 4<| .pure 2<| .take 3<| .tk 4 5<| .done) (by kernel_rfl) ?_
  try simp only[go_sem]
  refine mN (di ((2^W:Nat):Int)) ⟨λ Z'=>bH (hpz Z'),?_⟩
  simp only[go_sem,bZ,hvl,g0,wp,wq]
  have:=hown (by omega) (by omega) 0 (by omega)
  rw[ha]at this
  refine⟨⟨by omega,by omega⟩,aQ hbd ?_⟩
  rw[show dn (2^W - 1 - a)=di (((2^W:Nat):Int) - 1 - a)by show di _=di _;congr 1;omega]at h
  exact h
 ·have hlk:k.length=2:=by rw[hl,o];rfl
  have g0:=g0 (by omega)
  have g1:=g1 (by omega)
  refine bb (.tk 8 0<| .done) (by kernel_rfl) ?_
  simp only[go_sem,bZ,dI,hvl,g0,g1,b2]
  exact⟨⟨by omega,by omega⟩,⟨by omega,by omega⟩,aQ hbd h⟩
 ·have hlk:k.length=2:=by rw[hl,o];rfl
  have g0:=g0 (by omega)
  have g1:=g1 (by omega)
  refine bb (.tk 8 0<| .done) (by kernel_rfl) ?_
  simp only[go_sem,bZ,dI,hvl,g0,g1,b3]
  exact⟨⟨by omega,by omega⟩,⟨by omega,by omega⟩,aQ hbd h⟩
 ·have hlk:k.length=2:=by rw[hl,o];rfl
  have g0:=g0 (by omega)
  have g1:=g1 (by omega)
  refine bb (.tk 8 0<| .done) (by kernel_rfl) ?_
  simp only[go_sem,bZ,dI,hvl,g0,g1,b4]
  exact⟨⟨by omega,by omega⟩,⟨by omega,by omega⟩,aQ hbd h⟩
 ·have hlk:k.length=2:=by rw[hl,o];rfl
  have g0:=g0 (by omega)
  have g1:=g1 (by omega)
  refine bb (.tk 11 0<| .done) (by kernel_rfl) ?_
  simp only[go_sem,bZ,dI,hvl,g0,g1,wa]
  refine⟨⟨by omega,by omega⟩,⟨by omega,by omega⟩,bH (lowk _ _ (by rw[show(a:Int)+b=((a+b:Nat):Int)by simp,kh]) rfl _ _ ?_)⟩
  try simp only[go_sem]
  exact aQ hbd h
 ·have hlk:k.length=2:=by rw[hl,o];rfl
  have g0:=g0 (by omega)
  have g1:=g1 (by omega)
  refine bb (.take 0<| .take 3<| .tk 2 7<| .pure 9<| .tk 2 1<| .tk 3 4<| .tk 3 10<| .pure 13<| .take 14<| .done) (by kernel_rfl) ?_
  simp only[go_sem,bZ,dI,hvl,g0,g1,ws]
  refine mN (di ((2^W:Nat):Int)) ⟨λ Z'=>bH (hpz Z'),?_⟩
  simp only[go_sem,bZ,dI,hvl,g0,g1,ws,ws2]
  have:=hown (by omega) (by omega) 1 (by omega)
  rw[hb]at this
  refine⟨⟨by omega,by omega⟩,⟨by omega,by omega⟩,mN (dn ((a+(2^W - b)) % 2^W)) ⟨λ Z'=> ?_,?_⟩⟩
  ·simp only[go_sem]
   exact bH (lowk _ _ (by rw[show(a:Int) - b+((2^W:Nat):Int)=((a+(2^W - b):Nat):Int)by omega,kh]) rfl _ _ ⟨rfl,rfl⟩)
  try simp only[go_sem]
  exact aQ hbd h
 ·have hlk:k.length=2:=by rw[hl,o];rfl
  have g0:=g0 (by omega)
  have g1:=g1 (by omega)
  refine bb (.tk 11 0<| .done) (by kernel_rfl) ?_
  simp only[go_sem,bZ,dI,hvl,g0,g1,wm]
  refine⟨⟨by omega,by omega⟩,⟨by omega,by omega⟩,bH (lowk _ _ (by rw[show(a:Int)*b=((a*b:Nat):Int)by simp,kh]) rfl _ _ ?_)⟩
  try simp only[go_sem]
  exact aQ hbd h
 ·have hlk:k.length=2:=by rw[hl,o];rfl
  have g0:=g0 (by omega)
  have g1:=g1 (by omega)
  refine bb (.tk 40 0<| .done) (by kernel_rfl) ?_
  simp only[go_sem,o,Int.reduceBEq,bZ,dI,hvl,g0,g1,t1,t2,t3]
  refine⟨⟨by omega,by omega⟩,⟨by omega,by omega⟩,λ q=>aQ hbd ?_,λ q=>aQ hbd ?_⟩
  ·rw[q]at h;exact h
  ·rw[q]at h;exact h
 ·have hlk:k.length=2:=by rw[hl,o];rfl
  have g0:=g0 (by omega)
  have g1:=g1 (by omega)
  refine bb (.tk 40 0<| .done) (by kernel_rfl) ?_
  simp only[go_sem,o,Int.reduceBEq,bZ,dI,hvl,g0,g1,t1,t2,t3]
  refine⟨⟨by omega,by omega⟩,⟨by omega,by omega⟩,λ q=>aQ hbd ?_,λ q=>aQ hbd ?_⟩
  ·rw[q]at h;exact h
  ·rw[q]at h;exact h
 ·have hlk:k.length=2:=by rw[hl,o];rfl
  have g0:=g0 (by omega)
  have g1:=g1 (by omega)
  refine bb (.tk 40 0<| .done) (by kernel_rfl) ?_
  simp only[go_sem,o,Int.reduceBEq,bZ,dI,hvl,g0,g1,t1,t2,t3]
  refine⟨⟨by omega,by omega⟩,⟨by omega,by omega⟩,λ q=>aQ hbd ?_,λ q=>aQ hbd ?_⟩
  ·rw[q]at h;exact h
  ·rw[q]at h;exact h
 ·have hlk:k.length=3:=by rw[hl,o];rfl
  have g0:=g0 (by omega)
  have a2:=hbit o
  rw[ha]at a2
  have w2:IntKind.i64.wrap (2 - (a:Int))=((2 - a:Nat):Int):=by rw[cq _ (by omega) (by omega)];omega
  have g2:=vI_at k (2 - a) (by omega)
  simp only[go_sem,o,Int.reduceBEq,bZ,ad,hvl,g0,g2,w2]
  refine⟨⟨by omega,by omega⟩,⟨by omega,by omega⟩,aQ hbd ?_⟩
  have a01:a=0∨a=1:=by omega
  rcases a01 with q|q<;> subst q
  ·rw[if_neg (by decide)]at h
   rw[show 2 - 0=2 from rfl,hc];exact h
  ·rw[if_pos rfl]at h
   rw[show 2 - 1=1 from rfl,hb];exact h
theorem app_of{old now:List Int}{l:Nat}{e:Ex}(hd:e.deep (l+1)=true)(h4:4≤e.op):App e (e.kids.map (kF old now)):=by
 have hkd:∀k∈e.kids,k.deep l=true:=λ k hk=>jc hd hk
 have hf:e.fits=true:=by simp only[Ex.deep,aB]at hd;exact hd.1
 simp only[Ex.fits,aB,av]at hf
 obtain⟨⟨ha,w1,w8⟩,hf⟩:=hf
 have hop:e.op≤14:=by
  unfold Ex.arity at ha
  split at ha
  ·omega
  ·split at ha
   ·omega
   ·split at ha
    ·omega
    ·split at ha<;> omega
 have hkw:∀i,(e.kids.map (kF old now)).getD i 0<2^(e.kw i).toNat:=λ i=>by
  rw[au,aN]
  rcases aC i e.kids.length with hi|hi
  ·rw[ap hi]
   have:=uv (old:=old) (now:=now) l e.kids[i] (hkd _ (bI hi))
   simp only[bJ,b9,Ex.kw]
   rw[au,ap hi]
   exact this
  ·rw[bm hi]
   exact Nat.pow_pos (by omega)
 rw[if_neg (by omega),if_neg (by omega)]at hf
 refine⟨⟨h4,hop⟩,⟨w1,w8⟩,by rw[ac];omega,λ i=> ?_,λ _ h10 i hi=> ?_,λ o=> ?_⟩
 ·rw[au,aN]
  rcases aC i e.kids.length with hi|hi
  ·rw[ap hi]
   have h1:=uv (old:=old) (now:=now) l e.kids[i] (hkd _ (bI hi))
   have h2:e.kids[i].w≤8:=by
    have:=hkd _ (bI hi)
    cases l with
    |zero=>simp [Ex.deep]at this
    |succ l=>
     simp only[Ex.deep,aB,Ex.fits,av]at this
     exact this.1.1.2.2
   have:=qb (w:=e.kids[i].w.toNat) (by omega)
   simp only[bJ,b9]
   omega
  ·rw[bm hi];simp
 ·rw[ac]at hi
  have h0:=hkw i
  have:e.kw i=e.w:=by
   by_cases o4:e.op=4
   ·rw[if_pos o4,av]at hf
    have:e.kids.length=1:=by rw[o4]at ha;simp [Ex.arity]at ha;omega
    have:i=0:=by omega
    subst this;exact hf.2
   ·rw[if_neg o4,if_neg (by omega),if_neg (by omega),av]at hf
    have:e.kids.length=2:=by rw[Ex.arity,if_neg (by omega),if_neg o4,if_pos (by omega)]at ha;omega
    have:i=0∨i=1:=by omega
    rcases this with q|q<;> subst q
    ·exact hf.2.1
    ·exact hf.2.2
  rw[this]at h0;exact h0
 ·rw[if_neg (by omega),if_neg (by omega),if_pos o,av]at hf
  have:=hkw 0
  rw[hf.2.1]at this
  exact this
theorem apply1_r(e:Ex)(o:e.op=1)(d:D)(Z:St)(G:Glob)(R:A→St→Prop)(h:R (di e.n) Z):AC Tryz.prog G 145 [.d (eD e),.d d] Z R:=by
 unfold eD
 refine bM a9 Tryz.func145 rfl Tryz.ntmps145 (by simp only[go_sem]) λ hbd=> ?_
 simp only[ae,aj,Nat.reduceAdd,Nat.reduceSub,af,ag,ah,ak]
 simp only[go_sem,o,Int.reduceBEq]
 exact aQ hbd h
theorem fits_op{e:Ex}(hf:e.fits=true):1≤e.op∧e.kids.length≤3:=by
 simp only[Ex.fits,aB,av]at hf
 obtain⟨⟨ha,w1,w8⟩,hf⟩:=hf
 unfold Ex.arity at ha
 split at ha
 ·omega
 ·split at ha
  ·omega
  ·split at ha
   ·omega
   ·split at ha<;> omega
theorem value_r(old now:List Int)(ho:old.length≤reachBytes)(hn:now.length≤reachBytes)(l:Nat):∀(e:Ex) (hok:e.Ok) (hd:e.deep l=true) (Z:St) (G:Glob) (R:A→St→Prop) (h:R (dn (kF old now e)) Z),AC Tryz.prog G 115 [.d e.d,dL old,dL now] Z R:=by
 induction l with
 |zero=>intro e hok hd;simp [Ex.deep]at hd
 |succ l ih=>
  intro e hok hdp Z G R h
  obtain⟨hk,hks⟩:=hok
  have hkd:∀k∈e.kids,k.deep l=true:=λ k hk=>jc hdp hk
  have hf:e.fits=true:=by simp only[Ex.deep,aB]at hdp;exact hdp.1
  have hn0:=uj hf
  have hop:=fits_op hf
  have hw:1≤e.w∧e.w≤8:=by
   simp only[Ex.fits,aB,av]at hf;exact hf.1.2
  rw[Bn]at h
  rw[Ex.d_eq]
  refine bD [5] a9 Tryz.func115 rfl Tryz.ntmps115 (by simp only[go_sem]) λ hbd=> ?_
  simp only[ae,aj,Nat.reduceAdd,Nat.reduceSub,af,ag,ah,ak]
  by_cases o2:e.op=2
  ·simp only[ss,o2,if_true,Int.reduceEq,if_false]at h
   simp only[go_sem,o2,Int.reduceBEq]
   refine bb (.tk 3 0<| .pure 3<| .tk 2 4<| .pure 6<| .take 7<| .done) (by kernel_rfl) ?_
   try simp only[go_sem]
   refine mN (di (now.getD e.n.toNat 0)) ⟨λ Z'=>bH (at_r now e.n hn0 hn _ _ _ ⟨rfl,rfl⟩),?_⟩
   try simp only[go_sem]
   refine mN (dn (lowb (now.getD e.n.toNat 0) e.w.toNat)) ⟨λ Z'=>bH (low_r _ e.w hw _ _ _ ⟨rfl,rfl⟩),?_⟩
   try simp only[go_sem]
   exact aQ hbd h
  have b2:(e.op==2)=false:=by simp [o2]
  simp only[go_sem,b2]
  refine bc (λ fr st=>¬e.op=3∧fr=%[.o,dL old,dL now,.ref Z.length 0|D6 (D4 [.o,.o,.o,.o,.o,.o])]∧st=Z++[exA e.op e.w e.n (e.kids.map Ex.d)]) ?_ ?_
  ·by_cases o3:e.op=3
   ·simp only[ss,o3,if_true,Int.reduceEq,if_false]at h
    simp only[go_sem,o3,Int.reduceBEq]
    refine bb (.tk 3 0<| .pure 3<| .tk 2 4<| .pure 6<| .take 7<| .done) (by kernel_rfl) ?_
    try simp only[go_sem]
    refine mN (di (old.getD e.n.toNat 0)) ⟨λ Z'=>bH (at_r old e.n hn0 ho _ _ _ ⟨rfl,rfl⟩),?_⟩
    try simp only[go_sem]
    refine mN (dn (lowb (old.getD e.n.toNat 0) e.w.toNat)) ⟨λ Z'=>bH (low_r _ e.w hw _ _ _ ⟨rfl,rfl⟩),?_⟩
    try simp only[go_sem]
    exact aQ hbd h
   have b3:(e.op==3)=false:=by simp [o3]
   simp only[go_sem,b3]
   exact Wk.mask [1,2,3] ⟨o3,rfl,rfl⟩
  rintro fr st ⟨o3,rfl,rfl⟩
  simp only[go_sem,ac]
  obtain⟨kv,hkv⟩:∃kv,e.kids.map (kF old now)=kv:=⟨_,rfl⟩
  rw[hkv]at h
  have hkvl:kv.length=e.kids.length:=by rw[←hkv];simp
  refine aS (λ m fr st=>∃j:Nat,j≤e.kids.length∧m=e.kids.length - j∧fr=%[.o,dL old,dL now,.ref Z.length 0,.o,.o,.o,.rs (Z.length+1) 1 0 j (some 3),dn j|D6 (D4 [.o])]∧st=Z++[exA e.op e.w e.n (e.kids.map Ex.d),bY (vI (kv.take j))]) e.kids.length _ ⟨_,_,(bw.mask [1,2,3,7,8]).trans (bw.empty 7 1 (some 3) rfl),0,by omega,rfl,by rw[aF];rfl,by simp [vI,bY]⟩ ?_
  rintro m fr st ⟨j,hj,hm2,rfl,rfl⟩
  rcases aC j e.kids.length with hlt|hge
  ·have hdd:decide ((j:Int)<(e.kids.length:Int))=true:=by simp;omega
   obtain⟨k,hkk⟩:∃k,e.kids.getD j (.mk 0 0 0 [])=k:=⟨_,rfl⟩
   have hmem:k∈e.kids:=hkk▸mK hlt
   have e1:=pu hlt hkk
   have w2:=bC j (by simp only[reachBytes]at hk;omega)
   simp only[go_sem,hdd,ac,e1,ad]
   rw[←Ex.d_eq k]
   refine⟨⟨by omega,by omega⟩,bH (ih k (hks k hmem) (hkd k hmem) _ _ _ ?_)⟩
   have hkj:vI (kv.take (j+1))=vI (kv.take j)++[((kF old now k:Nat):Int)]:=by
    rw[bG 0 (by omega),vI,vI,aJ,←hkv,←hkk]
    congr 2
    rw[au,aN,au,ap hlt];rfl
   have hvl:(vI (kv.take j)).length=j:=by simp only[vI,ac,aP];omega
   simp only[go_sem,bY,w2,ac,ad]
   refine⟨⟨by simp;omega,by simp only[maxLen];omega,by omega⟩,Wk.keep [1,2,3,7,8] [0,3] (by decide) (aE _) hbd ⟨e.kids.length - (j+1),by omega,j+1,by omega,rfl,by simp only[go_sem],?_⟩⟩
   rw[hkj,aJ]
   simp only[go_sem,dj,cx,aM,bq]
  ·have hdd:decide ((j:Int)<(e.kids.length:Int))=false:=by simp;omega
   rw[aK (by omega)]
   have hvl:(vI kv).length=e.kids.length:=by simp only[vI,ac];omega
   simp only[go_sem,hdd,ac]
   refine bH (xS 1 1 0 ((vI kv).map iD) rfl (cJ _) ?_)
   simp only[go_sem,ac]
   rw[if_pos (by omega)]
   by_cases o1:e.op=1
   ·simp only[ss,if_pos o1]at h
    rw[show dn e.n.toNat=di ((e.n.toNat:Nat):Int)from rfl,show((e.n.toNat:Nat):Int)=e.n by omega]at h
    refine apply1_r e o1 _ _ _ _ ?_
    try simp only[go_sem]
    exact aQ hbd h
   have hap:=apply_r old now e kv (hkv▸app_of hdp (by omega))
   unfold eD at hap
   refine hap _ _ _ ?_
   try simp only[go_sem]
   exact aQ hbd h
theorem uu(e:Ex)(hok:e.Ok)(hf:e.formed=true)(old now:List Int)(ho:old.length≤reachBytes)(hn:now.length≤reachBytes)(Z:St)(G:Glob)(R:A→St→Prop)(h:R (dn (kF old now e)) Z):AC Tryz.prog G 76 [.d (eD e),dL old,dL now] Z R:=by
 have fo:=kO e hok
 have va:=value_r old now ho hn 40 e hok (r6 hf)
 rw[ed,hf]at fo
 rw[ed]at va
 unfold eD at*
 refine bM a9 Tryz.func76 rfl Tryz.ntmps76 (by simp only[go_sem]) λ hbd=> ?_
 simp only[ae,aj,Nat.reduceAdd,Nat.reduceSub,af,ag,ah,ak]
 try simp only[go_sem]
 refine bH (fo _ _ _ ?_)
 try simp only[go_sem]
 refine bH (va _ _ _ ?_)
 try simp only[go_sem]
 exact aQ hbd h
structure Good (p:Prg):Prop where
 sm:p.Small
 ok:p.Ok
 nm:NamesSz p
abbrev df(a b c:A):Option Ob:=some (.cells [a,b,c])
theorem nr(n:Nat)(p:List Nat)(k:Nat)(d:D):Go.Ab.ix n p (List.replicate k (A.d d))=List.replicate k (A.d d):=by
 induction k with
 |zero=>rfl
 |succ k ih=>simp only[af,go_sem,ih]
theorem lY(k sz:Nat):NilAL (List.replicate k (A.d .nils)) (List.replicate k (A.d (.sl sz []))):=by
 induction k with
 |zero=>exact .nil
 |succ k ih=>exact .cons (.d (.nil sz)) ih
theorem start_r(p:Prg)(hp:Good p)(Z:St)(G:Glob)(R:A→St→Prop)(h:R (.d (bX (bS p))) Z):AC Tryz.prog G 32 [.d (bK p)] Z R:=by
 have fo:=formed_r p hp.sm hp.nm hp.ok
 have hcn:=hp.sm.ncel
 have htn:=hp.sm.nthr
 unfold bK at*
 refine bD [3,8,15] a9 Tryz.func32 rfl Tryz.ntmps32 (by simp only[go_sem]) λ hbd=> ?_
 simp only[ae,aj,Nat.reduceAdd,Nat.reduceSub,af,ag,ah,ak]
 try simp only[go_sem]
 refine bc (λ fr st=>fr=%[.o,.ref Z.length 0,.ref (Z.length+1) 0|D6 (D5 [.o,.o,.o])]∧st=Z++[bN p,df (.d .nils) (.d .nils) (.d .nils)]) ?_ ?_
 ·simp only[aY,go_sem]
  refine bH (fo _ _ _ ?_)
  try simp only[go_sem]
  exact Wk.mask [1,2] ⟨rfl,rfl⟩
 rintro fr st ⟨rfl,rfl⟩
 simp only[aY,go_sem,ac]
 refine⟨⟨by omega,by omega,by omega,by omega⟩,?_⟩
 refine bc (λ fr st=>fr=%[.o,.ref Z.length 0,.ref (Z.length+1) 0,.ref (Z.length+3) 0|D6 (D5 [.o,.o])]∧st=Z++[bN p,df (.d .nils) (.d .nils) (.d .nils),some (.cells (List.replicate p.threads.length (.d (.sl 2 [])))),df (.d (bu (p.cells.map Cel.init))) (.d .nils) (.rs (Z.length+2) 1 0 p.threads.length (some 46))]) ?_ ?_
 ·simp only[aY,go_sem,ac]
  obtain⟨ini,hini⟩:∃ini,p.cells.map Cel.init=ini:=⟨_,rfl⟩
  have hil:ini.length=p.cells.length:=by rw[←hini];simp
  have hrep:(List.replicate p.threads.length [A.d D.nils]).flatten=List.replicate p.threads.length (A.d D.nils):=by simp
  rw[hini,hrep]
  refine aS (λ m fr st=>∃j:Nat,j≤p.cells.length∧m=p.cells.length - j∧fr=%[.o,.ref Z.length 0,.ref (Z.length+1) 0,.ref (Z.length+3) 0,dn j|D6 (D5 [.o])]∧st=Z++[bN p,df (.d .nils) (.d .nils) (.d .nils),some (.cells (List.replicate p.threads.length (.d (.sl 2 [])))),df (.rs (Z.length+4) 1 0 j (some 3)) (.d .nils) (.rs (Z.length+2) 1 0 p.threads.length (some 46)),bY (ini.take j)]) p.cells.length _ ?_ ?_
  ·refine Wk.via (bw.nilsO (Z:=Z) 2 rfl (lY _ 2)) ?_
   refine Wk.via (bw.emptyIn (Z:=Z) 3 0 1 (some 3) rfl rfl) ?_
   exact Wk.mask [1,2,3,4] ⟨0,by omega,by omega,rfl,by simp [bY]⟩
  rintro m fr st ⟨j,hj,hm,rfl,rfl⟩
  rcases aC j p.cells.length with hlt|hge
  ·have hd:decide ((j:Int)<(p.cells.length:Int))=true:=by simp;omega
   have w2:=bC j (by omega)
   have e1:=iM (l:=p.cells) hlt
   simp only[fb]at e1
   simp only[aY,go_sem,hd,ac]
   refine bb (.tk 12 0<| .done) (by kernel_rfl) ?_
   simp only[aY,go_sem,bY,w2,e1,ac,ad]
   refine⟨⟨by omega,by omega⟩,⟨by simp;omega,by simp only[maxLen];omega,by omega⟩,?_⟩
   refine Wk.keep [1,2,3,4] [0,1,2,3,6] (by decide) (aE _) hbd ⟨p.cells.length - (j+1),by omega,j+1,by omega,rfl,by simp only[go_sem],?_⟩
   have hx:ini.getD j 0=(p.cells.getD j fU).init:=by
    rw[←hini];simp only[au,aN,ap hlt];rfl
   rw[bG 0 (by omega),aJ,hx]
   simp only[go_sem,dj,cx,nr,aM,bq]
  ·have hd:decide ((j:Int)<(p.cells.length:Int))=false:=by simp;omega
   rw[aK (by omega)]
   simp only[aY,go_sem,hd,ac]
   refine Wk.via (bw.freezeIn (Z:=Z) 4 3 1 0 (ini.map iD) rfl (cJ _) rfl (by decide)) ?_
   simp only[go_sem,ac]
   rw[if_pos (by omega)]
   exact Wk.keep [1,2,3] [0,1,2,3] (by decide) (aE _) hbd ⟨by simp only[go_sem],by simp only[go_sem,nr,false_and,if_false,bu]⟩
 rintro fr st ⟨rfl,rfl⟩
 obtain⟨ini,hini⟩:∃ini,p.cells.map Cel.init=ini:=⟨_,rfl⟩
 obtain⟨ps,hps⟩:∃ps,(p.threads.map λ x:Thr=>if x.asleep then(-1:Int)else 0)=ps:=⟨_,rfl⟩
 have hpl:ps.length=p.threads.length:=by rw[←hps];simp
 have hbl:(List.replicate p.threads.length (D.sl 2 []))=p.threads.map λ _=>cu []:=by simp [cu,gY]
 unfold bS bX at h
 simp only[hini,hps,dZ,Function.comp_def,←hbl]at h
 simp only[hini]
 refine bc (λ fr st=>fr=%[.o,.o,.ref Z.length 0,.ref (Z.length+1) 0|D6 (D5 [.o,.o])]∧st=Z++[df (.d .nils) (.d .nils) (.d .nils),df (.d (bu ini)) (.d (bu ps)) (.d (.sl 1 (List.replicate p.threads.length (.sl 2 []))))]) ?_ ?_
 ·simp only[go_sem,ac]
  refine aS (λ m fr st=>∃j:Nat,j≤p.threads.length∧m=p.threads.length - j∧fr=%[.o,.ref Z.length 0,.ref (Z.length+1) 0,.ref (Z.length+3) 0,.o,dn j|D6 (D5 [])]∧st=Z++[bN p,df (.d .nils) (.d .nils) (.d .nils),some (.cells (List.replicate p.threads.length (.d (.sl 2 [])))),df (.d (bu ini)) (.rs (Z.length+4) 1 0 j (some 3)) (.rs (Z.length+2) 1 0 p.threads.length (some 46)),bY (ps.take j)]) p.threads.length _ ?_ ?_
  ·refine Wk.via (bw.emptyIn (Z:=Z) 3 1 1 (some 3) rfl rfl) ?_
   exact Wk.mask [1,2,3,5] ⟨0,by omega,by omega,rfl,by simp [bY]⟩
  rintro m fr st ⟨j,hj,hm,rfl,rfl⟩
  rcases aC j p.threads.length with hlt|hge
  ·have hd:decide ((j:Int)<(p.threads.length:Int))=true:=by simp;omega
   have w2:=bC j (by omega)
   have e1:=fe (l:=p.threads) hlt
   have hx:ps.getD j 0=if(p.threads.getD j fg).asleep then(-1:Int)else 0:=by
    rw[←hps];simp only[au,aN,ap hlt];rfl
   generalize p.threads.getD j fg=x at e1 hx
   simp only[go_sem,hd,e1,c8,bY,w2,ac,ad]
   refine⟨⟨by omega,by omega⟩,λ q=> ?_,λ q=> ?_⟩
   ·refine⟨⟨by simp;omega,by simp only[maxLen];omega,by omega⟩,?_⟩
    rw[q,if_pos rfl]at hx
    refine Wk.keep [1,2,3,5] [0,1,2,3,6] (by decide) (aE _) hbd ⟨p.threads.length - (j+1),by omega,j+1,by omega,rfl,by simp only[go_sem],?_⟩
    rw[bG 0 (by omega),aJ,hx]
    simp only[go_sem,dj,cx,nr,aM,bq,bu]
   ·refine⟨⟨by simp;omega,by simp only[maxLen];omega,by omega⟩,?_⟩
    rw[q,if_neg cX]at hx
    refine Wk.keep [1,2,3,5] [0,1,2,3,6] (by decide) (aE _) hbd ⟨p.threads.length - (j+1),by omega,j+1,by omega,rfl,by simp only[go_sem],?_⟩
    rw[bG 0 (by omega),aJ,hx]
    simp only[go_sem,dj,cx,nr,aM,bq,bu]
  ·have hd:decide ((j:Int)<(p.threads.length:Int))=false:=by simp;omega
   rw[aK (by omega)]
   simp only[go_sem,hd,ac]
   refine Wk.via (bw.freezeIn (Z:=Z) 4 3 1 0 (ps.map iD) rfl (cJ _) rfl (by decide)) ?_
   simp only[go_sem,ac,false_and,if_false]
   rw[if_pos (by omega)]
   refine Wk.via (bw.freezeIn (Z:=Z) 2 3 1 0 (List.replicate p.threads.length (.sl 2 [])) rfl ?_ rfl (by decide)) ?_
   ·have:=gV (λ _:Thr=>D.sl 2 []) (λ _=>⟨rfl,rfl⟩) p.threads
    rwa [gY,gY]at this
   simp only[go_sem,fd,and_self,if_true]
   exact Wk.keep [2,3] [1,3] (by decide) (aE _) hbd ⟨by simp only[go_sem],by simp only[go_sem,bu]⟩
 rintro fr st ⟨rfl,rfl⟩
 try simp only[go_sem]
 exact aQ hbd h
theorem ml(l:List Int)(hl:l.length≤1000)(Z:St)(G:Glob)(R:A→St→Prop)(h:R (.rs Z.length 1 0 l.length (some 3)) (Z++[bY l])):AC Tryz.prog G 113 [.d (bu l)] Z R:=by
 unfold bu
 refine bg a9 Tryz.func113 rfl Tryz.ntmps113 (by simp only[go_sem]) λ hbd=> ?_
 simp only[ae,aj,Nat.reduceAdd,Nat.reduceSub,af,ag,ah,ak]
 try simp only[go_sem]
 refine aS (λ m fr st=>∃j:Nat,j≤l.length∧m=l.length - j∧fr=%[.d (.sl 1 (l.map iD)),.o,.o,.rs Z.length 1 0 j (some 3),dn j|D4 [.o,.o,.o,.o,.o,.o]]∧st=Z++[bY (l.take j)]) l.length _ ?_ ?_
 ·exact⟨_,_,(bw.mask [0,3,4]).trans (bw.empty 3 1 (some 3) rfl),0,by omega,by omega,by simp [iX],by simp [bY]⟩
 rintro m fr st ⟨j,hj,hm,rfl,rfl⟩
 rcases aC j l.length with hlt|hge
 ·have hd:decide ((j:Int)<(l.length:Int))=true:=by simp;omega
  have w2:=bC j (by omega)
  simp only[go_sem,bY,hd,w2,bW hlt,ac,ad]
  refine⟨⟨by omega,by omega⟩,⟨by simp;omega,by simp only[maxLen];omega,by omega⟩,Wk.keep [0,3,4] [2] (by decide) (aE _) hbd ⟨l.length - (j+1),by omega,j+1,by omega,rfl,by simp only[go_sem],?_⟩⟩
  rw[bG 0 hlt,aJ]
  simp only[go_sem,dj,cx,aM,bq]
 ·have hd:decide ((j:Int)<(l.length:Int))=false:=by simp;omega
  obtain rfl:j=l.length:=by omega
  rw[aK (aE _)]
  simp only[go_sem,hd,ac]
  refine nn [0] (by decide) hbd ?_
  simp only[go_sem,bY,cx]
  exact h
def yb(m:List Int)(e:Ent)(j:Nat):List Int:=((e.cells.zip e.vals).take j).foldl (λ m q=>m.set q.1.toNat q.2) m
theorem ya(m:List Int)(e:Ent)(j:Nat)(hv:e.vals.length=e.cells.length)(h:j<e.cells.length):yb m e (j+1)=(yb m e j).set (e.cells.getD j 0).toNat (e.vals.getD j 0):=by
 unfold yb
 rw[gp,dG,ap (by rw[f9];omega)]
 simp only[Option.toList_some,cc,List.foldl_nil,List.getElem_zip,au,ap h,ap (show j<e.vals.length by omega),b9]
theorem BP(m:List Int)(e:Ent)(j:Nat):(yb m e j).length=m.length:=by
 unfold yb
 generalize (e.cells.zip e.vals).take j=l
 induction l generalizing m with
 |nil=>rfl
 |cons q l ih=>rw[cc,ih,aH]
structure EntIn (n:Nat) (e:Ent):Prop where
 len:e.vals.length=e.cells.length
 few:e.cells.length≤100
 cell:∀c∈e.cells,0≤c∧c<n
theorem put_r(m:List Int)(hm:m.length≤1000)(e:Ent)(he:EntIn m.length e)(Z:St)(G:Glob)(R:A→St→Prop)(h:R (.d (bu (oI m e))) Z):AC Tryz.prog G 112 [.d (bu m),.d (bO e)] Z R:=by
 obtain⟨hv,hf,hc⟩:=he
 unfold bO
 refine bM a9 Tryz.func112 rfl Tryz.ntmps112 (by simp only[go_sem]) λ hbd=> ?_
 simp only[ae,aj,Nat.reduceAdd,Nat.reduceSub,af,ag,ah,ak]
 try simp only[go_sem]
 refine bH (ml m hm _ _ _ ?_)
 simp only[bu,go_sem,ac]
 refine aS (λ k fr st=>∃j:Nat,j≤e.cells.length∧k=e.cells.length - j∧fr=%[.o,.o,.o,.ref Z.length 0,.o,.rs (Z.length+1) 1 0 m.length (some 3),dn j|D5 [.o,.o,.o,.o,.o,.o]]∧st=Z++[some (.cells [.d (bu e.cells),.d (bu e.vals)]),bY (yb m e j)]) e.cells.length _ (Wk.mask [3,5,6] ⟨0,by omega,by omega,rfl,rfl⟩) ?_
 rintro k fr st ⟨j,hj,hk,rfl,rfl⟩
 rcases aC j e.cells.length with hlt|hge
 ·have hd:decide ((j:Int)<(e.cells.length:Int))=true:=by simp;omega
  have w2:=bC j (by omega)
  have e1:=bW (l:=e.cells) hlt
  have e2:=bW (l:=e.vals) (j:=j) (by omega)
  have hcj:=hc (e.cells.getD j 0) (by rw[au,ap hlt];exact bI hlt)
  have hl:=BP m e j
  have hset:=kH (l:=yb m e j) (j:=(e.cells.getD j 0).toNat) (e.vals.getD j 0) (by omega)
  rw[←ya m e j hv hlt]at hset
  simp only[bu,go_sem,hd,w2,ac,ad,e1,e2]
  refine bb (.tk 13 0<| .done) (by kernel_rfl) ?_
  simp only[bu,bY,go_sem,w2,ac,ad,br,ci,e1,e2,hset,hl]
  exact⟨⟨by omega,by omega⟩,⟨by omega,by omega⟩,hcj,by omega,Wk.mask [3,5,6] ⟨e.cells.length - (j+1),by omega,j+1,by omega,rfl,rfl,rfl⟩⟩
 ·have hd:decide ((j:Int)<(e.cells.length:Int))=false:=by simp;omega
  have hw:yb m e j=oI m e:=by unfold yb oI;rw[aK (by rw[f9];omega)]
  rw[hw]
  simp only[bu,go_sem,hd,ac]
  refine de 1 1 0 ((oI m e).map iD) rfl (cJ _) ?_
  simp only[go_sem,ac]
  rw[if_pos (sF m e).symm]
  exact aQ hbd h
theorem view_r(c:Cfg)(t:Nat)(ht:t<c.buf.length)(hm:c.mem.length≤1000)(hf:(c.bufAt t).length≤100)(he:∀e∈c.bufAt t,EntIn c.mem.length e)(Z:St)(G:Glob)(R:A→St→Prop)(h:R (.d (bu (cT c t))) Z):AC Tryz.prog G 74 [.d (bX c),dn t] Z R:=by
 have eb:List.getD (c.buf.map cu) t default= .sl 2 ((c.bufAt t).map bO):=gH (l:=c.buf) ht
 obtain⟨B,hB⟩:∃B,c.bufAt t=B:=⟨_,rfl⟩
 have hv:cT c t=B.foldl oI c.mem:=by unfold cT;rw[hB]
 rw[hv]at h
 rw[hB]at eb hf he
 unfold bX
 refine bg a9 Tryz.func74 rfl Tryz.ntmps74 (by simp only[go_sem]) λ hbd=> ?_
 simp only[ae,aj,Nat.reduceAdd,Nat.reduceSub,af,ag,ah,ak]
 try simp only[go_sem]
 refine bH (kJ c.mem hm _ _ _ ?_)
 try simp only[go_sem]
 refine aS (λ k fr st=>∃j:Nat,j≤B.length∧k=B.length - j∧fr=%[.o,dn t,.ref Z.length 0,.o,.o,.d (bu ((B.take j).foldl oI c.mem)),dn j|D5 (D4 [])]∧st=Z++[some (.cells [.d (bu c.mem),.d (bu c.pos),.d (.sl 1 (c.buf.map cu))])]) B.length _ (Wk.mask [1,2,5,6] ⟨0,by omega,by omega,rfl,rfl⟩) ?_
 rintro k fr st ⟨j,hj,hk,rfl,rfl⟩
 rcases aC j B.length with hlt|hge
 ·have hd:decide ((j:Int)<(B.length:Int))=true:=by simp;omega
  have w2:=bC j (by omega)
  have e2:=gG (l:=B) hlt
  have hmem:B.getD j cD∈B:=by rw[au,ap hlt];exact bI hlt
  have hl:((B.take j).foldl oI c.mem).length=c.mem.length:=by
   generalize B.take j=L
   generalize c.mem=m0
   induction L generalizing m0 with
   |nil=>rfl
   |cons q L ih=>rw[cc,ih,sF]
  have hp:=put_r ((B.take j).foldl oI c.mem) (by omega) (B.getD j cD) (by rw[hl];exact he _ hmem)
  have hs:(B.take (j+1)).foldl oI c.mem=oI ((B.take j).foldl oI c.mem) (B.getD j cD):=by
   rw[bG cD hlt,dG];rfl
  unfold bO at hp
  simp only[go_sem,eb,e2,bO,hd,w2,ac,ad]
  refine⟨⟨by omega,by omega⟩,⟨by omega,by omega⟩,⟨by omega,by omega⟩,bH (hp _ _ _ ?_)⟩
  simp only[go_sem,w2]
  exact Wk.mask [1,2,5,6] ⟨B.length - (j+1),by omega,j+1,by omega,rfl,by rw[hs];rfl,rfl⟩
 ·have hd:decide ((j:Int)<(B.length:Int))=false:=by simp;omega
  rw[aK hge]
  simp only[go_sem,eb,hd,ac,ad]
  exact⟨⟨by omega,by omega⟩,aQ hbd h⟩
def mV(a b:Ent):Bool:=a.cells.any λ c=>b.cells.contains c
theorem A4(a b:Ent):mV a b=mV b a:=by
 rw[dD]
 simp only[mV,d8,dv]
 exact⟨λ ⟨x,h1,h2⟩=>⟨x,h2,h1⟩,λ ⟨x,h1,h2⟩=>⟨x,h2,h1⟩⟩
theorem gz{α:Type}{l:List α}{j:Nat}(d:α)(h:j<l.length){x:α}(hx:x∈l.take (j+1)):x∈l.take j∨x=l.getD j d:=by
 rw[bG d h]at hx
 rcases aW.1 hx with q|q
 ·exact .inl q
 ·exact .inr (cm.1 q)
theorem bv{α:Type}{l:List α}{j:Nat}(d:α)(h:j<l.length):l.getD j d∈l:=by
 rw[au,ap h];exact bI h
theorem meet_r(a b:Ent)(ha:a.cells.length≤100)(hb:b.cells.length≤100)(Z:St)(G:Glob)(R:A→St→Prop)(h:R (db (mV a b)) Z):AC Tryz.prog G 111 [.d (bO a),.d (bO b)] Z R:=by
 unfold bO
 refine bg a9 Tryz.func111 rfl Tryz.ntmps111 (by simp only[go_sem]) λ hbd=> ?_
 simp only[ae,aj,Nat.reduceAdd,Nat.reduceSub,af,ag,ah,ak]
 simp only[bu,go_sem,ac]
 refine aS (λ k fr st=>∃i:Nat,i≤a.cells.length∧k=a.cells.length - i∧(∀c∈a.cells.take i,c∉b.cells)∧fr=%[.o,.o,.ref Z.length 0,.ref (Z.length+1) 0,.o,dn i|D5 (D4 [.o,.o])]∧st=Z++[some (.cells [.d (bu a.cells),.d (bu a.vals)]),some (.cells [.d (bu b.cells),.d (bu b.vals)])]) a.cells.length _ (Wk.mask [2,3,5] ⟨0,by omega,by omega,by simp,rfl,rfl⟩) ?_
 rintro k fr st ⟨i,hi,hk,hno,rfl,rfl⟩
 rcases aC i a.cells.length with hlt|hge
 ·have hd:decide ((i:Int)<(a.cells.length:Int))=true:=by simp;omega
  have w2:=bC i (by omega)
  have e1:=bW (l:=a.cells) hlt
  simp only[bu,go_sem,hd,w2,ac,ad]
  refine aS (λ k fr st=>∃j:Nat,j≤b.cells.length∧k=b.cells.length - j∧(∀c∈b.cells.take j,c≠a.cells.getD i 0)∧fr=%[.o,.o,.ref Z.length 0,.ref (Z.length+1) 0,.o,dn i,dn j|D5 (D4 [.o])]∧st=Z++[some (.cells [.d (bu a.cells),.d (bu a.vals)]),some (.cells [.d (bu b.cells),.d (bu b.vals)])]) b.cells.length _ (Wk.mask [2,3,5,6] ⟨0,by omega,by omega,by simp,rfl,rfl⟩) ?_
  rintro k2 fr st ⟨j,hj,hk2,hne,rfl,rfl⟩
  rcases aC j b.cells.length with hl2|hg2
  ·have hd2:decide ((j:Int)<(b.cells.length:Int))=true:=by simp;omega
   have w3:=bC j (by omega)
   have e2:=bW (l:=b.cells) hl2
   simp only[bu,go_sem,hd2,w3,e1,e2,ac,ad]
   refine⟨⟨by omega,by omega⟩,⟨by omega,by omega⟩,λ q=>aQ hbd ?_,λ q=>Wk.mask [2,3,5,6] ⟨b.cells.length - (j+1),by omega,j+1,by omega,rfl,?_,rfl,rfl⟩⟩
   ·rw[show mV a b=true by
     simp only[mV,d8,dv]
     exact⟨_,bv 0 hlt,by rw[eq_of_beq q];exact bv 0 hl2⟩]at h
    exact h
   ·intro c hc
    rcases gz 0 hl2 hc with q2|q2
    ·exact hne c q2
    ·rw[q2];intro q3;rw[q3]at q;simp at q
  ·have hd2:decide ((j:Int)<(b.cells.length:Int))=false:=by simp;omega
   simp only[bu,go_sem,hd2,w2,ac,ad]
   refine Wk.mask [2,3,5] ⟨a.cells.length - (i+1),by omega,i+1,by omega,rfl,?_,rfl,rfl⟩
   intro c hc
   rcases gz 0 hlt hc with q2|q2
   ·exact hno c q2
   ·rw[q2];intro q3;rw[aK hg2]at hne;exact hne _ q3 rfl
 ·have hd:decide ((i:Int)<(a.cells.length:Int))=false:=by simp;omega
  simp only[bu,go_sem,hd,ac,ad]
  rw[aK hge]at hno
  rw[show mV a b=false by
   rw[fw];intro q
   simp only[mV,d8,dv]at q
   obtain⟨x,h1,h2⟩:=q
   exact hno x h1 h2]at h
  exact aQ hbd h
theorem Dr(l:List Ent)(e:Ent):nA l e=l.any λ o=>mV o e:=by
 unfold nA
 congr 1
 funext o
 rw[A4];rfl
theorem ready_r(m:Int)(l:List Ent)(hl:l.length≤100)(he:∀e∈l,e.cells.length≤100)(i:Nat)(hi:i<l.length)(Z:St)(G:Glob)(R:A→St→Prop)(h:R (db (eL m l i)) Z):AC Tryz.prog G 70 [di m,.d (cu l),dn i] Z R:=by
 unfold cu
 refine bD [3] a9 Tryz.func70 rfl Tryz.ntmps70 (by simp only[go_sem]) λ hbd=> ?_
 simp only[ae,aj,Nat.reduceAdd,Nat.reduceSub,af,ag,ah,ak]
 try simp only[go_sem]
 refine bc (λ fr st=>(i=0∨m=2)∧fr=%[.o,.d (.sl 2 (l.map bO)),dn i|D5 (D4 [.o])]∧st=Z) ?_ ?_
 ·try simp only[go_sem]
  refine⟨λ q=>cw ?_,λ q=>Wk.mask [1,2] ⟨?_,rfl,rfl⟩⟩
  ·have:eL m l i=false:=by
    simp only[aB,av,bne_iff_ne]at q
    simp only[eL]
    rw[show(i==0)=false by simp;omega,show(m==2)=false by simp;exact q.2];rfl
   rw[this]at h;exact h
  ·rcases cv i with z|z
   ·exact .inl z
   ·right
    rw[show decide ((0:Int)<(i:Int))=true by simp;omega]at q
    simpa using q
 rintro fr st ⟨hmi,rfl,rfl⟩
 have hr:eL m l i= !nA (l.take i) (l.getD i cD):=by
  unfold eL
  rcases hmi with z|z
  ·subst z;simp [nA]
  ·rw[show(m==2)=true by simp [z],ca]
   rcases cv i with z2|z2
   ·subst z2;simp [nA]
   ·rw[show(i==0)=false by simp;omega];rfl
 rw[hr,Dr]at h
 try simp only[go_sem]
 have ei:=gG (l:=l) hi
 have hei:=he _ (bv cD hi)
 generalize l.getD i cD=E at ei h hei
 refine aS (λ k fr st'=>∃j:Nat,j≤i∧k=i - j∧(∀o∈l.take j,mV o E=false)∧fr=%[.o,.d (.sl 2 (l.map bO)),dn i,.o,.o,.o,.o,dn j|D5 [.o,.o,.o,.o]]∧st'=st) i _ (Wk.mask [1,2,7] ⟨0,by omega,by omega,by simp,rfl,rfl⟩) ?_
 rintro k fr st' ⟨j,hj,hk,hno,rfl,rfl⟩
 rcases aC j i with hlt|hge
 ·have hd:decide ((j:Int)<(i:Int))=true:=by simp;omega
  have w2:=bC j (by omega)
  have ej:=gG (l:=l) (j:=j) (by omega)
  have hej:=he _ (bv cD (show j<l.length by omega))
  have ht:∀o∈l.take (j+1),o∈l.take j∨o=l.getD j cD:=λ o ho=>gz cD (by omega) ho
  have hmj:l.getD j cD∈l.take i:=by
   rw[au,←bL hlt,←au]
   exact bv cD (by rw[aP];omega)
  generalize l.getD j cD=O at ej hej ht hmj
  have mt:=meet_r O E hej hei
  unfold bO at mt
  simp only[go_sem,hd]
  refine bb (.tk 9 0<| .done) (by kernel_rfl) ?_
  simp only[go_sem,hd,ei,ej,bO,ac,ad]
  refine⟨⟨by omega,by omega⟩,⟨by omega,by omega⟩,bH (mt _ _ _ ?_)⟩
  simp only[go_sem,w2]
  refine⟨λ q=>cw ?_,λ q=>Wk.mask [1,2,7] ⟨i - (j+1),by omega,j+1,by omega,rfl,λ o ho=> ?_,rfl,rfl⟩⟩
  ·rw[show(l.take i).any (λ o=>mV o E)=true from d8.2 ⟨O,hmj,q⟩]at h
   exact h
  ·rcases ht o ho with z|z
   ·exact hno o z
   ·rw[z];exact q
 ·have hd:decide ((j:Int)<(i:Int))=false:=by simp;omega
  have:j=i:=by omega
  subst this
  simp only[go_sem,hd]
  rw[show(l.take j).any (λ o=>mV o E)=false from List.any_eq_false.2 λ o ho=>by rw[hno o ho];exact cX]at h
  exact cw h
theorem Good.cell{p:Prg}(hp:Good p){j:Nat}(h:j<p.cells.length):CelOk p (p.cells.getD j fU):=hp.ok.cells _ (bv _ h)
theorem Good.thr{p:Prg}(hp:Good p){j:Nat}(h:j<p.threads.length):ThrOk p j (p.threads.getD j fg):=hp.ok.threads j _ (by rw[au,ap h];rfl)
theorem Good.thrS{p:Prg}(hp:Good p){j:Nat}(h:j<p.threads.length):ThrSm (p.threads.getD j fg):=hp.sm.threads _ (bv _ h)
theorem pow8{w:Int}(h:1≤w∧w≤8):((2:Int)^w.toNat)=((2^w.toNat:Nat):Int):=by simp
theorem cU{α:Type}{l:List α}{j:Nat}(d:α)(h:j<l.length):l[j]? =some (l.getD j d):=by
 rw[au,ap h];rfl
theorem fits11_r(p:Prg)(hp:Good p)(m:Int)(c:Cfg)(hf:Fits p m c)(Z:St)(G:Glob)(R:A→St→Prop)(h:R (db true) Z):AC Tryz.prog G 77 [.d (bK p),.d (bu c.mem),.d (bu c.pos)] Z R:=by
 have hcn:=hp.sm.ncel
 have htn:=hp.sm.nthr
 have l1:=hf.mem.len
 have l2:=hf.npos
 have n1:((c.mem.length:Int)!=(p.cells.length:Int))=false:=by simp;omega
 have n2:((c.pos.length:Int)!=(p.threads.length:Int))=false:=by simp;omega
 unfold bK
 refine bD [3,8,13] a9 Tryz.func77 rfl Tryz.ntmps77 (by simp only[go_sem]) λ hbd=> ?_
 simp only[ae,aj,Nat.reduceAdd,Nat.reduceSub,af,ag,ah,ak]
 simp only[aY,bu,go_sem,n1,n2,ac]
 refine bc (λ fr st=>fr=%[.o,.d (bu c.mem),.d (bu c.pos),.ref Z.length 0|D7 (D5 [.o,.o,.o,.o])]∧st=Z++[bN p]) ?_ ?_
 ·simp only[aY,bu,go_sem,n1,n2,ac]
  exact Wk.mask [1,2,3] ⟨rfl,rfl⟩
 rintro fr st ⟨rfl,rfl⟩
 refine bc (λ fr st=>fr=%[.o,.d (bu c.mem),.d (bu c.pos),.ref Z.length 0|D7 (D5 [.o,.o,.o,.o])]∧st=Z++[bN p]) ?_ ?_
 ·simp only[aY,bu,go_sem,ac]
  refine aS (λ k fr st=>∃j:Nat,j≤c.mem.length∧k=c.mem.length - j∧fr=%[.o,.d (bu c.mem),.d (bu c.pos),.ref Z.length 0,.o,.o,.o,dn j|D7 (D5 [])]∧st=Z++[bN p]) c.mem.length _ (Wk.mask [1,2,3,7] ⟨0,by omega,by omega,rfl,rfl⟩) ?_
  rintro k fr st ⟨j,hj,hk,rfl,rfl⟩
  rcases aC j c.mem.length with hlt|hge
  ·have hd:decide ((j:Int)<(c.mem.length:Int))=true:=by simp;omega
   have w2:=bC j (by omega)
   have e1:=bW (l:=c.mem) hlt
   have e2:=iM (l:=p.cells) (j:=j) (by omega)
   have hv:=hf.mem.val j _ (cU 0 hlt)
   have hc:=(hp.cell (j:=j) (by omega)).w
   have hpc:p.cell j=p.cells.getD j fU:=by simp [Prg.cell]
   rw[hpc]at hv
   generalize p.cells.getD j fU=C at e2 hv hc
   rw[pow8 hc]at hv
   generalize c.mem.getD j 0=v at e1 hv
   simp only[fb]at e2
   have d1:decide (v<0)=false:=by simp;omega
   have d2:decide (v≥((2^C.w.toNat:Nat):Int))=false:=by rw[ay];omega
   have d3:decide (((2^C.w.toNat:Nat):Int)≤v)=false:=by rw[ay];omega
   simp only[aY,bu,go_sem,hd,ac]
   refine bb (.tk 8 0<| .tk 6 10<| .pure 16<| .tk 2 8<| .tk 2 17<| .done) (by kernel_rfl) ?_
   simp only[aY,bu,go_sem,e1,e2,d1,ac,ad]
   refine⟨⟨by omega,by omega⟩,⟨by omega,by omega⟩,Go.Ab.exQ (iD ((2^C.w.toNat:Nat):Int)) ⟨?_,?_⟩⟩
   ·simp only[go_sem]
    exactλ Z'=>bH (yX C.w (by omega) _ _ _ ⟨rfl,rfl⟩)
   simp only[aY,bu,go_sem,e1,e2,d1,d2,d3,w2,ac,ad]
   exact⟨⟨by omega,by omega⟩,Wk.mask [1,2,3,7] ⟨c.mem.length - (j+1),by omega,j+1,by omega,rfl,rfl,rfl⟩⟩
  ·have hd:decide ((j:Int)<(c.mem.length:Int))=false:=by simp;omega
   simp only[aY,bu,go_sem,hd,ac]
   exact Wk.mask [1,2,3] ⟨rfl,rfl⟩
 rintro fr st ⟨rfl,rfl⟩
 refine bc (λ fr st=>fr=D7 (D5 (D4 []))∧st=Z) ?_ ?_
 ·simp only[aY,bu,go_sem,ac]
  refine aS (λ k fr st=>∃j:Nat,j≤c.pos.length∧k=c.pos.length - j∧fr=%[.o,.d (bu c.mem),.d (bu c.pos),.ref Z.length 0,.o,.o,.o,.o,dn j|D7 (D4 [.o,.o,.o,.o,.o,.o,.o])]∧st=Z++[bN p]) c.pos.length _ (Wk.mask [1,2,3,8] ⟨0,by omega,by omega,rfl,rfl⟩) ?_
  rintro k fr st ⟨j,hj,hk,rfl,rfl⟩
  rcases aC j c.pos.length with hlt|hge
  ·have hd:decide ((j:Int)<(c.pos.length:Int))=true:=by simp;omega
   have w2:=bC j (by omega)
   have e1:=bW (l:=c.pos) hlt
   have e2:=fe (l:=p.threads) (j:=j) (by omega)
   obtain⟨v1,v2,v3⟩:=hf.pos j _ (cU 0 hlt)
   change _<(p.threads.getD j fg).points at v2
   change _→(p.threads.getD j fg).asleep=true∧_ at v3
   generalize p.threads.getD j fg=x at e2 v2 v3
   generalize c.pos.getD j 0=v at e1 v1 v2 v3
   have d1:decide (v< -1)=false:=by simp;omega
   have d3:decide (x.points≤v)=false:=by rw[ay];omega
   have d2:decide (v≥x.points)=false:=by rw[ay];omega
   simp only[bu,go_sem,hd,ac]
   refine bb (.tk 34 0<| .done) (by kernel_rfl) ?_
   rcases Bool.eq_false_or_eq_true (v== -1)with v4|v4
   ·have v5:=(v3 (eq_of_beq v4)).1
    simp only[bu,go_sem,c8,e1,e2,d1,d2,d3,v4,v5,w2,ac,ad]
    exact⟨⟨by omega,by omega⟩,⟨by omega,by omega⟩,⟨by omega,by omega⟩,⟨by omega,by omega⟩,⟨by omega,by omega⟩,Wk.mask [1,2,3,8] ⟨c.pos.length - (j+1),by omega,j+1,by omega,rfl,rfl,rfl⟩⟩
   ·simp only[bu,go_sem,c8,e1,e2,d1,d2,d3,v4,w2,ac,ad]
    exact⟨⟨by omega,by omega⟩,⟨by omega,by omega⟩,⟨by omega,by omega⟩,⟨by omega,by omega⟩,Wk.mask [1,2,3,8] ⟨c.pos.length - (j+1),by omega,j+1,by omega,rfl,rfl,rfl⟩⟩
  ·have hd:decide ((j:Int)<(c.pos.length:Int))=false:=by simp;omega
   simp only[aY,bu,go_sem,hd,ac]
   exact Wk.keep [] [] (by decide) (aE _) hbd ⟨by simp only[go_sem],by simp only[go_sem,bt]⟩
 rintro fr st ⟨rfl,rfl⟩
 try simp only[go_sem]
 exact cw h
theorem EntOk.few{p:Prg}{e:Ent}(he:EntOk p e):e.cells.length≤p.cells.length:=by
 refine v7 he.nodup λ c hc=> ?_
 obtain⟨i,hi⟩:=fT.1 hc
 have:=(he.cell i c hi).1
 simp only[Prg.shB,kj,aB,av]at this
 exact this.1
theorem entry_r(p:Prg)(hp:Good p)(e:Ent)(he:EntOk p e)(Z:St)(G:Glob)(R:A→St→Prop)(h:R (db true) Z):AC Tryz.prog G 78 [.d (bK p),.d (bO e)] Z R:=by
 have hcn:=hp.sm.ncel
 have hfew:=he.few
 have hl:=he.len
 have hpos:0<e.cells.length:=by have:=he.pos;rcases h0:e.cells with _|⟨a,r⟩;exact absurd h0 this;simp
 have n1:((e.cells.length:Int)==0)=false:=by rw[ck];omega
 have n2:((e.cells.length:Int)!=(e.vals.length:Int))=false:=by rw[bne_eq_false_iff_eq];omega
 unfold bK bO
 refine bD [3,14] a9 Tryz.func78 rfl Tryz.ntmps78 (by simp only[go_sem]) λ hbd=> ?_
 simp only[ae,aj,Nat.reduceAdd,Nat.reduceSub,af,ag,ah,ak]
 simp only[aY,bu,go_sem,n1,n2,ac]
 refine bc (λ fr st=>fr=%[.o,.o,.ref Z.length 0,.ref (Z.length+1) 0|D7 (D5 [.o,.o,.o])]∧st=Z++[bN p,some (.cells [.d (bu e.cells),.d (bu e.vals)])]) ?_ ?_
 ·simp only[aY,bu,go_sem,n1,n2,ac]
  exact Wk.mask [2,3] ⟨rfl,rfl⟩
 rintro fr st ⟨rfl,rfl⟩
 refine bc (λ fr st=>fr=D7 (D5 [.o,.o,.o,.o,.o,.o,.o])∧st=Z) ?_ ?_
 ·simp only[aY,bu,go_sem,ac]
  refine aS (λ k fr st=>∃j:Nat,j≤e.cells.length∧k=e.cells.length - j∧fr=%[.o,.o,.ref Z.length 0,.ref (Z.length+1) 0,.o,dn j|D7 (D5 [.o])]∧st=Z++[bN p,some (.cells [.d (bu e.cells),.d (bu e.vals)])]) e.cells.length _ (Wk.mask [2,3,5] ⟨0,by omega,by omega,rfl,rfl⟩) ?_
  rintro k fr st ⟨j,hj,hk,rfl,rfl⟩
  rcases aC j e.cells.length with hlt|hge
  ·have hd:decide ((j:Int)<(e.cells.length:Int))=true:=by simp;omega
   have w2:=bC j (by omega)
   have e1:=bW (l:=e.cells) hlt
   have e3:=bW (l:=e.vals) (j:=j) (by omega)
   obtain⟨hsh,hgh⟩:=he.cell j _ (cU 0 hlt)
   have hv:=he.val j _ _ (cU 0 hlt) (cU 0 (by omega))
   have hne:∀i,i<j→e.cells.getD i 0≠e.cells.getD j 0:=λ i hi q=>by
    have:=(dO.1 he.nodup) i j (by omega) hlt hi
    rw[au,au,ap hlt,ap (show i<e.cells.length by omega)]at q
    exact this q
   generalize hcj:e.cells.getD j 0=cj at e1 hsh hgh hv hne
   obtain⟨c01,hth⟩:=eJ.1 hsh
   obtain⟨c0,c1⟩:=c01
   unfold Prg.cell at hgh hv hth
   have e2:=iM (l:=p.cells) (j:=cj.toNat) (by omega)
   have hc:=(hp.cell (j:=cj.toNat) (by omega)).w
   obtain⟨C,hC⟩:∃C,p.cells.getD cj.toNat fU=C:=⟨_,rfl⟩
   rw[hC]at e2 hv hc hgh hth
   rw[pow8 hc]at hv
   generalize e.vals.getD j 0=v at e3 hv
   simp only[fb]at e2
   have d1:kj cj p.cells.length=true:=by simp [kj];omega
   have d2:kj v ((2^C.w.toNat:Nat):Int)=true:=by simp only[kj,av];exact hv
   have d3:(C.thread != -1)=false:=by rw[hth];rfl
   have d4:(decide (0<j)==decide ((0:Int)<(j:Int)))=true:=by
    rw[show decide ((0:Int)<(j:Int))=decide (0<j)by apply decide_eq_decide.2;omega];simp
   simp only[aY,bu,go_sem,hd,e1,ac,ad]
   refine⟨⟨by omega,by omega⟩,?_⟩
   refine bb (.tk 4 0<| .pure 4<| .tk 22 5<| .take 29<| .tk 6 32<| .pure 38<| .tk 2 27<| .tk 2 30<| .pure 39<| .tk 2 40<| .done) (by kernel_rfl) ?_
   simp only[aY,bu,go_sem,ac]
   refine mN (db true) ⟨λ Z'=>bH (k8 _ _ _ _ _ ⟨by rw[d1],rfl⟩),?_⟩
   simp only[aY,bu,go_sem,e2,e3,d3,hgh,d4,ac,ad]
   refine⟨⟨by omega,by omega⟩,⟨by omega,by omega⟩,⟨by omega,by omega⟩,Go.Ab.exQ (iD ((2^C.w.toNat:Nat):Int)) ⟨?_,?_⟩⟩
   ·simp only[go_sem]
    exactλ Z'=>bH (yX C.w (by omega) _ _ _ ⟨rfl,rfl⟩)
   simp only[aY,bu,go_sem,e2,e3,d3,hgh,d4,ac,ad]
   refine⟨⟨by omega,by omega⟩,Go.Ab.exQ (.bool true) ⟨?_,?_⟩⟩
   ·simp only[go_sem]
    exactλ Z'=>bH (k8 _ _ _ _ _ ⟨by rw[d2],rfl⟩)
   simp only[aY,bu,go_sem,e2,e3,d3,hgh,d4,ac,ad]
   refine aS (λ k fr st=>∃i:Nat,i≤j∧k=j - i∧fr=%[.o,.o,.ref Z.length 0,.ref (Z.length+1) 0,.o,dn j,di cj,dn i|D7 (D4 [.o,.o,.o,.o,.o,.o,.o])]∧st=Z++[bN p,some (.cells [.d (bu e.cells),.d (bu e.vals)])]) j _ (Wk.mask [2,3,5,6,7] ⟨0,by omega,by omega,rfl,rfl⟩) ?_
   rintro k2 fr st ⟨i,hi,hk2,rfl,rfl⟩
   rcases aC i j with hl2|hg2
   ·have hd2:decide ((i:Int)<(j:Int))=true:=by simp;omega
    have w3:=bC i (by omega)
    have e4:=bW (l:=e.cells) (j:=i) (by omega)
    have hq:(e.cells.getD i 0==cj)=false:=by rw[ck];exact hne i hl2
    simp only[aY,bu,go_sem,hd2,w3,e4,hq,ac,ad]
    exact⟨⟨by omega,by omega⟩,Wk.mask [2,3,5,6,7] ⟨j - (i+1),by omega,i+1,by omega,rfl,rfl,rfl⟩⟩
   ·have hd2:decide ((i:Int)<(j:Int))=false:=by simp;omega
    simp only[aY,bu,go_sem,hd2,w2,ac,ad]
    exact Wk.mask [2,3,5] ⟨e.cells.length - (j+1),by omega,j+1,by omega,rfl,rfl,rfl⟩
  ·have hd:decide ((j:Int)<(e.cells.length:Int))=false:=by simp;omega
   simp only[aY,bu,go_sem,hd,ac]
   exact Wk.keep [] [] (by decide) (aE _) hbd ⟨by simp only[go_sem],by simp only[go_sem,bt]⟩
 rintro fr st ⟨rfl,rfl⟩
 try simp only[go_sem]
 exact cw h
theorem qT(c:Cfg):fO c=true↔∀l∈c.buf,l=[]:=by
 simp [fO]
theorem quiet_r(c:Cfg)(hn:c.buf.length≤1000)(Z:St)(G:Glob)(R:A→St→Prop)(h:R (db (fO c)) Z):AC Tryz.prog G 36 [.d (bX c)] Z R:=by
 unfold bX
 refine bg a9 Tryz.func36 rfl Tryz.ntmps36 (by simp only[go_sem]) λ hbd=> ?_
 simp only[ae,aj,Nat.reduceAdd,Nat.reduceSub,af,ag,ah,ak]
 simp only[go_sem,ac]
 refine aS (λ k fr st=>∃j:Nat,j≤c.buf.length∧k=c.buf.length - j∧(∀l∈c.buf.take j,l=[])∧fr=%[.o,.ref Z.length 0,.o,dn j|D4 [.o,.o,.o,.o,.o,.o]]∧st=Z++[some (.cells [.d (bu c.mem),.d (bu c.pos),.d (.sl 1 (c.buf.map cu))])]) c.buf.length _ (Wk.mask [1,3] ⟨0,by omega,by omega,by simp,rfl,rfl⟩) ?_
 rintro k fr st ⟨j,hj,hk,hno,rfl,rfl⟩
 rcases aC j c.buf.length with hlt|hge
 ·have hd:decide ((j:Int)<(c.buf.length:Int))=true:=by simp;omega
  have w2:=bC j (by omega)
  have eb:List.getD (c.buf.map cu) j default= .sl 2 ((c.buf.getD j []).map bO):=gH (l:=c.buf) hlt
  have ht:∀o∈c.buf.take (j+1),o∈c.buf.take j∨o=c.buf.getD j []:=λ o ho=>gz [] hlt ho
  have hm:=bv ([]:List Ent) hlt
  generalize c.buf.getD j []=B at eb ht hm
  simp only[go_sem,hd,w2,eb,ac,ad]
  refine⟨⟨by omega,by omega⟩,λ q=>aQ hbd ?_,λ q=>Wk.mask [1,3] ⟨c.buf.length - (j+1),by omega,j+1,by omega,rfl,λ l hl=> ?_,rfl,rfl⟩⟩
  ·have:fO c=false:=by
    rw[fw];intro z
    have:=(qT c).1 z B hm
    subst this
    simp at q
   rw[this]at h;exact h
  ·rcases ht l hl with z|z
   ·exact hno l z
   ·rw[z]
    have:B.length=0:=by simpa using q
    exact cM.1 this
 ·have hd:decide ((j:Int)<(c.buf.length:Int))=false:=by simp;omega
  rw[aK hge]at hno
  rw[(qT c).2 hno]at h
  simp only[go_sem,hd,ac]
  exact aQ hbd h
theorem is_r(p:Prg)(hp:Good p)(m:Int)(c:Cfg)(hf:Fits p m c)(Z:St)(G:Glob)(R:A→St→Prop)(h:R (db true) Z):AC Tryz.prog G 35 [.d (bK p),.d (bX c)] Z R:=by
 have hcn:=hp.sm.ncel
 have htn:=hp.sm.nthr
 have hnb:=hf.nbuf
 have hnp:=hf.npos
 have f11:=fits11_r p hp m c hf
 have en:=entry_r p hp
 have n1:((c.buf.length:Int)!=(p.threads.length:Int))=false:=by rw[bne_eq_false_iff_eq];omega
 unfold bK bX at*
 refine bD [3,13] a9 Tryz.func35 rfl Tryz.ntmps35 (by simp only[go_sem]) λ hbd=> ?_
 simp only[ae,aj,Nat.reduceAdd,Nat.reduceSub,af,ag,ah,ak]
 simp only[go_sem,ac]
 refine bc (λ fr st=>fr=%[.o,.o,.ref Z.length 0,.ref (Z.length+1) 0|D7 [.o,.o,.o,.o,.o,.o,.o]]∧st=Z++[bN p,some (.cells [.d (bu c.mem),.d (bu c.pos),.d (.sl 1 (c.buf.map cu))])]) ?_ ?_
 ·simp only[go_sem,n1,ac]
  refine bH (f11 _ _ _ ?_)
  simp only[go_sem,n1,ac]
  exact Wk.mask [2,3] ⟨rfl,rfl⟩
 rintro fr st ⟨rfl,rfl⟩
 refine bc (λ fr st=>fr=D7 (D4 [.o,.o,.o])∧st=Z) ?_ ?_
 ·simp only[go_sem,ac]
  refine aS (λ k fr st=>∃j:Nat,j≤c.buf.length∧k=c.buf.length - j∧fr=%[.o,.o,.ref Z.length 0,.ref (Z.length+1) 0,.o,dn j|D7 [.o,.o,.o,.o,.o]]∧st=Z++[bN p,some (.cells [.d (bu c.mem),.d (bu c.pos),.d (.sl 1 (c.buf.map cu))])]) c.buf.length _ (Wk.mask [2,3,5] ⟨0,by omega,by omega,rfl,rfl⟩) ?_
  rintro k fr st ⟨j,hj,hk,rfl,rfl⟩
  rcases aC j c.buf.length with hlt|hge
  ·have hd:decide ((j:Int)<(c.buf.length:Int))=true:=by simp;omega
   have w2:=bC j (by omega)
   have eb:List.getD (c.buf.map cu) j default= .sl 2 ((c.buf.getD j []).map bO):=gH (l:=c.buf) hlt
   have ep:=bW (l:=c.pos) (j:=j) (by omega)
   obtain⟨hfw,hok⟩:=hf.few j _ (cU [] hlt)
   have hps:=(hf.pos j _ (cU 0 (by omega))).2.2
   change _→_∧c.buf.getD j []=[]at hps
   generalize c.buf.getD j []=B at eb hfw hok hps
   generalize c.pos.getD j 0=v at ep hps
   have d1:decide ((B.length:Int) > 3)=false:=by simp;omega
   have d2:decide ((3:Int)<(B.length:Int))=false:=by simp;omega
   simp only[bu,go_sem,hd,w2,d1,d2,eb,ep,ac,ad]
   refine⟨⟨by omega,by omega⟩,⟨by omega,by omega⟩,λ q=>⟨q,by omega,by omega⟩,λ q=> ?_,λ _=> ?_⟩
   ·exfalso
    simp only[aB,av]at q
    have:=(hps (eq_of_beq q.2)).2
    subst this
    simp at q
   refine aS (λ k fr st=>∃i:Nat,i≤B.length∧k=B.length - i∧fr=%[.o,.o,.ref Z.length 0,.ref (Z.length+1) 0,.o,dn j,dn i|D7 [.o,.o,.o,.o]]∧st=Z++[bN p,some (.cells [.d (bu c.mem),.d (bu c.pos),.d (.sl 1 (c.buf.map cu))])]) B.length _ (Wk.mask [2,3,5,6] ⟨0,by omega,by omega,rfl,rfl⟩) ?_
   rintro k2 fr st ⟨i,hi,hk2,rfl,rfl⟩
   rcases aC i B.length with hl2|hg2
   ·have hd2:decide ((i:Int)<(B.length:Int))=true:=by simp;omega
    have w3:=bC i (by omega)
    have ei:=gG (l:=B) hl2
    have hi:=en _ (hok _ (bv cD hl2))
    generalize B.getD i cD=E at ei hi
    unfold bO at hi
    simp only[bu,go_sem,hd2,w3,eb,ac,ad]
    refine⟨⟨by omega,by omega⟩,?_⟩
    refine bb (.tk 9 0<| .pure 9<| .take 10<| .done) (by kernel_rfl) ?_
    simp only[bu,go_sem,hd2,w3,eb,ei,bO,ac,ad]
    refine⟨⟨by omega,by omega⟩,⟨by omega,by omega⟩,mN (db true) ⟨λ Z'=> ?_,?_⟩⟩
    ·exact bH (hi _ _ _ ⟨rfl,rfl⟩)
    simp only[go_sem,w3]
    exact Wk.mask [2,3,5,6] ⟨B.length - (i+1),by omega,i+1,by omega,rfl,rfl,rfl⟩
   ·have hd2:decide ((i:Int)<(B.length:Int))=false:=by simp;omega
    simp only[bu,go_sem,hd2,w2,eb,ac,ad]
    exact⟨⟨by omega,by omega⟩,Wk.mask [2,3,5] ⟨c.buf.length - (j+1),by omega,j+1,by omega,rfl,rfl,rfl⟩⟩
  ·have hd:decide ((j:Int)<(c.buf.length:Int))=false:=by simp;omega
   simp only[bu,go_sem,hd,ac]
   exact Wk.keep [] [] (by decide) (aE _) hbd ⟨by simp only[go_sem],by simp only[go_sem,bt]⟩
 rintro fr st ⟨rfl,rfl⟩
 try simp only[go_sem]
 exact cw h
theorem Bh(p:Prg)(hp:Good p)(m:Int)(hm:0≤m∧m≤2)(c:Cfg)(hf:Fits p m c)(Z:St)(G:Glob)(R:A→St→Prop)(h:R (db true) Z):AC Tryz.prog G 14 [.d (bK p),di m,.d (bX c)] Z R:=by
 have htn:=hp.sm.nthr
 have hnb:=hf.nbuf
 have isr:=is_r p hp m c hf
 have okr:=ok_r p hp.sm hp.nm
 have qr:=quiet_r c (by omega)
 have d1:decide (m<0)=false:=by simp;omega
 have d2:decide (m > 2)=false:=by simp;omega
 have d3:decide ((2:Int)<m)=false:=by simp;omega
 unfold bK bX at*
 refine bD [3] a9 Tryz.func14 rfl Tryz.ntmps14 (by simp only[go_sem]) λ hbd=> ?_
 simp only[ae,aj,Nat.reduceAdd,Nat.reduceSub,af,ag,ah,ak]
 simp only[go_sem,d1,d2,d3]
 refine bc (λ fr st=>fr=%[.o,di m,.o,.o,.o,.ref (Z.length+1) 0|D5 (D4 [])]∧st=Z++[bN p,some (.cells [.d (bu c.mem),.d (bu c.pos),.d (.sl 1 (c.buf.map cu))])]) ?_ ?_
 ·simp only[go_sem,d1,d2,d3]
  refine exs ⟨λ _=> ?_,λ q=>Bool.noConfusion q⟩
  refine bH (okr _ _ _ λ b hb=> ?_)
  rw[hb.2 hp.ok]
  simp only[go_sem,d3]
  refine exs ⟨λ _=> ?_,λ q=>Bool.noConfusion q⟩
  simp only[go_sem,d3]
  refine bH (isr _ _ _ ?_)
  try simp only[go_sem]
  exact Wk.mask [1,5] ⟨rfl,rfl⟩
 rintro fr st ⟨rfl,rfl⟩
 try simp only[go_sem]
 refine gO (.bool (fO c)) ⟨λ hg=> ?_,?_⟩
 ·simp only[go_sem]
  exact⟨hg,bH (qr _ _ _ ⟨rfl,rfl⟩)⟩
 try simp only[go_sem]
 have hq:(m !=0||fO c)=true:=by
  rcases Decidable.em (m=0)with z|z
  ·rw[(qT c).2 (hf.quiet z)];simp
  ·rw[show(m !=0)=true by simp [z]];rfl
 rw[hq]
 exact aQ hbd h
theorem sT{G:Glob}(hG:G.g 0=some cB)(p:Prg)(hp:Good p)(Z:St)(R:A→St→Prop)(h:R (.tup [di 0,di (-1),di (-1)]) Z):AC Tryz.prog G 60 [.d (bK p)] Z R:=by
 have htn:=hp.sm.nthr
 have li:=limits_p p hp.sm
 have ce:=cells_p p hp.sm hp.ok hp.nm
 have mo:=Dh hG p hp.sm hp.ok hp.nm
 have lo:=locks_p hG p hp.sm hp.ok
 have z0:((0:Int)!=0)=false:=rfl
 unfold bK at*
 refine iN [5,12] a9 Tryz.func60 rfl Tryz.ntmps60 (by simp only[go_sem]) λ hbd=> ?_
 simp only[ae,aj,Nat.reduceAdd,Nat.reduceSub,af,ag,ah,ak]
 try simp only[go_sem]
 refine bc (λ fr st=>fr=%[.o,.ref Z.length 0,.o,.o,.o,.ref (Z.length+1) 0|D6 (D5 (D4 [.o,.o,.o,.o]))]∧st=Z++[bN p,bN p]) ?_ ?_
 ·try simp only[go_sem]
  refine bH (li _ _ _ ?_)
  simp only[go_sem,z0]
  exact Wk.mask [1,5] ⟨rfl,rfl⟩
 rintro fr st ⟨rfl,rfl⟩
 refine bc (λ fr st=>fr=%[.o,.ref Z.length 0,.o,.o,.o,.ref (Z.length+1) 0|D6 (D5 (D4 [.o,.o,.o,.o]))]∧st=Z++[bN p,bN p]) ?_ ?_
 ·try simp only[go_sem]
  refine aS (λ k fr st=>∃j:Nat,j≤3∧k=3 - j∧fr=%[.o,.ref Z.length 0,.o,.o,.o,.ref (Z.length+1) 0|D5 (D4 %[.o,.o,.o,.agg [.fn (.func 95) [.d (D.agg [aY p.cells,D.sl 11 (List.map iH p.modules),D.sl 6 (List.map iZ p.locks),D.sl 7 (List.map c8 p.threads)])] [],.fn (.func 96) [.d (D.agg [aY p.cells,D.sl 11 (List.map iH p.modules),D.sl 6 (List.map iZ p.locks),D.sl 7 (List.map c8 p.threads)])] [],.fn (.func 97) [.d (D.agg [aY p.cells,D.sl 11 (List.map iH p.modules),D.sl 6 (List.map iZ p.locks),D.sl 7 (List.map c8 p.threads)])] []],dn j|D5 (D4 [.o,.o,.o,.o,.o,.o,.o])])]∧st=Z++[bN p,bN p]) 3 _ (Wk.mask [1,5,33,34] ⟨0,by omega,by omega,rfl,rfl⟩) ?_
  rintro k fr st ⟨j,hj,hk,rfl,rfl⟩
  have hj':j=0∨j=1∨j=2∨j=3:=by omega
  have n0:((0:Nat):Int)=0:=rfl
  have n1:((1:Nat):Int)=1:=rfl
  have n2:((2:Nat):Int)=2:=rfl
  have n3:((3:Nat):Int)=3:=rfl
  rcases hj' with rfl|rfl|rfl|rfl
  ·have dd:decide ((0:Int)<3)=true:=rfl
   have w:IntKind.i64.wrap ((0:Int)+1)=((1:Nat):Int):=rfl
   have wz:IntKind.i64.wrap 1=((1:Nat):Int):=rfl
   have i1:Int.toNat 1=1:=rfl
   have i2:Int.toNat 2=2:=rfl
   simp only[go_sem,n0,dd,i1,i2,bZ]
   refine⟨⟨by omega,by omega⟩,bH (ce _ _ _ ?_)⟩
   simp only[go_sem,n0,z0,w]
   exact Wk.mask [1,5,33,34] ⟨3 - 1,by omega,1,by omega,rfl,rfl,rfl⟩
  ·have dd:decide ((1:Int)<3)=true:=rfl
   have w:IntKind.i64.wrap ((1:Int)+1)=((2:Nat):Int):=rfl
   have wz:IntKind.i64.wrap 1=((1:Nat):Int):=rfl
   have i1:Int.toNat 1=1:=rfl
   have i2:Int.toNat 2=2:=rfl
   simp only[go_sem,n1,dd,i1,i2,bZ]
   refine⟨⟨by omega,by omega⟩,bH (mo _ _ ?_)⟩
   simp only[go_sem,n1,z0,w]
   exact Wk.mask [1,5,33,34] ⟨3 - 2,by omega,2,by omega,rfl,rfl,rfl⟩
  ·have dd:decide ((2:Int)<3)=true:=rfl
   have w:IntKind.i64.wrap ((2:Int)+1)=((3:Nat):Int):=rfl
   have wz:IntKind.i64.wrap 1=((1:Nat):Int):=rfl
   have i1:Int.toNat 1=1:=rfl
   have i2:Int.toNat 2=2:=rfl
   simp only[go_sem,n2,dd,i1,i2,bZ]
   refine⟨⟨by omega,by omega⟩,bH (lo _ _ ?_)⟩
   simp only[go_sem,n2,z0,w]
   exact Wk.mask [1,5,33,34] ⟨3 - 3,by omega,3,by omega,rfl,rfl,rfl⟩
  ·have dd:decide ((3:Int)<3)=false:=rfl
   simp only[go_sem,n3,dd]
   exact Wk.mask [1,5] ⟨rfl,rfl⟩
 rintro fr st ⟨rfl,rfl⟩
 simp only[go_sem,ac]
 refine aS (λ k fr st=>∃j:Nat,j≤p.threads.length∧k=p.threads.length - j∧fr=%[.o,.o,.o,.o,.o,.ref (Z.length+1) 0,.o,.o,.o,.o,.o,.mapr (Z.length+2)|D6 %[.o,.d (.sl 7 (p.threads.map c8)),dn p.threads.length,dn j|D5 [.o,.o]]]∧st=Z++[bN p,bN p,some (.map (lj ((p.threads.take j).map Thr.name)))]) p.threads.length _ (Wk.mask [5,11,45,46,47] ⟨0,by omega,by omega,rfl,rfl⟩) ?_
 rintro k fr st ⟨j,hj,hk,rfl,rfl⟩
 rcases aC j p.threads.length with hlt|hge
 ·have hd:decide ((j:Int)<(p.threads.length:Int))=true:=by simp;omega
  have w2:=bC j (by omega)
  have e1:=fe (l:=p.threads) hlt
  have hx:=hp.thr hlt
  have hs:=hp.thrS hlt
  have hnn:=hp.nm.threads _ (bv fg hlt)
  have hfr:(p.threads.getD j fg).name∉(p.threads.take j).map Thr.name:=nB fg hlt hp.ok.tnames
  have hsn:(p.threads.take (j+1)).map Thr.name=(p.threads.take j).map Thr.name++[(p.threads.getD j fg).name]:=by rw[bG fg hlt,aJ];rfl
  generalize p.threads.getD j fg=x at e1 hx hs hnn hfr hsn
  have th:=thread_p hG p hp.sm j x hx hs hnn _ hfr
  unfold bK at th
  simp only[c8]at th
  simp only[go_sem,c8,hd,w2,e1,ac,ad]
  refine⟨⟨by omega,by omega⟩,bH (th _ _ (by simp) _ ?_)⟩
  simp only[go_sem,z0,w2,←hsn,ac,ad]
  refine Wk.keep [5,11,45,46,47] [0,1,2] (by decide) (aE _) hbd ⟨p.threads.length - (j+1),by omega,j+1,by omega,rfl,by simp only[go_sem],by simp only[go_sem,nq]⟩
 ·have hd:decide ((j:Int)<(p.threads.length:Int))=false:=by simp;omega
  simp only[go_sem,hd,ac]
  exact dq hbd rfl h
end
end Go.Proofs.YtdpdbokicanpoaaGreatDoor
