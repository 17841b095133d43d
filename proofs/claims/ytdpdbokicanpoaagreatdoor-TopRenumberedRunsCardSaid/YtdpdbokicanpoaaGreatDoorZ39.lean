import Derived.Test.YtdpdbokicanpoaaGreatDoorZ38
import Derived.Test.YtdpdbokicanpoaaGreatDoorAbRow
import Derived.Stop.Joined
import Derived.Test.YtdpdbokicanpoaaGreatDoorRA
import Derived.Test.YtdpdbokicanpoaaGreatDoorCards
import Derived.Test.YtdpdbokicanpoaaGreatDoorTie
set_option linter.unusedSimpArgs false
set_option linter.unusedVariables false
set_option maxHeartbeats 64000000
set_option maxRecDepth 100000
namespace Go.Proofs.YtdpdbokicanpoaaGreatDoor
section
open Go Go.Ab
theorem nH:Good gN where
 sm:=DH
 ok:=xN
 nm:=⟨λ c hc=>by
   simp only[gN,aV,bi,or_false]at hc
   rcases hc with rfl|rfl|rfl|rfl<;> simp [reachBytes],
  λ m hm=>by
   simp only[gN,aV,bi,or_false]at hm
   subst hm
   simp [reachBytes],
  λ x hx=>by
   simp only[gN,aV,bi,or_false]at hx
   rcases hx with rfl|rfl<;> simp [reachBytes,iu]⟩
theorem yV{G:Glob}(hG:G.g 0=some cB)(hpan:∀a s,¬G.pan a s)(Z:St)(R:A→St→Prop)(h:R (db true) Z):AC Tryz.prog G 6 [] Z R:=by
 have cr:=DE
 have hE:GolOk gN xY:=isE_ok nH z6
 have is:∀(Z:St) (G:Glob) (R:A→St→Prop),R (.d xY.d) Z→AC Tryz.prog G 23 [.d (bK gN),.d (bu qv)] Z R:=r7Is_p gN nH qv z6
 have f0:=BK hG hpan gN nH 0 (by omega) xY hE 600 (by omega)
 have f1:=BK hG hpan gN nH 1 (by omega) xY hE 600 (by omega)
 have ru:=Run_p hG hpan gN nH 1 (by omega)
 refine bD [3,4,5,6] a9 Tryz.func6 rfl Tryz.ntmps6 (by simp only[go_sem]) λ hbd=> ?_
 simp only[ae,aj,Nat.reduceAdd,Nat.reduceSub,af,ag,ah,ak]
 try simp only[go_sem]
 refine bH (cr _ _ _ ?_)
 unfold bK at*
 try simp only[go_sem]
 refine bc (λ fr st=>fr=%[db false,.ref Z.length 0,.ref (Z.length+1) 0|D7 [.o,.o,.o,.o]]∧st=Z++[some (.cells [.d (aY gN.cells),.d (.sl 11 (gN.modules.map iH)),.d (.sl 6 (gN.locks.map iZ)),.d (.sl 7 (gN.threads.map c8))]),sA xY]) ?_ ?_
 ·try simp only[go_sem]
  refine bH (xS 1 1 0 (qv.map iD) rfl (cJ qv) ?_)
  simp only[go_sem,ac]
  show AC Tryz.prog G 23 [_,.d (bu qv)] _ _
  refine is _ _ _ ?_
  rw[ed]
  unfold eD
  try simp only[go_sem]
  exact Wk.keep [0,1,2] [0,2] (by decide) (aE _) hbd ⟨by simp only[go_sem],by simp only[go_sem]⟩
 rintro fr st ⟨rfl,rfl⟩
 refine bc (λ fr st=>fr=%[db false,.ref Z.length 0,.ref (Z.length+1) 0,.o,di 4|D7 [.o,.o]]∧st=Z++[some (.cells [.d (aY gN.cells),.d (.sl 11 (gN.modules.map iH)),.d (.sl 6 (gN.locks.map iZ)),.d (.sl 7 (gN.threads.map c8))]),sA xY]) ?_ ?_
 ·try simp only[go_sem]
  refine bH (f0 _ _ (λ S hS hl _=> ?_) (λ V v S l hS hV hl hac hno hb=> ?_) (λ S hS hb hno=> ?_))
  ·exact absurd (cr_sc hS).1 (by omega)
  ·have:=(cr_sc hS).2 v (by rw[hV];simp)
   rw[this]at hac;cases hac
  ·try simp only[go_sem]
   exact Wk.mask [0,1,2,4] ⟨rfl,rfl⟩
 rintro fr st ⟨rfl,rfl⟩
 refine bc (λ fr st=>∃l:List Cho,l.length=6∧fK gN 1 (bS gN) l.reverse∧fO ((iS gN 1 (bS gN) l.reverse).getD 6 jm)=true∧fO ((iS gN 1 (bS gN) l.reverse).getD 4 jm)=false∧fr=%[db false,.ref Z.length 0,.o,.o,di 4,.d (.sl 3 (l.reverse.map c7)),di 0|D7 []]∧st=Z++[some (.cells [.d (aY gN.cells),.d (.sl 11 (gN.modules.map iH)),.d (.sl 6 (gN.locks.map iZ)),.d (.sl 7 (gN.threads.map c8))]),sA xY]) ?_ ?_
 ·try simp only[go_sem]
  refine bH (f1 _ _ (λ S hS hl hno=> ?_) (λ V v S l hS hV hl hac hno hb=> ?_) (λ S hS hb hno=> ?_))
  ·exact(cr_lim1 hS hl hno).elim
  ·obtain⟨l6,q6,q4⟩:=cr_find1 hS hV hac hno hb
   have hl120:l.length≤120:=by omega
   refine⟨λ _=> ?_,λ z=>absurd z (by omega)⟩
   try simp only[go_sem]
   have hp:=(Back.path (fx xN hS) (by rw[hV];exact hb)).1
   exact Wk.mask [0,1,4,5,6] ⟨l,l6,hp,q6,q4,rfl,rfl⟩
  ·exact(cr_end1 hS hb hno).elim
 rintro fr st ⟨l,l6,hrun,q6,q4,rfl,rfl⟩
 have hY:=kV (p:=gN) (m:=1) l.reverse (bS gN)
 have hfY:=nD xN (jl xN 1) hrun
 have ru2:=ru l.reverse hrun (by rw[cI];omega)
 rw[cI,l6]at hY ru2
 obtain⟨Y,hYe⟩:∃Y,iS gN 1 (bS gN) l.reverse=Y:=⟨_,rfl⟩
 rw[hYe]at hY hfY ru2 q6 q4
 refine bc (λ fr st=>fr=%[db false,.o,.o,.o,di 4,.d (.sl 3 (l.reverse.map c7)),di 0,.d (.sl 3 (Y.map bX)),di 0,di 6|D6 (D5 (D4 [.o,.o,.o,.o,.o]))]∧st=Z) ?_ ?_
 ·try simp only[go_sem]
  refine bH (ru2 _ _ ?_)
  try simp only[go_sem]
  exact Wk.keep [0,4,5,6,7,8,9] [] (by decide) (aE _) hbd ⟨by simp only[go_sem]<;> rfl,by simp only[go_sem,iC,bt]⟩
 rintro fr st ⟨rfl,rfl⟩
 have c3:((l.reverse.length:Int)==6)=true:=by rw[cI,l6];rfl
 have c5:((Y.length:Int)==7)=true:=by rw[hY];rfl
 have c1:((4:Int)==4)=true:=rfl
 have c2:((0:Int)==0)=true:=rfl
 have c4:((6:Int)==6)=true:=rfl
 have t6:Int.toNat 6=6:=rfl
 have t4:Int.toNat 4=4:=rfl
 have e6:=pE (l:=Y) (j:=6) (by omega)
 have e4:=pE (l:=Y) (j:=4) (by omega)
 have g6:=(hfY _ (bv jm (l:=Y) (j:=6) (by omega))).nbuf
 have g4:=(hfY _ (bv jm (l:=Y) (j:=4) (by omega))).nbuf
 have hth:gN.threads.length=2:=rfl
 have u6:=tI (Y.getD 6 jm) (by omega)
 have u4:=tI (Y.getD 4 jm) (by omega)
 rw[q6]at u6
 rw[q4]at u4
 generalize Y.getD 6 jm=y6 at e6 u6
 generalize Y.getD 4 jm=y4 at e4 u4
 have k6:bX y6= .agg [bu y6.mem,bu y6.pos,.sl 1 (y6.buf.map cu)]:=rfl
 have k4:bX y4= .agg [bu y4.mem,bu y4.pos,.sl 1 (y4.buf.map cu)]:=rfl
 rw[k6]at e6 u6
 rw[k4]at e4 u4
 simp only[go_sem,c1,c2,c3,c4,c5,t6,t4,e6,e4,ac]
 refine⟨⟨by omega,by omega⟩,gO (.bool true) ⟨λ _=>⟨rfl,bH (u6 _ _ _ ?_)⟩,?_⟩⟩
 ·simp only[go_sem]
 simp only[go_sem,c1,c2,c3,c4,c5,t6,t4,e6,e4,ac]
 refine⟨⟨by omega,by omega⟩,gO (.bool false) ⟨λ _=>⟨rfl,bH (u4 _ _ _ ?_)⟩,?_⟩⟩
 ·simp only[go_sem]
 simp only[go_sem,c1,c2,c3,c4,c5,t6,t4,e6,e4,ac]
 exact xd h
end
section
open Go Go.Ab
section
variable {p:Prg} {m:Int} {S T:BS}
end
end
section
open Go Go.Ab
section
variable {p:Prg} {m:Int} {t:Nat} {c:Cfg}
end
end
section
open Go Go.Ab
theorem PrgSz.nm{p:Prg}(hz:PrgSz p):NamesSz p:=⟨hz.names,λ m hm=>⟨(hz.modules m hm).1,(hz.modules m hm).2.1⟩,λ x hx=>(hz.threads x hx).1⟩
theorem Fits.sz'{p:Prg}{m:Int}{c:Cfg}(hf:Fits p m c)(hp:Good p):CfgSz c:=by
 obtain⟨h1,h2,h3,h4⟩:=hf.sz hp
 exact⟨by omega,by omega,by omega,λ l hl=>⟨by have:=(h4 l hl).1;omega,λ e he=>by have:=(h4 l hl).2 e he;omega⟩⟩
theorem mod3(x:Int)(h:0≤x∧x<256):∃m:Int,x.tmod 3=m∧0≤m∧m≤2:=by
 have h1:=EA 3 h.1
 have h2:=Ev x (show(0:Int)<3 by omega)
 exact⟨_,rfl,h1,by omega⟩
end
section
open Go Go.Ab Go.RowKit Go.ChangeShapes Go.WideShapes
theorem own:ownKnob Tryz.prog.godebug=none:=by kernel_rfl
theorem gMasks : Tryz.prog.globalNamed "relyguard/expr.masks" = some 0 := by kernel_rfl
abbrev zz : List (String × DataW Unit) := [("relyguard/expr.masks", Rows.laid_relyguard_expr_masks)]
theorem FB(os:Os)(args:Array Value):laidMetH Tryz.prog zz ((World.doorLaid Tryz.prog 400 os).forCall (λ _ _=>0) ⟨#[],args,[]⟩).memory:=
 laidMetH_of_parts3 (fuel:=8) (laidMet_of_run' 8 (by kernel_rfl) (by kernel_rfl)) (by kernel_rfl) (by kernel_rfl)
abbrev maskT:TypeId:=205
theorem tMasks:(Tryz.prog.globals[0]?).map (·.type)=some maskT:=by kernel_rfl
theorem closedG:ox Tryz.prog [maskT,3]=true:=by kernel_rfl
def zH:Glob:=⟨λ g=>match g with|0=>some cB|_=>none,λ _ _=>False⟩
theorem Dt{W:World}(h:laidMetH Tryz.prog zz W):∀(g:Nat) (x:D),zH.g g=some x→RepA [] W (.ea x 0) (.pointer (some ⟨g,0,none⟩)):=by
 rw[MakeChecks.laidMetH_plain _ _ _ (by kernel_rfl)]at h
 obtain⟨ps,⟨g0,t0,cs0,f0,p0,q0,hg0,ht0,hv0,hd0,_,_⟩,_,_⟩:=h
 obtain rfl:=Option.some.inj (gMasks.symm.trans hg0)
 obtain rfl:=Option.some.inj (tMasks.symm.trans ht0)
 intro g x hx
 match g with
 |0=>
  simp only[zH,Option.some.injEq]at hx
  subst hx
  have:=laid_ea closedG (by simp) gMasks hv0 hd0 3
  have e:m7 Tryz.prog (f0+3) maskT Rows.laid_relyguard_expr_masks (H:=Unit)=cB:=by with_unfolding_all rfl
  rw[e]at this
  exact this
 |g+1=>simp [zH]at hx
-- data of the laws' types
theorem kY{α:Type}{f:α→D}{p:α→Prop}:∀{xs:List D},(∀x∈xs,∃y,x=f y∧p y)→∃l:List α,xs=l.map f∧∀y∈l,p y
 |[],_=>⟨[],rfl,λ y hy=>by cases hy⟩
 |x::xs,h=>by
  obtain⟨y,rfl,hy⟩:=h x (by simp)
  obtain⟨l,rfl,hl⟩:=kY (f:=f) (p:=p) (xs:=xs) λ z hz=>h z (by simp [hz])
  exact⟨y::l,rfl,λ z hz=>by rcases aV.1 hz with rfl|hz;exact hy;exact hl z hz⟩
section
variable {n:Nat} {x:D}
theorem fS{N:Nat}(h:iQ Tryz.prog N n 3 x):∃z,x=iD z∧True:=by
 obtain _|n:=n
 ·exact h.elim
 simp only[iQ,Tryz.underlying3]at h
 obtain⟨z,rfl,hw⟩:=h
 exact⟨z,rfl,trivial⟩
theorem uy{N:Nat}(h:iQ Tryz.prog N n 4 x):∃b,x= .bool b∧True:=by
 obtain _|n:=n
 ·exact h.elim
 simp only[iQ,Tryz.underlying4]at h
 obtain⟨b,rfl⟩:=h
 exact⟨b,rfl,trivial⟩
theorem sP{N:Nat}(h:iQ Tryz.prog N n 9 x):∃b,x= .str b∧b.length≤N:=by
 obtain _|n:=n
 ·exact h.elim
 simp only[iQ,Tryz.underlying9]at h
 exact h
theorem FA{N:Nat}(h:iQ Tryz.prog N n 5 x):∃z:Int,x= .int .u8 z∧0≤z∧z<256:=by
 obtain _|n:=n
 ·exact h.elim
 simp only[iQ,Tryz.underlying5]at h
 obtain⟨z,rfl,hw⟩:=h
 have e1:IntKind.u8.min=0:=by decide
 have e2:IntKind.u8.max=255:=by decide
 simp [Lit.wf,e1,e2]at hw
 exact⟨z,rfl,by omega,by omega⟩
theorem Fd{N:Nat}(h:iQ Tryz.prog N n 28 x):∃l:List Int,x= .sl 1 (l.map ET)∧l.length≤N∧∀z∈l,0≤z∧z<256:=by
 obtain _|n:=n
 ·exact h.elim
 simp only[iQ,Tryz.underlying28,go_sem]at h
 obtain⟨xs,rfl,hl,hx⟩:=h
 obtain⟨l,rfl,hlk⟩:=kY (f:=ET) λ x hx'=>FA (hx x hx')
 exact⟨l,rfl,by simpa using hl,hlk⟩
theorem ux{N:Nat}(h:iQ Tryz.prog N n 31 x):∃l:List Int,x=bu l∧l.length≤N:=by
 obtain _|n:=n
 ·exact h.elim
 simp only[iQ,Tryz.underlying31,go_sem]at h
 obtain⟨xs,rfl,hl,hx⟩:=h
 obtain⟨l,rfl,-⟩:=kY (f:=iD) λ x hx'=>fS (hx x hx')
 exact⟨l,rfl,by simpa using hl⟩
end
theorem Cq(n:Nat):∀{x:D},(iQ Tryz.prog reachBytes n 64 x→∃e:Ex,x=e.d∧e.Ok)∧(iQ Tryz.prog reachBytes n 62 x→∃l:List Ex,x= .sl 4 (l.map Ex.d)∧l.length≤reachBytes∧∀k∈l,k.Ok):=by
 induction n with
 |zero=>exact⟨λ h=>h.elim,λ h=>h.elim⟩
 |succ n ih=>
  intro x
  refine⟨λ h=> ?_,λ h=> ?_⟩
  ·simp only[iQ,Tryz.underlying64]at h
   obtain⟨ds,rfl,hl,hx⟩:=h
   match ds,hl with
   |[a,b,c,d],_=>
    obtain⟨o,rfl,-⟩:=fS (hx 0 _ a rfl rfl)
    obtain⟨w,rfl,-⟩:=fS (hx 1 _ b rfl rfl)
    obtain⟨m,rfl,-⟩:=fS (hx 2 _ c rfl rfl)
    obtain⟨l,rfl,hll,hlk⟩:=ih.2 (hx 3 _ d rfl rfl)
    exact⟨.mk o w m l,by rw[Ex.d_eq];rfl,.mk hll hlk⟩
  ·simp only[iQ,Tryz.underlying62,go_sem]at h
   obtain⟨xs,rfl,hl,hx⟩:=h
   obtain⟨l,rfl,hlk⟩:=kY λ x hx'=>ih.1 (hx x hx')
   exact⟨l,rfl,by simpa using hl,hlk⟩
section
variable {n:Nat} {x:D}
theorem rt(h:iQ Tryz.prog reachBytes n 64 x):∃e:Ex,x=eD e∧e.Ok:=by
 obtain⟨e,rfl,he⟩:=(Cq n).1 h
 exact⟨e,ed e,he⟩
theorem dty_cel(h:iQ Tryz.prog reachBytes n 88 x):∃c,x=fb c∧c.name.length≤reachBytes:=by
 obtain _|n:=n
 ·exact h.elim
 simp only[iQ,Tryz.underlying88]at h
 obtain⟨ds,rfl,hl,hx⟩:=h
 match ds,hl with
 |[a,b,c,d,e,f],_=>
  obtain⟨o,rfl,ho⟩:=sP (hx 0 _ a rfl rfl)
  obtain⟨w,rfl,-⟩:=fS (hx 1 _ b rfl rfl)
  obtain⟨m,rfl,-⟩:=fS (hx 2 _ c rfl rfl)
  obtain⟨m2,rfl,-⟩:=fS (hx 3 _ d rfl rfl)
  obtain⟨m3,rfl,-⟩:=uy (hx 4 _ e rfl rfl)
  obtain⟨m4,rfl,-⟩:=fS (hx 5 _ f rfl rfl)
  exact⟨⟨o,w,m,m2,m3,m4⟩,rfl,ho⟩
theorem dty_cels(h:iQ Tryz.prog reachBytes n 22 x):∃l,x=aY l∧l.length≤reachBytes∧∀c∈l,c.name.length≤reachBytes:=by
 obtain _|n:=n
 ·exact h.elim
 simp only[iQ,Tryz.underlying22,go_sem]at h
 obtain⟨xs,rfl,hl,hx⟩:=h
 obtain⟨l,rfl,hk⟩:=kY λ x hx'=>dty_cel (hx x hx')
 exact⟨l,rfl,by simpa using hl,hk⟩
theorem dty_ctr(h:iQ Tryz.prog reachBytes n 76 x):∃m,x=iH m∧m.name.length≤reachBytes∧m.owner.length≤reachBytes∧m.rely.Ok∧m.guar.Ok∧m.frame.length≤reachBytes:=by
 obtain _|n:=n
 ·exact h.elim
 simp only[iQ,Tryz.underlying76]at h
 obtain⟨ds,rfl,hl,hx⟩:=h
 match ds,hl with
 |[a,b,c,d,e],_=>
  obtain⟨o,rfl,ho⟩:=sP (hx 0 _ a rfl rfl)
  obtain⟨w,rfl,hw⟩:=sP (hx 1 _ b rfl rfl)
  obtain⟨m,rfl,hm⟩:=rt (hx 2 _ c rfl rfl)
  obtain⟨m2,rfl,hm2⟩:=rt (hx 3 _ d rfl rfl)
  obtain⟨m3,rfl,hm3⟩:=ux (hx 4 _ e rfl rfl)
  exact⟨⟨o,w,m,m2,m3⟩,rfl,ho,hw,hm,hm2,hm3⟩
theorem dty_ctrs(h:iQ Tryz.prog reachBytes n 23 x):∃l:List Ctr,x= .sl 11 (l.map iH)∧l.length≤reachBytes∧∀m∈l,m.name.length≤reachBytes∧m.owner.length≤reachBytes∧m.rely.Ok∧m.guar.Ok∧m.frame.length≤reachBytes:=by
 obtain _|n:=n
 ·exact h.elim
 simp only[iQ,Tryz.underlying23,go_sem]at h
 obtain⟨xs,rfl,hl,hx⟩:=h
 obtain⟨l,rfl,hk⟩:=kY λ x hx'=>dty_ctr (hx x hx')
 exact⟨l,rfl,by simpa using hl,hk⟩
theorem dty_lck(h:iQ Tryz.prog reachBytes n 79 x):∃m,x=iZ m∧m.inv.Ok:=by
 obtain _|n:=n
 ·exact h.elim
 simp only[iQ,Tryz.underlying79]at h
 obtain⟨ds,rfl,hl,hx⟩:=h
 match ds,hl with
 |[a,b,c],_=>
  obtain⟨o,rfl,-⟩:=fS (hx 0 _ a rfl rfl)
  obtain⟨w,rfl,hw⟩:=rt (hx 1 _ b rfl rfl)
  obtain⟨m,rfl,-⟩:=fS (hx 2 _ c rfl rfl)
  exact⟨⟨o,w,m⟩,rfl,hw⟩
theorem dty_lcks(h:iQ Tryz.prog reachBytes n 24 x):∃l:List Lck,x= .sl 6 (l.map iZ)∧l.length≤reachBytes∧∀m∈l,m.inv.Ok:=by
 obtain _|n:=n
 ·exact h.elim
 simp only[iQ,Tryz.underlying24,go_sem]at h
 obtain⟨xs,rfl,hl,hx⟩:=h
 obtain⟨l,rfl,hk⟩:=kY λ x hx'=>dty_lck (hx x hx')
 exact⟨l,rfl,by simpa using hl,hk⟩
theorem dty_asg(h:iQ Tryz.prog reachBytes n 95 x):∃m,x=dM m∧m.to.Ok:=by
 obtain _|n:=n
 ·exact h.elim
 simp only[iQ,Tryz.underlying95]at h
 obtain⟨ds,rfl,hl,hx⟩:=h
 match ds,hl with
 |[a,b],_=>
  obtain⟨o,rfl,-⟩:=fS (hx 0 _ a rfl rfl)
  obtain⟨w,rfl,hw⟩:=rt (hx 1 _ b rfl rfl)
  exact⟨⟨o,w⟩,rfl,hw⟩
theorem dty_asgs(h:iQ Tryz.prog reachBytes n 91 x):∃l:List Asg,x= .sl 5 (l.map dM)∧l.length≤reachBytes∧∀m∈l,m.to.Ok:=by
 obtain _|n:=n
 ·exact h.elim
 simp only[iQ,Tryz.underlying91,go_sem]at h
 obtain⟨xs,rfl,hl,hx⟩:=h
 obtain⟨l,rfl,hk⟩:=kY λ x hx'=>dty_asg (hx x hx')
 exact⟨l,rfl,by simpa using hl,hk⟩
theorem dty_stp(h:iQ Tryz.prog reachBytes n 93 x):∃s,x=eP s∧StpSz s:=by
 obtain _|n:=n
 ·exact h.elim
 simp only[iQ,Tryz.underlying93]at h
 obtain⟨ds,rfl,hl,hx⟩:=h
 match ds,hl with
 |[a,b,c,d,e,f,g,i],_=>
  obtain⟨o,rfl,-⟩:=fS (hx 0 _ a rfl rfl)
  obtain⟨w,rfl,-⟩:=fS (hx 1 _ b rfl rfl)
  obtain⟨m,rfl,-⟩:=fS (hx 2 _ c rfl rfl)
  obtain⟨m2,rfl,hm2⟩:=rt (hx 3 _ d rfl rfl)
  obtain⟨m3,rfl,h1,h2⟩:=dty_asgs (hx 4 _ e rfl rfl)
  obtain⟨m4,rfl,-⟩:=uy (hx 5 _ f rfl rfl)
  obtain⟨m5,rfl,-⟩:=fS (hx 6 _ g rfl rfl)
  obtain⟨m6,rfl,-⟩:=fS (hx 7 _ i rfl rfl)
  exact⟨⟨o,w,m,m2,m3,m4,m5,m6⟩,rfl,hm2,h1,h2⟩
theorem dty_stps(h:iQ Tryz.prog reachBytes n 81 x):∃l:List Stp,x= .sl 11 (l.map eP)∧l.length≤reachBytes∧∀m∈l,StpSz m:=by
 obtain _|n:=n
 ·exact h.elim
 simp only[iQ,Tryz.underlying81,go_sem]at h
 obtain⟨xs,rfl,hl,hx⟩:=h
 obtain⟨l,rfl,hk⟩:=kY λ x hx'=>dty_stp (hx x hx')
 exact⟨l,rfl,by simpa using hl,hk⟩
theorem dty_lop(h:iQ Tryz.prog reachBytes n 97 x):∃m,x=pt m∧m.body.length≤reachBytes∧m.var.Ok:=by
 obtain _|n:=n
 ·exact h.elim
 simp only[iQ,Tryz.underlying97]at h
 obtain⟨ds,rfl,hl,hx⟩:=h
 match ds,hl with
 |[a,b,c],_=>
  obtain⟨o,rfl,-⟩:=fS (hx 0 _ a rfl rfl)
  obtain⟨w,rfl,hw⟩:=ux (hx 1 _ b rfl rfl)
  obtain⟨m,rfl,hm⟩:=rt (hx 2 _ c rfl rfl)
  exact⟨⟨o,w,m⟩,rfl,hw,hm⟩
theorem dty_lops(h:iQ Tryz.prog reachBytes n 82 x):∃l:List Lop,x= .sl 6 (l.map pt)∧l.length≤reachBytes∧∀m∈l,m.body.length≤reachBytes∧m.var.Ok:=by
 obtain _|n:=n
 ·exact h.elim
 simp only[iQ,Tryz.underlying82,go_sem]at h
 obtain⟨xs,rfl,hl,hx⟩:=h
 obtain⟨l,rfl,hk⟩:=kY λ x hx'=>dty_lop (hx x hx')
 exact⟨l,rfl,by simpa using hl,hk⟩
theorem dty_thr(h:iQ Tryz.prog reachBytes n 84 x):∃t,x=c8 t∧t.name.length≤reachBytes∧ThrSz t:=by
 obtain _|n:=n
 ·exact h.elim
 simp only[iQ,Tryz.underlying84]at h
 obtain⟨ds,rfl,hl,hx⟩:=h
 match ds,hl with
 |[a,b,c,d,e,f,g],_=>
  obtain⟨o,rfl,ho⟩:=sP (hx 0 _ a rfl rfl)
  obtain⟨w,rfl,-⟩:=fS (hx 1 _ b rfl rfl)
  obtain⟨m,rfl,a1,a2⟩:=(Cq n).2 (hx 2 _ c rfl rfl)
  obtain⟨m2,rfl,a3⟩:=ux (hx 3 _ d rfl rfl)
  obtain⟨m3,rfl,a4,a5⟩:=dty_stps (hx 4 _ e rfl rfl)
  obtain⟨m4,rfl,a6,a7⟩:=dty_lops (hx 5 _ f rfl rfl)
  obtain⟨m5,rfl,-⟩:=uy (hx 6 _ g rfl rfl)
  exact⟨⟨o,w,m,m2,m3,m4,m5⟩,rfl,ho,a1,a2,a3,a4,a5,a6,a7⟩
theorem dty_thrs(h:iQ Tryz.prog reachBytes n 25 x):∃l:List Thr,x= .sl 7 (l.map c8)∧l.length≤reachBytes∧∀t∈l,t.name.length≤reachBytes∧ThrSz t:=by
 obtain _|n:=n
 ·exact h.elim
 simp only[iQ,Tryz.underlying25,go_sem]at h
 obtain⟨xs,rfl,hl,hx⟩:=h
 obtain⟨l,rfl,hk⟩:=kY λ x hx'=>dty_thr (hx x hx')
 exact⟨l,rfl,by simpa using hl,hk⟩
theorem FV(h:iQ Tryz.prog reachBytes n 27 x):∃p,x=bK p∧PrgSz p:=by
 obtain _|n:=n
 ·exact h.elim
 simp only[iQ,Tryz.underlying27]at h
 obtain⟨ds,rfl,hl,hx⟩:=h
 match ds,hl with
 |[a,b,c,d],_=>
  obtain⟨o,rfl,a1,a2⟩:=dty_cels (hx 0 _ a rfl rfl)
  obtain⟨w,rfl,a3,a4⟩:=dty_ctrs (hx 1 _ b rfl rfl)
  obtain⟨m,rfl,a5,a6⟩:=dty_lcks (hx 2 _ c rfl rfl)
  obtain⟨m2,rfl,a7,a8⟩:=dty_thrs (hx 3 _ d rfl rfl)
  exact⟨⟨o,w,m,m2⟩,rfl,a1,a2,a3,a4,a5,a6,a7,a8⟩
end
end
section
open Go Go.Ab
def FD(p:Prg)(to:List Int)(j:Nat):List Cel:=EK (List.replicate p.cells.length fU) ((to.zip p.cells).take j)
theorem Gf(p:Prg)(to:List Int)(j:Nat):(FD p to j).length=p.cells.length:=by rw[FD,E1,fd]
theorem GR{p:Prg}{to:List Int}(h:Perm p.cells.length to){j:Nat}(hj:j<p.cells.length):FD p to (j+1)=(FD p to j).set (to.getD j 0).toNat (p.cells.getD j fU):=by
 have hl:=h.len
 have hz:(to.zip p.cells).length=p.cells.length:=by rw[f9,hl];omega
 unfold FD
 rw[bG (0,fU) (by omega),EK,EK,dG]
 have e:(to.zip p.cells).getD j (0,fU)=(to.getD j 0,p.cells.getD j fU):=by
  rw[au,ap (by omega),List.getElem_zip,au,ap (by omega),au,ap (by omega)];rfl
 rw[e];rfl
theorem celR_end{p:Prg}{to:List Int}(h:Perm p.cells.length to):FD p to p.cells.length=(p.ren to).cells:=by
 have hl:=h.len
 have hz:(to.zip p.cells).length=p.cells.length:=by rw[f9,hl];omega
 unfold FD
 rw[aK (by omega)]
 show _=Eu fU to p.cells
 rw[Eu,hl]
abbrev Ek(a b c d:A):Option Ob:=some (.cells [a,b,c,d])
abbrev Em:A:= .d .nils
theorem Fh{l:List A}{k:Nat}(h:k<l.length)(x:A):l.take k++x::l.drop (k+1)=l.set k x:=by
 rw[da,if_pos h]
def GN(n:Nat)(to fr:List Int)(k:Nat):List Bool:=(List.range n).map λ c:Nat=>((fr.take k).map (mv to)).contains (c:Int)
theorem Gx(n:Nat)(to fr:List Int)(k:Nat):(GN n to fr k).length=n:=by simp [GN]
theorem inL_succ{n:Nat}{to fr:List Int}{k:Nat}(hk:k<fr.length){y:Nat}(hy:mv to (fr.getD k 0)=(y:Int))(hyn:y<n):GN n to fr (k+1)=(GN n to fr k).set y true:=by
 refine cz λ i=> ?_
 unfold GN
 rw[bG 0 hk,aJ,aM,bq,hy]
 rcases aC i n with hi|hi
 ·by_cases e:i=y
  ·subst e
   rw[aT (by simp;omega)]
   simp [hi]
  ·rw[aD (Ne.symm e)]
   simp only[aN,List.getElem?_range hi,bJ,Option.some.injEq]
   rw[dD]
   simp only[dv,aW,aV,bi,or_false]
   constructor
   ·rintro(h|h)
    ·exact h
    ·omega
   ·exact .inl
 ·rw[bm (by simp;omega),bm (by simp;omega)]
def frL(n:Nat)(to fr:List Int)(k:Nat):List Int:=((List.range k).filter λ c:Nat=>(fr.map (mv to)).contains (c:Int)).map λ c:Nat=>(c:Int)
theorem frL_end(n:Nat)(to fr:List Int):frL n to fr n=EE n to fr:=rfl
theorem frL_le(n:Nat)(to fr:List Int)(k:Nat):(frL n to fr k).length≤k:=by
 unfold frL
 rw[ac]
 exact Es (ez _ _) (by simp)
theorem frL_succ(n:Nat)(to fr:List Int)(k:Nat):frL n to fr (k+1)=frL n to fr k++(if(fr.map (mv to)).contains (k:Int)=true then [(k:Int)]else []):=by
 unfold frL
 rw[eY,du,aJ,List.filter_cons,List.filter_nil]
 split<;> rfl
theorem inL_at{n:Nat}{to fr:List Int}{k:Nat}(hk:k<n):List.getD ((GN n to fr fr.length).map λ b=>A.d (.bool b)) k .o= .d (.bool ((fr.map (mv to)).contains (k:Int))):=by
 unfold GN
 rw[bB,au]
 simp [hk]
theorem ctr_snoc(l:List Ctr)(m:Ctr):bU ((l++[m]).map iH)=bU (l.map iH)++[.d (.str m.name),.d (.str m.owner),.d (iD m.rely.op),.d (iD m.rely.w),.d (iD m.rely.n),.d (.sl 4 (m.rely.kids.map Ex.d)),.d (iD m.guar.op),.d (iD m.guar.w),.d (iD m.guar.n),.d (.sl 4 (m.guar.kids.map Ex.d)),.d (bu m.frame)]:=by
 rw[aJ,cZ];rfl
theorem lck_snoc(l:List Lck)(m:Lck):bU ((l++[m]).map iZ)=bU (l.map iZ)++[.d (iD m.cell),.d (iD m.inv.op),.d (iD m.inv.w),.d (iD m.inv.n),.d (.sl 4 (m.inv.kids.map Ex.d)),.d (iD m.mod)]:=by
 rw[aJ,cZ];rfl
theorem asg_snoc(l:List Asg)(a:Asg):bU ((l++[a]).map dM)=bU (l.map dM)++[.d (iD a.cell),.d (iD a.to.op),.d (iD a.to.w),.d (iD a.to.n),.d (.sl 4 (a.to.kids.map Ex.d))]:=by
 rw[aJ,cZ];rfl
theorem lop_snoc(l:List Lop)(a:Lop):bU ((l++[a]).map pt)=bU (l.map pt)++[.d (iD a.head),.d (bu a.body),.d (iD a.var.op),.d (iD a.var.w),.d (iD a.var.n),.d (.sl 4 (a.var.kids.map Ex.d))]:=by
 rw[aJ,cZ];rfl
theorem stp_snoc(l:List Stp)(s:Stp):bU ((l++[s]).map eP)=bU (l.map eP)++[.d (iD s.kind),.d (iD s.src),.d (iD s.dst),.d (iD s.guard.op),.d (iD s.guard.w),.d (iD s.guard.n),.d (.sl 4 (s.guard.kids.map Ex.d)),.d (.sl 5 (s.set.map dM)),.d (.bool s.rel),.d (iD s.target),.d (iD s.mod)]:=by
 rw[aJ,cZ];rfl
theorem GF(l:List Thr)(x:Thr):bU ((l++[x]).map c8)=bU (l.map c8)++[.d (.str x.name),.d (iD x.points),.d (.sl 4 (x.asserts.map Ex.d)),.d (bu x.mods),.d (.sl 11 (x.steps.map eP)),.d (.sl 6 (x.loops.map pt)),.d (.bool x.asleep)]:=by
 rw[aJ,cZ];rfl
abbrev En(x:Thr)(a b c:A):Option Ob:=some (.cells [.d (.str x.name),.d (iD x.points),a,.d (bu x.mods),b,c,.d (.bool x.asleep)])
abbrev D8(s:Stp)(g:Ex)(a:A):Option Ob:=some (.cells [.d (iD s.kind),.d (iD s.src),.d (iD s.dst),.d (iD g.op),.d (iD g.w),.d (iD g.n),.d (.sl 4 (g.kids.map Ex.d)),a,.d (.bool s.rel),.d (iD s.target),.d (iD s.mod)])
abbrev modO(M:Ctr)(r g:Ex)(fr:A):Option Ob:=some (.cells [.d (.str M.name),.d (.str M.owner),.d (iD r.op),.d (iD r.w),.d (iD r.n),.d (.sl 4 (r.kids.map Ex.d)),.d (iD g.op),.d (iD g.w),.d (iD g.n),.d (.sl 4 (g.kids.map Ex.d)),fr])
abbrev bolO(l:List Bool):Option Ob:=some (.cells (l.map λ b=>A.d (.bool b)))
abbrev EM(p:Prg):Option Ob:=some (.cells [.d (.sl 6 (p.cells.map fb)),.d (.sl 11 (p.modules.map iH)),.d (.sl 6 (p.locks.map iZ)),.d (.sl 7 (p.threads.map c8))])
theorem Gj(p:Prg)(hp:Good p)(to:List Int)(h:Perm p.cells.length to)(Z:St)(G:Glob)(R:A→St→Prop)(hR:R (.d (bK (p.ren to))) Z):AC Tryz.prog G 10 [.d (bK p),.d (bu to)] Z R:=by
 have hnc:=hp.sm.ncel
 have htl:=h.len
 have mo:=λ (e:Ex) (hn:e.nodes≤40)=>moved40 (to:=to) (by omega) hn
 unfold bK
 refine bD [6,15,21,23,29,39,49,50,56,57] a9 Tryz.func10 rfl Tryz.ntmps10 (by simp only[go_sem]) λ hbd=> ?_
 simp only[ae,aj,Nat.reduceAdd,Nat.reduceSub,af,ag,ah,ak]
 simp only[go_sem,aY,ac]
 refine⟨⟨by omega,by omega,by omega,by omega⟩,?_⟩
 refine bc (λ fr st=>fr=%[.o,.d (bu to),.ref Z.length 0,.o,.ref (Z.length+1) 0,.ref (Z.length+2) 0|D7 (D7 (D7 (D7 [.o,.o,.o,.o,.o])))]∧st=Z++[EM p,Ek Em Em Em Em,Ek (.d (.sl 6 ((p.ren to).cells.map fb))) Em Em Em]) ?_ ?_
 ·simp only[go_sem,aY,ac]
  refine aS (λ k fr st=>∃j:Nat,j≤p.cells.length∧k=p.cells.length - j∧fr=%[.o,.d (bu to),.ref Z.length 0,.o,.ref (Z.length+1) 0,.ref (Z.length+3) 0,dn j|D7 (D7 (D7 (D7 [.o,.o,.o,.o])))]∧st=Z++[EM p,Ek Em Em Em Em,some (.cells (bU ((FD p to j).map fb))),Ek (.rs (Z.length+2) 6 0 p.cells.length (some 88)) Em Em Em]) p.cells.length _ ?_ ?_
  ·refine Wk.mask [1,2,4,5,6] ⟨0,by omega,by omega,rfl,?_⟩
   have e:FD p to 0=List.replicate p.cells.length fU:=rfl
   rw[e,List.map_replicate]
   simp [bU,fb,fU,D.cells,List.flatMap_def,EM]
  rintro k fr st ⟨j,hj,hk,rfl,rfl⟩
  rcases aC j p.cells.length with hlt|hge
  ·have hd:decide ((j:Int)<(p.cells.length:Int))=true:=by simp;omega
   have w2:=bC j (by omega)
   have e1:List.getD (p.cells.map fb) j default=fb (p.cells.getD j fU):=dQ hlt
   have e2:=bW (l:=to) (j:=j) (by omega)
   have ha:=h.at_ hlt
   have hsu:=GR h hlt
   obtain⟨y,hy⟩:∃y:Nat,to.getD j 0=(y:Int):=⟨(to.getD j 0).toNat,by omega⟩
   rw[hy]at e2 ha hsu
   have hyl:y<p.cells.length:=by omega
   have hsp:=Fi fb 6 (λ _=>rfl) (FD p to j) y (p.cells.getD j fU) (by rw[Gf];exact hyl)
   rw[ad]at hsu
   rw[←hsu]at hsp
   have hfl:=ES fb 6 (λ _=>rfl) (FD p to j)
   rw[Gf]at hfl
   generalize p.cells.getD j fU=c at e1 hsp
   have kc:fb c= .agg [.str c.name,iD c.w,iD c.init,iD c.thread,.bool c.ghost,iD c.mod]:=rfl
   rw[kc]at e1
   simp only[kc,D.cells,aM,bq,ah,ak]at hsp
   simp only[aY,bu,go_sem,hd,ac,ad]
   refine bb (.tk 13 0<| .done) (by kernel_rfl) ?_
   simp only[aY,bu,go_sem,hd,e1,e2,w2,hfl,ac,ad,ci]
   rw[hsp]
   exact⟨⟨by omega,by omega⟩,⟨by omega,by omega⟩,⟨by omega,by omega⟩,by omega,Wk.mask [1,2,4,5,6] ⟨p.cells.length - (j+1),by omega,j+1,by omega,rfl,rfl,rfl⟩⟩
  ·have hd:decide ((j:Int)<(p.cells.length:Int))=false:=by simp;omega
   obtain rfl:j=p.cells.length:=by omega
   rw[celR_end h]
   simp only[aY,bu,go_sem,hd,ac,ad]
   have hcl:(p.ren to).cells.length=p.cells.length:=EN h
   refine Wk.via (bw.freezeIn (Z:=Z) 2 3 6 0 ((p.ren to).cells.map fb) rfl (lies_cel _) rfl (by decide)) ?_
   simp only[go_sem,ac,hcl,and_self,if_true,false_and,if_false]
   exact Wk.keep [1,2,4,5] [0,1,3] (by decide) (aE _) hbd ⟨by simp only[go_sem],by simp only[go_sem]⟩
 rintro fr st ⟨rfl,rfl⟩
 obtain⟨El,hCd⟩:∃El,D.sl 6 ((p.ren to).cells.map fb)=El:=⟨_,rfl⟩
 rw[hCd]
 have hnm:=hp.sm.nmod
 refine bc (λ fr st=>fr=%[.o,.d (bu to),.ref Z.length 0,.o,.ref (Z.length+1) 0,.ref (Z.length+2) 0|D7 (D7 (D7 (D7 [.o,.o,.o,.o,.o])))]∧st=Z++[EM p,Ek Em Em Em Em,Ek (.d El) (.d (.sl 11 ((p.modules.map (Ctr.ren p.cells.length to)).map iH))) Em Em]) ?_ ?_
 ·try simp only[go_sem]
  refine aS (λ k fr st=>∃j:Nat,j≤p.modules.length∧k=p.modules.length - j∧fr=%[.o,.d (bu to),.ref Z.length 0,.o,.ref (Z.length+1) 0,.ref (Z.length+2) 0,.o,dn j|D7 (D7 (D7 (D7 [.o,.o,.o])))]∧st=Z++[EM p,Ek Em Em Em Em,Ek (.d El) (.rs (Z.length+3) 11 0 j (some 76)) Em Em,some (.cells (bU (((p.modules.take j).map (Ctr.ren p.cells.length to)).map iH)))]) p.modules.length _ ?_ ?_
  ·refine Wk.via (bw.emptyIn (Z:=Z) 2 1 11 (some 76) rfl rfl) ?_
   exact Wk.mask [1,2,4,5,7] ⟨0,by omega,by omega,rfl,rfl⟩
  rintro k fr st ⟨j,hj,hk,rfl,rfl⟩
  rcases aC j p.modules.length with hlt|hge
  ·have hd:decide ((j:Int)<(p.modules.length:Int))=true:=by simp;omega
   have w2:=bC j (by omega)
   have e1:=xM hlt
   have hmem:=bv mj hlt
   have hsn:=bG mj hlt
   have hfl:=ES iH 11 (λ _=>rfl) ((p.modules.take j).map (Ctr.ren p.cells.length to))
   rw[ac,aP,cC hj]at hfl
   generalize p.modules.getD j mj=M at e1 hmem hsn
   obtain⟨sm1,sm2,sm3⟩:=hp.sm.modules M hmem
   have hok:=hp.ok.modules M hmem
   have hfr:∀c∈M.frame,0≤c∧c<p.cells.length:=λ c hc=>(eJ.1 (hok.frame c hc)).1
   have mo1:=mo M.rely sm2
   have mo2:=mo M.guar sm3
   have Ef:iH M= .agg [.str M.name,.str M.owner,iD M.rely.op,iD M.rely.w,iD M.rely.n,.sl 4 (M.rely.kids.map Ex.d),iD M.guar.op,iD M.guar.w,iD M.guar.n,.sl 4 (M.guar.kids.map Ex.d),bu M.frame]:=rfl
   rw[Ef]at e1
   simp only[aY,go_sem,hd,e1,ac,ad]
   refine⟨⟨by omega,by omega⟩,⟨by omega,by omega,by omega,by omega⟩,?_⟩
   obtain⟨Q,hQ⟩:∃Q:List Ctr,(p.modules.take j).map (Ctr.ren p.cells.length to)=Q:=⟨_,rfl⟩
   rw[hQ]at hfl
   refine bc (λ fr st=>fr=%[.o,.d (bu to),.ref Z.length 0,.o,.ref (Z.length+1) 0,.ref (Z.length+2) 0,.o,dn j,.ref (Z.length+4) 0,.rs (Z.length+5) 1 0 p.cells.length (some 4)|D7 (D7 (D7 (D7 [.o])))]∧st=Z++[EM p,Ek Em Em Em Em,Ek (.d El) (.rs (Z.length+3) 11 0 j (some 76)) Em Em,some (.cells (bU (Q.map iH))),modO M M.rely M.guar (.d (bu M.frame)),bolO (GN p.cells.length to M.frame M.frame.length)]) ?_ ?_
   ·rw[hQ]
    try simp only[go_sem]
    refine aS (λ k fr st=>∃i:Nat,i≤M.frame.length∧k=M.frame.length - i∧fr=%[.o,.d (bu to),.ref Z.length 0,.o,.ref (Z.length+1) 0,.ref (Z.length+2) 0,.o,dn j,.ref (Z.length+4) 0,.rs (Z.length+5) 1 0 p.cells.length (some 4),dn i|D7 (D7 (D7 (D7 [])))]∧st=Z++[EM p,Ek Em Em Em Em,Ek (.d El) (.rs (Z.length+3) 11 0 j (some 76)) Em Em,some (.cells (bU (Q.map iH))),modO M M.rely M.guar (.d (bu M.frame)),bolO (GN p.cells.length to M.frame i)]) M.frame.length _ ?_ ?_
    ·refine Wk.mask [1,2,4,5,7,8,9,10] ⟨0,by omega,by omega,rfl,?_⟩
     have e0:GN p.cells.length to M.frame 0=List.replicate p.cells.length false:=by
      unfold GN
      rw[dV,bq]
      exact List.eq_replicate_iff.2 ⟨by simp,λ b hb=>by simp at hb;exact hb.2⟩
     rw[e0,bolO,List.map_replicate]
     simp [EM]
    rintro k fr st ⟨i,hi,hk2,rfl,rfl⟩
    rcases aC i M.frame.length with hil|hig
    ·have hd2:decide ((i:Int)<(M.frame.length:Int))=true:=by simp;omega
     have w3:=bC i (by omega)
     have f1:=bW (l:=M.frame) hil
     have hcr:=hfr _ (bv 0 hil)
     obtain⟨c,hc⟩:∃c:Nat,M.frame.getD i 0=(c:Int):=⟨(M.frame.getD i 0).toNat,by omega⟩
     have hmv:=EV h hcr
     have hmi:=EW h hcr
     rw[hc]at f1 hcr hmi hmv
     have f2:=bW (l:=to) (j:=c) (by omega)
     rw[ad]at hmi
     obtain⟨y,hy⟩:∃y:Nat,to.getD c 0=(y:Int):=⟨(to.getD c 0).toNat,by omega⟩
     have hyn:y<p.cells.length:=by omega
     have hsu:=inL_succ (n:=p.cells.length) hil (by rw[hc,hmi,hy]) hyn
     have hll:=Gx p.cells.length to M.frame i
     have hsp:=Fh (l:=(GN p.cells.length to M.frame i).map λ b=>A.d (.bool b)) (k:=y) (by rw[ac,hll];exact hyn) (.d (.bool true))
     rw[hy]at f2
     simp only[bu,go_sem,hd2,f1,f2,w3,hsp,ac,ad,br,ci]
     refine⟨⟨by omega,by omega⟩,⟨by omega,by omega⟩,⟨by omega,by omega⟩,by omega,Wk.mask [1,2,4,5,7,8,9,10] ⟨M.frame.length - (i+1),by omega,i+1,by omega,rfl,rfl,?_⟩⟩
     rw[hsu,bolO,fF]
    ·have hd2:decide ((i:Int)<(M.frame.length:Int))=false:=by simp;omega
     obtain rfl:i=M.frame.length:=by omega
     simp only[bu,go_sem,hd2,ac]
     exact Wk.mask [1,2,4,5,7,8,9] ⟨rfl,rfl⟩
   rintro fr st ⟨rfl,rfl⟩
   try simp only[go_sem]
   refine bc (λ fr st=>fr=%[.o,.d (bu to),.ref Z.length 0,.o,.ref (Z.length+1) 0,.ref (Z.length+2) 0,.o,dn j,.ref (Z.length+4) 0|D7 (D7 (D7 (D7 [.o,.o])))]∧st=Z++[EM p,Ek Em Em Em Em,Ek (.d El) (.rs (Z.length+3) 11 0 j (some 76)) Em Em,some (.cells (bU (Q.map iH))),modO M M.rely M.guar (.d (bu (EE p.cells.length to M.frame)))]) ?_ ?_
   ·try simp only[go_sem]
    refine aS (λ k fr st=>∃i:Nat,i≤p.cells.length∧k=p.cells.length - i∧fr=%[.o,.d (bu to),.ref Z.length 0,.o,.ref (Z.length+1) 0,.ref (Z.length+2) 0,.o,dn j,.ref (Z.length+4) 0,.rs (Z.length+5) 1 0 p.cells.length (some 4),.o,dn i|D7 (D7 (D7 (D6 (D5 (D4 [.o,.o,.o,.o,.o,.o,.o])))))]∧st=Z++[EM p,Ek Em Em Em Em,Ek (.d El) (.rs (Z.length+3) 11 0 j (some 76)) Em Em,some (.cells (bU (Q.map iH))),modO M M.rely M.guar (.rs (Z.length+6) 1 0 (frL p.cells.length to M.frame i).length (some 3)),bolO (GN p.cells.length to M.frame M.frame.length),bY (frL p.cells.length to M.frame i)]) p.cells.length _ ?_ ?_
    ·refine Wk.via (bw.emptyIn (Z:=Z) 4 10 1 (some 3) rfl rfl) ?_
     exact Wk.mask [1,2,4,5,7,8,9,11] ⟨0,by omega,by omega,rfl,rfl⟩
    rintro k fr st ⟨i,hi,hk2,rfl,rfl⟩
    have hle:=frL_le p.cells.length to M.frame i
    rcases aC i p.cells.length with hil|hig
    ·have hd2:decide ((i:Int)<(p.cells.length:Int))=true:=by simp;omega
     have w3:=bC i (by omega)
     have f1:=inL_at (to:=to) (fr:=M.frame) hil
     have hsu:=frL_succ p.cells.length to M.frame i
     have hll:=Gx p.cells.length to M.frame M.frame.length
     cases hb:(M.frame.map (mv to)).contains (i:Int)with
     |true=>
      rw[hb,if_pos rfl]at hsu
      rw[hb]at f1
      simp only[bY,go_sem,hd2,f1,w3,ac,ad,br,ci]
      refine⟨⟨by omega,by omega⟩,by omega,⟨by simp only[maxLen];omega,by omega⟩,Wk.keep [1,2,4,5,7,8,9,11] [0,1,2,3,4,5,8] (by decide) (aE _) hbd ⟨p.cells.length - (i+1),by omega,i+1,by omega,rfl,by simp only[go_sem],?_⟩⟩
      rw[hsu]
      simp only[go_sem,CR,aF,ae,aj,aJ,aM,bq]
     |false=>
      rw[hb,if_neg cX,bt]at hsu
      rw[hb]at f1
      simp only[bY,go_sem,hd2,f1,w3,ac,ad,br,ci]
      refine⟨⟨by omega,by omega⟩,by omega,Wk.mask [1,2,4,5,7,8,9,11] ⟨p.cells.length - (i+1),by omega,i+1,by omega,rfl,rfl,by rw[hsu]⟩⟩
    ·have hd2:decide ((i:Int)<(p.cells.length:Int))=false:=by simp;omega
     obtain rfl:i=p.cells.length:=by omega
     rw[frL_end]
     simp only[go_sem,hd2]
     refine Wk.via (bw.freezeIn (Z:=Z) 6 4 1 0 ((EE p.cells.length to M.frame).map iD) rfl (cJ _) rfl (by decide)) ?_
     simp only[go_sem,ac,and_self,if_true,false_and,if_false]
     exact Wk.keep [1,2,4,5,7,8] [0,1,2,3,4] (by decide) (aE _) hbd ⟨by simp only[go_sem],by simp only[go_sem];rfl⟩
   rintro fr st ⟨rfl,rfl⟩
   obtain⟨r1,hr1⟩:∃r1,M.rely.ren to=r1:=⟨_,rfl⟩
   obtain⟨g1,hg1⟩:∃g1,M.guar.ren to=g1:=⟨_,rfl⟩
   rw[hr1]at mo1
   rw[hg1]at mo2
   have hcr:(Ctr.ren p.cells.length to M)=⟨M.name,M.owner,r1,g1,EE p.cells.length to M.frame⟩:=by rw[←hr1,←hg1];rfl
   have k1:∀e:Ex,eD e= .agg [iD e.op,iD e.w,iD e.n,.sl 4 (e.kids.map Ex.d)]:=λ e=>rfl
   rw[k1 M.rely]at mo1
   rw[k1 M.guar]at mo2
   try simp only[go_sem]
   refine bb (.tk 3 0<| .take 6<| .pure 3<| .tk 2 4<| .pure 7<| .tk 4 8<| .done) (by kernel_rfl) ?_
   try simp only[go_sem]
   refine mN (.d (eD r1)) ⟨λ Z'=>bH (mo1 _ _ _ ⟨rfl,rfl⟩),?_⟩
   try simp only[go_sem]
   refine mN (.d (eD g1)) ⟨λ Z'=>bH (mo2 _ _ _ ⟨rfl,rfl⟩),?_⟩
   simp only[k1 r1,k1 g1,go_sem,hfl,w2,fC]
   refine⟨⟨by simp only[maxLen];omega,by omega⟩,Wk.keep [1,2,4,5,7] [0,1,2,6] (by decide) (aE _) hbd ⟨p.modules.length - (j+1),by omega,j+1,by omega,rfl,by simp only[go_sem],?_⟩⟩
   rw[hsn,aJ,hQ,aM,bq,hcr,ctr_snoc]
   simp only[go_sem,dj,cG]
  ·have hd:decide ((j:Int)<(p.modules.length:Int))=false:=by simp;omega
   obtain rfl:j=p.modules.length:=by omega
   rw[bB]
   simp only[go_sem,hd,ac,ad]
   refine Wk.via (bw.freezeIn (Z:=Z) 3 2 11 0 ((p.modules.map (Ctr.ren p.cells.length to)).map iH) rfl (lies_ctr _) rfl (by decide)) ?_
   simp only[go_sem,ac,and_self,if_true,false_and,if_false]
   exact Wk.keep [1,2,4,5] [0,1,2] (by decide) (aE _) hbd ⟨by simp only[go_sem],by simp only[go_sem]⟩
 rintro fr st ⟨rfl,rfl⟩
 obtain⟨Md,hMd⟩:∃Md,D.sl 11 ((p.modules.map (Ctr.ren p.cells.length to)).map iH)=Md:=⟨_,rfl⟩
 rw[hMd]
 have hnl:=hp.sm.nlck
 refine bc (λ fr st=>fr=%[.o,.d (bu to),.ref Z.length 0,.o,.ref (Z.length+1) 0,.ref (Z.length+2) 0|D7 (D7 (D7 (D7 [.o,.o,.o,.o,.o])))]∧st=Z++[EM p,Ek Em Em Em Em,Ek (.d El) (.d Md) (.d (.sl 6 ((p.locks.map (Lck.ren to)).map iZ))) Em]) ?_ ?_
 ·try simp only[go_sem]
  refine aS (λ k fr st=>∃j:Nat,j≤p.locks.length∧k=p.locks.length - j∧fr=%[.o,.d (bu to),.ref Z.length 0,.o,.ref (Z.length+1) 0,.ref (Z.length+2) 0,.o,.o,.o,.o,.o,.o,dn j|D7 (D7 (D7 (D6 (D5 (D4 [.o,.o,.o,.o,.o,.o])))))]∧st=Z++[EM p,Ek Em Em Em Em,Ek (.d El) (.d Md) (.rs (Z.length+3) 6 0 j (some 79)) Em,some (.cells (bU (((p.locks.take j).map (Lck.ren to)).map iZ)))]) p.locks.length _ ?_ ?_
  ·refine Wk.via (bw.emptyIn (Z:=Z) 2 2 6 (some 79) rfl rfl) ?_
   exact Wk.mask [1,2,4,5,12] ⟨0,by omega,by omega,rfl,rfl⟩
  rintro k fr st ⟨j,hj,hk,rfl,rfl⟩
  rcases aC j p.locks.length with hlt|hge
  ·have hd:decide ((j:Int)<(p.locks.length:Int))=true:=by simp;omega
   have w2:=bC j (by omega)
   have e1:=xw hlt
   have hmem:=bv mJ hlt
   have hsn:=bG mJ hlt
   have hfl:=ES iZ 6 (λ _=>rfl) ((p.locks.take j).map (Lck.ren to))
   rw[ac,aP,cC hj]at hfl
   generalize p.locks.getD j mJ=M at e1 hmem hsn
   have mo1:=mo M.inv (hp.sm.locks M hmem)
   have hcr:=(eJ.1 (hp.ok.locks M hmem).cell).1
   have hmi:=EW h hcr
   obtain⟨c,hc⟩:∃c:Nat,M.cell=(c:Int):=⟨M.cell.toNat,by omega⟩
   have f2:=bW (l:=to) (j:=c) (by omega)
   rw[hc,ad]at hmi
   obtain⟨Q,hQ⟩:∃Q:List Lck,(p.locks.take j).map (Lck.ren to)=Q:=⟨_,rfl⟩
   rw[hQ]at hfl
   obtain⟨r1,hr1⟩:∃r1,M.inv.ren to=r1:=⟨_,rfl⟩
   rw[hr1]at mo1
   have hren:Lck.ren to M=⟨to.getD c 0,r1,M.mod⟩:=by rw[←hr1,←hmi,←hc];rfl
   have k1:∀e:Ex,eD e= .agg [iD e.op,iD e.w,iD e.n,.sl 4 (e.kids.map Ex.d)]:=λ e=>rfl
   rw[k1 M.inv]at mo1
   have Ef:iZ M= .agg [iD M.cell,iD M.inv.op,iD M.inv.w,iD M.inv.n,.sl 4 (M.inv.kids.map Ex.d),iD M.mod]:=rfl
   rw[Ef,hc]at e1
   simp only[go_sem,hd,e1,hQ,ac,ad]
   refine⟨⟨by omega,by omega⟩,?_⟩
   refine bb (.take 0<| .tk 3 5<| .pure 8<| .tk 4 1<| .tk 4 9<| .done) (by kernel_rfl) ?_
   simp only[bu,go_sem,hd,e1,f2,ac,ad]
   refine mN (.d (eD r1)) ⟨λ Z'=>bH (mo1 _ _ _ ⟨rfl,rfl⟩),?_⟩
   simp only[k1 r1,go_sem,f2,hfl,w2,fC,ac,ad]
   refine⟨⟨by omega,by omega⟩,⟨by simp only[maxLen];omega,by omega⟩,Wk.keep [1,2,4,5,12] [0,1,2,6] (by decide) (aE _) hbd ⟨p.locks.length - (j+1),by omega,j+1,by omega,rfl,by simp only[go_sem,bu],?_⟩⟩
   rw[hsn,aJ,hQ,aM,bq,hren,lck_snoc]
   simp only[go_sem,dj,cG]
  ·have hd:decide ((j:Int)<(p.locks.length:Int))=false:=by simp;omega
   obtain rfl:j=p.locks.length:=by omega
   rw[bB]
   simp only[go_sem,hd,ac,ad]
   refine Wk.via (bw.freezeIn (Z:=Z) 3 2 6 0 ((p.locks.map (Lck.ren to)).map iZ) rfl (lies_lck _) rfl (by decide)) ?_
   simp only[go_sem,ac,and_self,if_true,false_and,if_false]
   exact Wk.keep [1,2,4,5] [0,1,2] (by decide) (aE _) hbd ⟨by simp only[go_sem],by simp only[go_sem]⟩
 rintro fr st ⟨rfl,rfl⟩
 obtain⟨Ld,hLd⟩:∃Ld,D.sl 6 ((p.locks.map (Lck.ren to)).map iZ)=Ld:=⟨_,rfl⟩
 rw[hLd]
 have hnt:=hp.sm.nthr
 refine bc (λ fr st=>fr=%[.o,.o,.o,.o,.ref (Z.length+1) 0,.ref (Z.length+2) 0|D7 (D7 (D7 (D7 [.o,.o,.o,.o,.o])))]∧st=Z++[EM p,Ek Em Em Em Em,Ek (.d El) (.d Md) (.d Ld) (.d (.sl 7 ((p.threads.map (Thr.ren to)).map c8)))]) ?_ ?_
 ·try simp only[go_sem]
  refine aS (λ k fr st=>∃j:Nat,j≤p.threads.length∧k=p.threads.length - j∧fr=%[.o,.d (bu to),.ref Z.length 0,.o,.ref (Z.length+1) 0,.ref (Z.length+2) 0|D4 %[dn j|D7 (D7 (D7 (D6 (D5 (D4 [.o,.o,.o,.o])))))]]∧st=Z++[EM p,Ek Em Em Em Em,Ek (.d El) (.d Md) (.d Ld) (.rs (Z.length+3) 7 0 j (some 84)),some (.cells (bU (((p.threads.take j).map (Thr.ren to)).map c8)))]) p.threads.length _ ?_ ?_
  ·refine Wk.via (bw.emptyIn (Z:=Z) 2 3 7 (some 84) rfl rfl) ?_
   exact Wk.mask [1,2,4,5,14] ⟨0,by omega,by omega,rfl,rfl⟩
  rintro k fr st ⟨j,hj,hk,rfl,rfl⟩
  rcases aC j p.threads.length with hlt|hge
  ·have hd:decide ((j:Int)<(p.threads.length:Int))=true:=by simp;omega
   have w2:=bC j (by omega)
   have e1:=fe hlt
   have hmem:=bv fg hlt
   have hok:=wV hp.ok hlt
   have hsn:=bG fg hlt
   have hfl:=ES c8 7 (λ _=>rfl) ((p.threads.take j).map (Thr.ren to))
   rw[ac,aP,cC hj]at hfl
   unfold Prg.thr at hok
   generalize p.threads.getD j fg=X at e1 hmem hsn hok
   have hsm:=hp.sm.threads X hmem
   obtain⟨Q,hQ⟩:∃Q:List Thr,(p.threads.take j).map (Thr.ren to)=Q:=⟨_,rfl⟩
   rw[hQ]at hfl
   have Ef:c8 X= .agg [.str X.name,iD X.points,.sl 4 (X.asserts.map Ex.d),bu X.mods,.sl 11 (X.steps.map eP),.sl 6 (X.loops.map pt),.bool X.asleep]:=rfl
   rw[Ef]at e1
   have k1:∀e:Ex,eD e= .agg [iD e.op,iD e.w,iD e.n,.sl 4 (e.kids.map Ex.d)]:=λ e=>rfl
   simp only[go_sem,hd,e1,hQ,ac,ad]
   refine⟨⟨by omega,by omega⟩,?_⟩
   refine bc (λ fr st=>fr=%[.o,.d (bu to),.ref Z.length 0,.o,.ref (Z.length+1) 0,.ref (Z.length+2) 0|D4 %[dn j,.ref (Z.length+4) 0,.ref (Z.length+5) 0|D7 (D7 (D7 (D6 (D5 (D4 [.o,.o])))))]]∧st=Z++[EM p,Ek Em Em Em Em,Ek (.d El) (.d Md) (.d Ld) (.rs (Z.length+3) 7 0 j (some 84)),some (.cells (bU (Q.map c8))),En X (.d (.sl 4 (X.asserts.map Ex.d))) (.d (.sl 11 (X.steps.map eP))) (.d (.sl 6 (X.loops.map pt))),En X (.d (.sl 4 ((X.asserts.map (Ex.ren to)).map Ex.d))) Em Em]) ?_ ?_
   ·try simp only[go_sem]
    have hna:=hsm.nas
    refine aS (λ k fr st=>∃i:Nat,i≤X.asserts.length∧k=X.asserts.length - i∧fr=%[.o,.d (bu to),.ref Z.length 0,.o,.ref (Z.length+1) 0,.ref (Z.length+2) 0|D4 %[dn j,.ref (Z.length+4) 0,.ref (Z.length+5) 0,dn i|D7 (D7 (D7 (D6 (D5 (D4 [.o])))))]]∧st=Z++[EM p,Ek Em Em Em Em,Ek (.d El) (.d Md) (.d Ld) (.rs (Z.length+3) 7 0 j (some 84)),some (.cells (bU (Q.map c8))),En X (.d (.sl 4 (X.asserts.map Ex.d))) (.d (.sl 11 (X.steps.map eP))) (.d (.sl 6 (X.loops.map pt))),En X (.rs (Z.length+6) 4 0 i (some 64)) Em Em,some (.cells (bU (((X.asserts.take i).map (Ex.ren to)).map Ex.d)))]) X.asserts.length _ ?_ ?_
    ·refine Wk.via (bw.emptyIn (Z:=Z) 5 2 4 (some 64) rfl rfl) ?_
     exact Wk.mask [1,2,4,5,14,15,16,17] ⟨0,by omega,by omega,rfl,rfl⟩
    rintro k fr st ⟨i,hi,hk2,rfl,rfl⟩
    rcases aC i X.asserts.length with hil|hig
    ·have hd2:decide ((i:Int)<(X.asserts.length:Int))=true:=by simp;omega
     have w3:=bC i (by omega)
     have e2:=Gy hil
     have hm2:=bv zQ hil
     have hs2:=bG zQ hil
     have hf2:=xC ((X.asserts.take i).map (Ex.ren to))
     rw[ac,aP,cC hi]at hf2
     generalize X.asserts.getD i zQ=e at e2 hm2 hs2
     have mo1:=mo e (hsm.asserts e hm2)
     obtain⟨Q2,hQ2⟩:∃Q2:List Ex,(X.asserts.take i).map (Ex.ren to)=Q2:=⟨_,rfl⟩
     rw[hQ2]at hf2
     obtain⟨r1,hr1⟩:∃r1,e.ren to=r1:=⟨_,rfl⟩
     rw[hr1,k1 e]at mo1
     rw[k1 e]at e2
     simp only[go_sem,hd2,e2,hQ2,ac,ad]
     refine bb (.tk 6 2<| .pure 8<| .tk 2 0<| .tk 4 9<| .done) (by kernel_rfl) ?_
     simp only[go_sem,hd2,e2,ac,ad]
     refine⟨⟨by omega,by omega⟩,mN (.d (eD r1)) ⟨λ Z'=>bH (mo1 _ _ _ ⟨rfl,rfl⟩),?_⟩⟩
     simp only[k1 r1,go_sem,hf2,w3,fC,ac,ad]
     refine⟨⟨by simp only[maxLen];omega,by omega⟩,Wk.keep [1,2,4,5,14,15,16,17] [0,1,2,3,4,5,8] (by decide) (aE _) hbd ⟨X.asserts.length - (i+1),by omega,i+1,by omega,rfl,by simp only[go_sem],?_⟩⟩
     rw[hs2,aJ,hQ2,aM,bq,hr1,Fy]
     simp only[go_sem,dj,cG]
    ·have hd2:decide ((i:Int)<(X.asserts.length:Int))=false:=by simp;omega
     obtain rfl:i=X.asserts.length:=by omega
     rw[bB]
     simp only[go_sem,hd2,ac,ad]
     refine Wk.via (bw.freezeIn (Z:=Z) 6 5 4 0 ((X.asserts.map (Ex.ren to)).map Ex.d) rfl (Fv _) rfl (by decide)) ?_
     simp only[go_sem,ac,and_self,if_true,false_and,if_false]
     exact Wk.keep [1,2,4,5,14,15,16] [0,1,2,3,4,5] (by decide) (aE _) hbd ⟨by simp only[go_sem],by simp only[go_sem]⟩
   rintro fr st ⟨rfl,rfl⟩
   obtain⟨Ej,hAd⟩:∃Ej,D.sl 4 ((X.asserts.map (Ex.ren to)).map Ex.d)=Ej:=⟨_,rfl⟩
   rw[hAd]
   refine bc (λ fr st=>fr=%[.o,.d (bu to),.ref Z.length 0,.o,.ref (Z.length+1) 0,.ref (Z.length+2) 0|D4 %[dn j,.ref (Z.length+4) 0,.ref (Z.length+5) 0|D7 (D7 (D7 (D6 (D5 (D4 [.o,.o])))))]]∧st=Z++[EM p,Ek Em Em Em Em,Ek (.d El) (.d Md) (.d Ld) (.rs (Z.length+3) 7 0 j (some 84)),some (.cells (bU (Q.map c8))),En X (.d (.sl 4 (X.asserts.map Ex.d))) (.d (.sl 11 (X.steps.map eP))) (.d (.sl 6 (X.loops.map pt))),En X (.d Ej) (.d (.sl 11 ((X.steps.map (Stp.ren to)).map eP))) Em]) ?_ ?_
   ·try simp only[go_sem]
    have hns:=hsm.nst
    refine aS (λ k fr st=>∃i:Nat,i≤X.steps.length∧k=X.steps.length - i∧fr=%[.o,.d (bu to),.ref Z.length 0,.o,.ref (Z.length+1) 0,.ref (Z.length+2) 0|D4 %[dn j,.ref (Z.length+4) 0,.ref (Z.length+5) 0,.o,dn i|D7 (D7 (D7 (D6 (D5 (D4 [])))))]]∧st=Z++[EM p,Ek Em Em Em Em,Ek (.d El) (.d Md) (.d Ld) (.rs (Z.length+3) 7 0 j (some 84)),some (.cells (bU (Q.map c8))),En X (.d (.sl 4 (X.asserts.map Ex.d))) (.d (.sl 11 (X.steps.map eP))) (.d (.sl 6 (X.loops.map pt))),En X (.d Ej) (.rs (Z.length+6) 11 0 i (some 93)) Em,some (.cells (bU (((X.steps.take i).map (Stp.ren to)).map eP)))]) X.steps.length _ ?_ ?_
    ·refine Wk.via (bw.emptyIn (Z:=Z) 5 4 11 (some 93) rfl rfl) ?_
     exact Wk.mask [1,2,4,5,14,15,16,18] ⟨0,by omega,by omega,rfl,rfl⟩
    rintro k fr st ⟨i,hi,hk2,rfl,rfl⟩
    rcases aC i X.steps.length with hil|hig
    ·have hd2:decide ((i:Int)<(X.steps.length:Int))=true:=by simp;omega
     have w3:=bC i (by omega)
     have e2:=mw hil
     have hm2:=bv jY hil
     have hs2:=bG jY hil
     have hf2:=ES eP 11 (λ _=>rfl) ((X.steps.take i).map (Stp.ren to))
     rw[ac,aP,cC hi]at hf2
     generalize X.steps.getD i jY=S at e2 hm2 hs2
     have hss:=hsm.steps S hm2
     have hso:=hok.steps S hm2
     have mo1:=mo S.guard hss.guard
     have hsl:=hss.set
     obtain⟨Q2,hQ2⟩:∃Q2:List Stp,(X.steps.take i).map (Stp.ren to)=Q2:=⟨_,rfl⟩
     rw[hQ2]at hf2
     obtain⟨r1,hr1⟩:∃r1,S.guard.ren to=r1:=⟨_,rfl⟩
     rw[hr1,k1 S.guard]at mo1
     have ks:eP S= .agg [iD S.kind,iD S.src,iD S.dst,iD S.guard.op,iD S.guard.w,iD S.guard.n,.sl 4 (S.guard.kids.map Ex.d),.sl 5 (S.set.map dM),.bool S.rel,iD S.target,iD S.mod]:=rfl
     rw[ks]at e2
     simp only[go_sem,hd2,e2,hQ2,ac,ad]
     refine⟨⟨by omega,by omega⟩,bH (mo1 _ _ _ ?_)⟩
     simp only[k1 r1,go_sem]
     refine bc (λ fr st=>fr=%[.o,.d (bu to),.ref Z.length 0,.o,.ref (Z.length+1) 0,.ref (Z.length+2) 0|D4 %[dn j,.ref (Z.length+4) 0,.ref (Z.length+5) 0,.o,dn i,.ref (Z.length+7) 0|D7 (D7 (D7 (D6 (D5 [.o,.o,.o,.o,.o,.o,.o]))))]]∧st=Z++[EM p,Ek Em Em Em Em,Ek (.d El) (.d Md) (.d Ld) (.rs (Z.length+3) 7 0 j (some 84)),some (.cells (bU (Q.map c8))),En X (.d (.sl 4 (X.asserts.map Ex.d))) (.d (.sl 11 (X.steps.map eP))) (.d (.sl 6 (X.loops.map pt))),En X (.d Ej) (.rs (Z.length+6) 11 0 i (some 93)) Em,some (.cells (bU (Q2.map eP))),D8 S r1 (.d (.sl 5 ((S.set.map (Asg.ren to)).map dM)))]) ?_ ?_
     ·try simp only[go_sem]
      refine aS (λ k fr st=>∃u:Nat,u≤S.set.length∧k=S.set.length - u∧fr=%[.o,.d (bu to),.ref Z.length 0,.o,.ref (Z.length+1) 0,.ref (Z.length+2) 0|D4 %[dn j,.ref (Z.length+4) 0,.ref (Z.length+5) 0,.o,dn i,.ref (Z.length+7) 0,dn u|D7 (D7 (D7 (D6 (D5 [.o,.o,.o,.o,.o,.o]))))]]∧st=Z++[EM p,Ek Em Em Em Em,Ek (.d El) (.d Md) (.d Ld) (.rs (Z.length+3) 7 0 j (some 84)),some (.cells (bU (Q.map c8))),En X (.d (.sl 4 (X.asserts.map Ex.d))) (.d (.sl 11 (X.steps.map eP))) (.d (.sl 6 (X.loops.map pt))),En X (.d Ej) (.rs (Z.length+6) 11 0 i (some 93)) Em,some (.cells (bU (Q2.map eP))),D8 S r1 (.rs (Z.length+8) 5 0 u (some 95)),some (.cells (bU (((S.set.take u).map (Asg.ren to)).map dM)))]) S.set.length _ ?_ ?_
      ·refine Wk.via (bw.emptyIn (Z:=Z) 7 7 5 (some 95) rfl rfl) ?_
       exact Wk.mask [1,2,4,5,14,15,16,18,19,20] ⟨0,by omega,by omega,rfl,rfl⟩
      rintro k fr st ⟨u,hu,hk3,rfl,rfl⟩
      rcases aC u S.set.length with hul|hug
      ·have hd3:decide ((u:Int)<(S.set.length:Int))=true:=by simp;omega
       have w4:=bC u (by omega)
       have e3:=iP hul
       have hm3:=bv dt hul
       have hs3:=bG dt hul
       have hf3:=ES dM 5 (λ _=>rfl) ((S.set.take u).map (Asg.ren to))
       rw[ac,aP,cC hu]at hf3
       generalize S.set.getD u dt=a at e3 hm3 hs3
       have mo2:=mo a.to (hss.to a hm3)
       have hcr:=cS.1 (hso.set a hm3).cell
       have hmi:=EW h hcr
       obtain⟨c,hc⟩:∃c:Nat,a.cell=(c:Int):=⟨a.cell.toNat,by omega⟩
       have f2:=bW (l:=to) (j:=c) (by omega)
       rw[hc,ad]at hmi
       obtain⟨Q3,hQ3⟩:∃Q3:List Asg,(S.set.take u).map (Asg.ren to)=Q3:=⟨_,rfl⟩
       rw[hQ3]at hf3
       obtain⟨r2,hr2⟩:∃r2,a.to.ren to=r2:=⟨_,rfl⟩
       rw[hr2,k1 a.to]at mo2
       have hren:Asg.ren to a=⟨to.getD c 0,r2⟩:=by rw[←hr2,←hmi,←hc];rfl
       have ka:dM a= .agg [iD a.cell,iD a.to.op,iD a.to.w,iD a.to.n,.sl 4 (a.to.kids.map Ex.d)]:=rfl
       rw[ka,hc]at e3
       simp only[bu,go_sem,hd2,hd3,e2,e3,hQ3,ac,ad]
       refine⟨⟨by omega,by omega⟩,⟨by omega,by omega⟩,⟨by omega,by omega⟩,?_⟩
       refine bb (.take 2<| .tk 3 7<| .pure 10<| .tk 2 0<| .tk 4 3<| .tk 5 11<| .done) (by kernel_rfl) ?_
       simp only[bu,go_sem,f2,ac,ad]
       refine mN (.d (eD r2)) ⟨λ Z'=>bH (mo2 _ _ _ ⟨rfl,rfl⟩),?_⟩
       simp only[k1 r2,bu,go_sem,f2,hf3,w4,fC,ac,ad]
       refine⟨⟨by omega,by omega⟩,⟨by simp only[maxLen];have:=hss.set;omega,by have:=hss.set;omega⟩,Wk.keep [1,2,4,5,14,15,16,18,19,20] [0,1,2,3,4,5,6,7,11] (by decide) (aE _) hbd ⟨S.set.length - (u+1),by omega,u+1,by omega,rfl,by simp only[go_sem,bu],?_⟩⟩
       rw[hs3,aJ,hQ3,aM,bq,hren,asg_snoc]
       simp only[go_sem,dj,cG]
      ·have hd3:decide ((u:Int)<(S.set.length:Int))=false:=by simp;omega
       obtain rfl:u=S.set.length:=by omega
       rw[bB]
       simp only[go_sem,hd2,hd3,e2,ac,ad]
       refine⟨⟨by omega,by omega⟩,?_⟩
       refine Wk.via (bw.freezeIn (Z:=Z) 8 7 5 0 ((S.set.map (Asg.ren to)).map dM) rfl (ud _) rfl (by decide)) ?_
       simp only[go_sem,ac,and_self,if_true,false_and,if_false]
       exact Wk.keep [1,2,4,5,14,15,16,18,19] [0,1,2,3,4,5,6,7] (by decide) (aE _) hbd ⟨by simp only[go_sem],by simp only[go_sem]⟩
     rintro fr st ⟨rfl,rfl⟩
     have hren:Stp.ren to S=⟨S.kind,S.src,S.dst,r1,S.set.map (Asg.ren to),S.rel,S.target,S.mod⟩:=by rw[←hr1];rfl
     simp only[go_sem,hf2,w3,fC]
     refine⟨⟨by simp only[maxLen];omega,by omega⟩,Wk.keep [1,2,4,5,14,15,16,18] [0,1,2,3,4,5,9] (by decide) (aE _) hbd ⟨X.steps.length - (i+1),by omega,i+1,by omega,rfl,by simp only[go_sem],?_⟩⟩
     rw[hs2,aJ,hQ2,aM,bq,hren,stp_snoc]
     simp only[go_sem,dj,cG]
    ·have hd2:decide ((i:Int)<(X.steps.length:Int))=false:=by simp;omega
     obtain rfl:i=X.steps.length:=by omega
     rw[bB]
     simp only[go_sem,hd2,ac,ad]
     refine Wk.via (bw.freezeIn (Z:=Z) 6 5 11 0 ((X.steps.map (Stp.ren to)).map eP) rfl (lies_stp _) rfl (by decide)) ?_
     simp only[go_sem,ac,and_self,if_true,false_and,if_false]
     exact Wk.keep [1,2,4,5,14,15,16] [0,1,2,3,4,5] (by decide) (aE _) hbd ⟨by simp only[go_sem],by simp only[go_sem]⟩
   rintro fr st ⟨rfl,rfl⟩
   obtain⟨Sd,hSd⟩:∃Sd,D.sl 11 ((X.steps.map (Stp.ren to)).map eP)=Sd:=⟨_,rfl⟩
   rw[hSd]
   refine bc (λ fr st=>fr=%[.o,.d (bu to),.ref Z.length 0,.o,.ref (Z.length+1) 0,.ref (Z.length+2) 0|D4 %[dn j,.ref (Z.length+4) 0,.ref (Z.length+5) 0|D7 (D7 (D7 (D6 (D5 (D4 [.o,.o])))))]]∧st=Z++[EM p,Ek Em Em Em Em,Ek (.d El) (.d Md) (.d Ld) (.rs (Z.length+3) 7 0 j (some 84)),some (.cells (bU (Q.map c8))),En X (.d (.sl 4 (X.asserts.map Ex.d))) (.d (.sl 11 (X.steps.map eP))) (.d (.sl 6 (X.loops.map pt))),En X (.d Ej) (.d Sd) (.d (.sl 6 ((X.loops.map (Lop.ren to)).map pt)))]) ?_ ?_
   ·try simp only[go_sem]
    have hno:=hsm.nlo
    refine aS (λ k fr st=>∃i:Nat,i≤X.loops.length∧k=X.loops.length - i∧fr=%[.o,.d (bu to),.ref Z.length 0,.o,.ref (Z.length+1) 0,.ref (Z.length+2) 0|D4 %[dn j,.ref (Z.length+4) 0,.ref (Z.length+5) 0,.o,.o,.o,.o,.o,dn i|D7 (D7 (D7 (D6 (D5 [.o,.o,.o,.o]))))]]∧st=Z++[EM p,Ek Em Em Em Em,Ek (.d El) (.d Md) (.d Ld) (.rs (Z.length+3) 7 0 j (some 84)),some (.cells (bU (Q.map c8))),En X (.d (.sl 4 (X.asserts.map Ex.d))) (.d (.sl 11 (X.steps.map eP))) (.d (.sl 6 (X.loops.map pt))),En X (.d Ej) (.d Sd) (.rs (Z.length+6) 6 0 i (some 97)),some (.cells (bU (((X.loops.take i).map (Lop.ren to)).map pt)))]) X.loops.length _ ?_ ?_
    ·refine Wk.via (bw.emptyIn (Z:=Z) 5 5 6 (some 97) rfl rfl) ?_
     exact Wk.mask [1,2,4,5,14,15,16,22] ⟨0,by omega,by omega,rfl,rfl⟩
    rintro k fr st ⟨i,hi,hk2,rfl,rfl⟩
    rcases aC i X.loops.length with hil|hig
    ·have hd2:decide ((i:Int)<(X.loops.length:Int))=true:=by simp;omega
     have w3:=bC i (by omega)
     have e2:=A5 hil
     have hm2:=bv vg hil
     have hs2:=bG vg hil
     have hf2:=ES pt 6 (λ _=>rfl) ((X.loops.take i).map (Lop.ren to))
     rw[ac,aP,cC hi]at hf2
     generalize X.loops.getD i vg=S at e2 hm2 hs2
     have mo1:=mo S.var (hsm.loops S hm2).2
     obtain⟨Q2,hQ2⟩:∃Q2:List Lop,(X.loops.take i).map (Lop.ren to)=Q2:=⟨_,rfl⟩
     rw[hQ2]at hf2
     obtain⟨r1,hr1⟩:∃r1,S.var.ren to=r1:=⟨_,rfl⟩
     rw[hr1,k1 S.var]at mo1
     have hren:Lop.ren to S=⟨S.head,S.body,r1⟩:=by rw[←hr1];rfl
     have ks:pt S= .agg [iD S.head,bu S.body,iD S.var.op,iD S.var.w,iD S.var.n,.sl 4 (S.var.kids.map Ex.d)]:=rfl
     rw[ks]at e2
     simp only[go_sem,hd2,e2,hQ2,ac,ad]
     refine⟨⟨by omega,by omega⟩,bH (mo1 _ _ _ ?_)⟩
     simp only[k1 r1,go_sem,hf2,w3,fC]
     refine⟨⟨by simp only[maxLen];omega,by omega⟩,Wk.keep [1,2,4,5,14,15,16,22] [0,1,2,3,4,5,9] (by decide) (aE _) hbd ⟨X.loops.length - (i+1),by omega,i+1,by omega,rfl,by simp only[go_sem],?_⟩⟩
     rw[hs2,aJ,hQ2,aM,bq,hren,lop_snoc]
     simp only[go_sem,dj,cG]
    ·have hd2:decide ((i:Int)<(X.loops.length:Int))=false:=by simp;omega
     obtain rfl:i=X.loops.length:=by omega
     rw[bB]
     simp only[go_sem,hd2,ac,ad]
     refine Wk.via (bw.freezeIn (Z:=Z) 6 5 6 0 ((X.loops.map (Lop.ren to)).map pt) rfl (lies_lop _) rfl (by decide)) ?_
     simp only[go_sem,ac,and_self,if_true,false_and,if_false]
     exact Wk.keep [1,2,4,5,14,15,16] [0,1,2,3,4,5] (by decide) (aE _) hbd ⟨by simp only[go_sem],by simp only[go_sem]⟩
   rintro fr st ⟨rfl,rfl⟩
   simp only[go_sem,hfl,w2,fC]
   refine⟨⟨by simp only[maxLen];omega,by omega⟩,Wk.keep [1,2,4,5,14] [0,1,2,7] (by decide) (aE _) hbd ⟨p.threads.length - (j+1),by omega,j+1,by omega,rfl,by simp only[go_sem],?_⟩⟩
   rw[hsn,aJ,hQ,aM,bq,GF]
   simp only[go_sem,dj,cG,Thr.ren,hAd,hSd]
  ·have hd:decide ((j:Int)<(p.threads.length:Int))=false:=by simp;omega
   obtain rfl:j=p.threads.length:=by omega
   rw[bB]
   simp only[go_sem,hd,ac,ad]
   refine Wk.via (bw.freezeIn (Z:=Z) 3 2 7 0 ((p.threads.map (Thr.ren to)).map c8) rfl (Ga _) rfl (by decide)) ?_
   simp only[go_sem,ac,and_self,if_true,false_and,if_false]
   exact Wk.keep [4,5] [0,1,2] (by decide) (aE _) hbd ⟨by simp only[go_sem],by simp only[go_sem]⟩
 rintro fr st ⟨rfl,rfl⟩
 try simp only[go_sem]
 have hpr:bK (p.ren to)= .agg [El,Md,Ld,.sl 7 ((p.threads.map (Thr.ren to)).map c8)]:=by rw[←hCd,←hMd,←hLd];rfl
 rw[hpr]at hR
 exact aQ hbd hR
theorem perm_any(n:Nat)(hn:n≤1000)(bs:List Int)(hb:∀x∈bs,0≤x∧x<256)(hbl:bs.length≤reachBytes)(Z:St)(G:Glob)(R:A→St→Prop)(h:∀to,Perm n to→R (.d (bu to)) Z):AC Tryz.prog G 9 [dn n,.d (.sl 1 (bs.map ET))] Z R:=by
 have hbl2:=rS hbl
 refine bD [6] a9 Tryz.func9 rfl Tryz.ntmps9 (by simp only[go_sem]) λ hbd=> ?_
 simp only[ae,aj,Nat.reduceAdd,Nat.reduceSub,af,ag,ah,ak]
 try simp only[go_sem]
 refine⟨⟨by omega,by omega,by omega,by omega⟩,?_⟩
 refine bc (λ fr st=>fr=%[dn n,.d (.sl 1 (bs.map ET)),.o,.o,.o,.rs Z.length 1 0 n (some 3)|D6 (D4 [.o,.o,.o,.o,.o,.o,.o])]∧st=Z++[bY (E8 n n)]) ?_ ?_
 ·have hz:(List.replicate n [A.d (D.int IntKind.i64 0)]).flatten=(E8 n 0).map λ x=>A.d (iD x):=by simp [E8]
  try simp only[go_sem]
  refine aS (λ k fr st=>∃j:Nat,j≤n∧k=n - j∧fr=%[dn n,.d (.sl 1 (bs.map ET)),.o,.o,.o,.rs Z.length 1 0 n (some 3),dn j|D6 (D4 [.o,.o,.o,.o,.o,.o])]∧st=Z++[bY (E8 n j)]) n _ (Wk.mask [0,1,5,6] ⟨0,by omega,by omega,rfl,by rw[bY,←hz]⟩) ?_
  rintro k fr st ⟨j,hj,hk,rfl,rfl⟩
  have hul:=FY hj
  rcases aC j n with hlt|hge
  ·have hd:decide ((j:Int)<(n:Int))=true:=by simp;omega
   have w2:=bC j (by omega)
   have hset:=kH (l:=E8 n j) (j:=j) (j:Int) (by omega)
   rw[GD hlt]at hset
   simp only[bY,go_sem,hd,w2,ac,hul,hset,ad,br,ci]
   exact⟨⟨by omega,by omega⟩,by omega,Wk.mask [0,1,5,6] ⟨n - (j+1),by omega,j+1,by omega,rfl,rfl,rfl⟩⟩
  ·have hd:decide ((j:Int)<(n:Int))=false:=by simp;omega
   have:j=n:=by omega
   subst this
   simp only[go_sem,hd]
   exact Wk.mask [0,1,5] ⟨rfl,rfl⟩
 rintro fr st ⟨rfl,rfl⟩
 try simp only[go_sem]
 refine aS (λ k fr st=>∃(j:Nat) (L:List Int),j≤n∧j≤bs.length∧k=n - j∧Perm n L∧fr=%[dn n,.d (.sl 1 (bs.map ET)),.o,.o,.o,.rs Z.length 1 0 n (some 3),.o,dn j|D6 (D4 [.o,.o,.o,.o,.o])]∧st=Z++[bY L]) n _ (Wk.mask [0,1,5,7] ⟨0,E8 n n,by omega,by omega,by omega,GE n,rfl,rfl⟩) ?_
 rintro k fr st ⟨j,L,hj,hj2,hk,hp,rfl,rfl⟩
 have hLl:=hp.len
 rcases aC j n with hlt|hge
 ·have hd:decide ((j:Int)<(n:Int))=true:=by simp;omega
  rcases aC j bs.length with hl2|hg2
  ·have hd2:decide ((j:Int)<(bs.length:Int))=true:=by simp;omega
   have w2:=bC j (by omega)
   have e1:=Gn (l:=bs) hl2
   have hx:=hb _ (bv 0 hl2)
   generalize bs.getD j 0=x at e1 hx
   have wx:IntKind.i64.wrap x=x:=cq _ (by omega) (by omega)
   have hnz:((n:Int)==0)=false:=by rw[ck];omega
   simp only[go_sem,hd,hd2,e1,ET,wx,hnz,ac,ad]
   obtain⟨y,hy,hyn⟩:∃y:Nat,x.tmod (n:Int)=(y:Int)∧y<n:=by
    have h1:=EA (n:Int) hx.1
    have h2:=Ev x (show(0:Int)<(n:Int)by omega)
    exact⟨(x.tmod (n:Int)).toNat,by omega,by omega⟩
   have ey:=Fw (l:=L) (k:=y) (by omega)
   have ej:=Fw (l:=L) (k:=j) (by omega)
   have s1:=kH (l:=L) (j:=j) (L.getD y 0) (by omega)
   have s2:=kH (l:=L.set j (L.getD y 0)) (j:=y) (L.getD j 0) (by rw[aH];omega)
   have hsw:=hp.swap hlt hyn
   have hl2':(L.set j (L.getD y 0)).length=n:=by rw[aH];exact hLl
   refine⟨⟨by omega,by omega⟩,by omega,?_⟩
   refine bb (.tk 16 0<| .done) (by kernel_rfl) ?_
   simp only[bY,go_sem,hd,hd2,w2,hy,ey,ej,s1,s2,ac,aH,ad,br,ci]
   exact⟨⟨by omega,by omega⟩,by omega,⟨by omega,by omega⟩,by omega,⟨by omega,by omega⟩,by omega,⟨by omega,by omega⟩,by omega,Wk.mask [0,1,5,7] ⟨n - (j+1),by omega,j+1,_,by omega,by omega,rfl,hsw,rfl,rfl⟩⟩
  ·have hd2:decide ((j:Int)<(bs.length:Int))=false:=by simp;omega
   simp only[go_sem,hd,hd2,ac,ad]
   refine de 0 1 0 (L.map iD) rfl (cJ _) ?_
   simp only[go_sem,ac]
   rw[if_pos (by omega)]
   exact aQ hbd (h L hp)
 ·have hd:decide ((j:Int)<(n:Int))=false:=by simp;omega
  simp only[go_sem,hd,ac,ad]
  refine de 0 1 0 (L.map iD) rfl (cJ _) ?_
  simp only[go_sem,ac]
  rw[if_pos (by omega)]
  exact aQ hbd (h L hp)
theorem F5{p:Prg}(hp:p.Ok){m:Int}:∀{L:List Cho} {c:Cfg},Fits p m c→fK p m c L→∀x∈L,x.step= -1→0≤x.cell∧x.cell<p.cells.length
 |[],_,_,_,x,hx,_=>by cases hx
 |y::L,c,hf,hr,x,hx,hs=>by
  rcases aV.1 hx with rfl|hx
  ·obtain⟨t,ht,⟨i,hi,he,rfl⟩|⟨i,hi,he,rfl⟩⟩:=l9.1 hr.1
   ·exact absurd hs (by show(i:Int)≠-1;omega)
   ·have hin:(c.bufAt t).getD i cD∈c.bufAt t:=by rw[au,ap hi];exact bI hi
    have hE:=(hf.bufOk t).2 _ hin
    obtain⟨a,r,har⟩:=List.exists_cons_of_ne_nil hE.pos
    have:=(eJ.1 (hE.cell 0 a (by rw[har];rfl)).1).1
    show 0≤List.getD _ 0 0∧List.getD _ 0 0<_
    rw[har]
    exact this
  ·exact F5 hp (rp hp hf hr.1) hr.2 x hx hs
theorem FT(l:List Cho)(i:Nat)(hi:i<l.length)(c:Int):(bU (l.map c7)).set (i*3+2) (.d (iD c))=bU ((l.set i ⟨(l.getD i fE).thread,(l.getD i fE).step,c⟩).map c7):=by
 induction l generalizing i with
 |nil=>simp at hi
 |cons a l ih=>
  have e:bU ((a::l).map c7)=[.d (iD a.thread),.d (iD a.step),.d (iD a.cell)]++bU (l.map c7):=rfl
  rw[e]
  cases i with
  |zero=>rfl
  |succ i=>
   have e2:(i+1)*3+2=(i*3+2)+3:=by omega
   rw[Er _ _ (by simp;omega)]
   have:=ih i (by simpa using hi)
   rw[show(i+1)*3+2 - [A.d (iD a.thread),A.d (iD a.step),A.d (iD a.cell)].length=i*3+2 by simp;omega,this]
   rfl
theorem E7(l:List Cho)(i:Nat)(hi:i<l.length):List.drop (i*3) (bU (l.map c7))=[.d (iD (l.getD i fE).thread),.d (iD (l.getD i fE).step),.d (iD (l.getD i fE).cell)]++bU ((l.drop (i+1)).map c7):=by
 induction l generalizing i with
 |nil=>simp at hi
 |cons a l ih=>
  have e:bU ((a::l).map c7)=[.d (iD a.thread),.d (iD a.step),.d (iD a.cell)]++bU (l.map c7):=rfl
  rw[e]
  cases i with
  |zero=>rfl
  |succ i=>
   rw[show(i+1)*3=[A.d (iD a.thread),A.d (iD a.step),A.d (iD a.cell)].length+i*3 by simp;omega,List.drop_length_add_append,ih i (by simpa using hi)]
   rfl
theorem FE(l:List Cho)(i:Nat)(hi:i<l.length):List.getD (bU (l.map c7)) (i*3+1) .o= .d (iD (l.getD i fE).step):=by
 have h:=E7 l i hi
 have e:(List.drop (i*3) (bU (l.map c7)))[1]? =some (.d (iD (l.getD i fE).step)):=by rw[h];rfl
 rw[bE]at e
 rw[au,e];rfl
theorem FF(l:List Cho)(i:Nat)(hi:i<l.length):List.getD (bU (l.map c7)) (i*3+2) .o= .d (iD (l.getD i fE).cell):=by
 have h:=E7 l i hi
 have e:(List.drop (i*3) (bU (l.map c7)))[2]? =some (.d (iD (l.getD i fE).cell)):=by rw[h];rfl
 rw[bE]at e
 rw[au,e];rfl
def EU(to:List Int)(L:List Cho)(j:Nat):List Cho:=(L.take j).map (Cho.ren to)++L.drop j
theorem movL_len(to:List Int)(L:List Cho)(j:Nat):(EU to L j).length=L.length:=by simp [EU];omega
theorem movL_at{to:List Int}{L:List Cho}{j:Nat}(h:j<L.length):(EU to L j).getD j fE=L.getD j fE:=by
 unfold EU
 rw[au,az (by simp;omega),ac,aP,cC (by omega),Et,bE,dY,au]
theorem GJ{to:List Int}{L:List Cho}{j:Nat}(h:j<L.length):EU to L (j+1)=(EU to L j).set j ((L.getD j fE).ren to):=by
 unfold EU
 rw[bG fE h,aJ,aU,ry fE h,Er _ _ (by simp;omega)]
 simp
 rw[cC (by omega),Et]
 simp
theorem buf_snoc(l:List (List Ent))(b:List Ent):bU ((l++[b]).map cu)=bU (l.map cu)++[.d (.sl 2 (b.map bO))]:=by
 rw[aJ,cZ];rfl
theorem ent_snoc(l:List Ent)(e:Ent):bU ((l++[e]).map bO)=bU (l.map bO)++[.d (bu e.cells),.d (bu e.vals)]:=by
 rw[aJ,cZ];rfl
theorem lies_buf(l:List (List Ent)):mQ (bU (l.map cu)) 1 0 (l.map cu):=lx λ x hx=>by
 obtain⟨a,-,rfl⟩:=aI.1 hx
 refine⟨rfl,λ y hy=> ?_⟩
 simp only[cu,D.cells,aV,bi,or_false]at hy
 rcases hy with rfl
 rfl
def Fj(n:Nat)(to mem:List Int)(j:Nat):List Int:=EK (List.replicate n 0) ((to.zip mem).take j)
theorem memR_len(n:Nat)(to mem:List Int)(j:Nat):(Fj n to mem j).length=n:=by rw[Fj,E1,fd]
theorem GK{n:Nat}{to mem:List Int}(h:Perm n to)(hm:mem.length=n){j:Nat}(hj:j<n):Fj n to mem (j+1)=(Fj n to mem j).set (to.getD j 0).toNat (mem.getD j 0):=by
 have hl:=h.len
 have hz:(to.zip mem).length=n:=by rw[f9,hl];omega
 unfold Fj
 rw[bG (0,0) (by omega),EK,EK,dG]
 have e:(to.zip mem).getD j (0,0)=(to.getD j 0,mem.getD j 0):=by
  rw[au,ap (by omega),List.getElem_zip,au,ap (by omega),au,ap (by omega)];rfl
 rw[e];rfl
theorem memR_end{n:Nat}{to mem:List Int}(h:Perm n to)(hm:mem.length=n):Fj n to mem n=Eu 0 to mem:=by
 have hl:=h.len
 have hz:(to.zip mem).length=n:=by rw[f9,hl];omega
 unfold Fj
 rw[aK (by omega),Eu,hl]
def RcOut(p:Prg)(m:Int)(a:A)(e:Int):Prop:=(a= .d .nils∧e=2∧∃S,Steps p m (kP p m) S∧S.V.length=600+1)∨(∃S,a= .d (.sl 3 ((S.V.map Vis.cfg).map bX))∧e=0∧Steps p m (kP p m) S∧eX p m S=none∧S.V.length≤600)
theorem Fp {G:Glob} (hG:G.g 0=some cB) (hpan:∀a s,¬G.pan a s) (p:Prg) (hz:PrgSz p) (md:Int) (hmd:0≤md∧md<256) (picks perm:List Int) (hpk:picks.length≤reachBytes) (hp0:∀x∈picks,0≤x∧x<256) (hpe:perm.length≤reachBytes) (he0:∀x∈perm,0≤x∧x<256)
  (Z:St) (R:A→St→Prop) (h:R (db true) Z):AC Tryz.prog G 3 [.d (bK p),.d (.int .u8 md),.d (.sl 1 (picks.map ET)),.d (.sl 1 (perm.map ET))] Z R:=by
 have up:=yV hG hpan
 have sm:=FQ p hz
 have wm:IntKind.i64.wrap md=md:=cq _ (by omega) (by omega)
 have z3:((3:Int)==0)=false:=rfl
 obtain⟨m,hm,hm2⟩:=mod3 md hmd
 unfold bK at*
 refine bD [5,6,7,8,14,15,16,18,23,24,28,41,43,45,47,48,49] a9 Tryz.func3 rfl Tryz.ntmps3 (by simp only[go_sem]) λ hbd=> ?_
 simp only[ae,aj,Nat.reduceAdd,Nat.reduceSub,af,ag,ah,ak]
 try simp only[go_sem]
 refine bH (up _ _ ?_)
 simp only[go_sem,wm,z3,hm]
 refine⟨by decide,?_⟩
 refine bc (λ fr st=>p.Small∧p.Ok∧fr=%[.o,.o,.d (.sl 1 (picks.map ET)),.d (.sl 1 (perm.map ET)),.ref Z.length 0,.o,.o,.o,db false,db true,di m|D7 (D7 (D7 (D6 (D4 [.o,.o,.o,.o]))))]∧st=Z++[bN p]) ?_ ?_
 ·try simp only[go_sem]
  refine bH (sm _ _ _ λ b hb=> ?_)
  cases b with
  |false=>
   try simp only[go_sem]
   refine gO (.bool true) ⟨λ z=>Bool.noConfusion z,?_⟩
   try simp only[go_sem]
   exact dq hbd rfl h
  |true=>
   obtain⟨h1,h2⟩:=hb rfl
   have ok:=ok_r p h1 hz.nm
   unfold bK at ok
   try simp only[go_sem]
   refine gO (.bool true) ⟨λ _=>⟨rfl,bH (ok _ _ _ λ b hb=> ?_)⟩,?_⟩
   ·have:b=true:=hb.2 h2
    simp only[this,go_sem]
   try simp only[go_sem]
   exact Wk.mask [2,3,4,8,9,10] ⟨h1,h2,rfl,rfl⟩
 rintro fr st ⟨h1,h2,rfl,rfl⟩
 have hp:Good p:=⟨h1,h2,hz.nm⟩
 have hnc:=h1.ncel
 have rc:=Fl hG hpan p hp m hm2 600 (by omega)
 have wk:=Gi p hp m hm2 picks hpk hp0
 have rn:=Fk hG hpan p hp m hm2
 have Eo:=perm_any p.cells.length (by omega) perm he0 hpe
 unfold bK at rc wk rn
 refine bc (λ fr st=>∃to,Perm p.cells.length to∧fr=%[.o,.o,.d (.sl 1 (picks.map ET)),.o,.ref Z.length 0,.o,.o,.o,db false,db true,di m,.d (bu to)|D7 (D7 (D7 (D6 (D4 [.o,.o,.o]))))]∧st=Z++[bN p]) ?_ ?_
 ·simp only[aY,go_sem,ac]
  refine bH (Eo _ _ _ λ to hto=> ?_)
  try simp only[go_sem]
  exact Wk.mask [2,4,8,9,10,11] ⟨to,hto,rfl,rfl⟩
 rintro fr st ⟨to,hto,rfl,rfl⟩
 have rr:=Gj p hp to hto
 have hq:Good (p.ren to):=⟨GG hto h1,ok_ren hto h1 h2,⟨λ c hc=>hp.nm.cells c (F0 hto rfl hc),λ m hm=>by
   simp only[Prg.ren,aI]at hm
   obtain⟨m',hm',rfl⟩:=hm
   exact hp.nm.modules m' hm',λ x hx=>by
   simp only[Prg.ren,aI]at hx
   obtain⟨x',hx',rfl⟩:=hx
   exact hp.nm.threads x' hx'⟩⟩
 have Ed:=Fl hG hpan (p.ren to) hq m hm2 600 (by omega)
 have rnq:=Fk hG hpan (p.ren to) hq m hm2
 unfold bK at rr Ed rnq
 refine bc (λ fr st=>fr=%[.o,.o,.d (.sl 1 (picks.map ET)),.o,.ref Z.length 0,.o,.o,.o,db false,db true,di m,.d (bu to),.ref (Z.length+1) 0|D7 (D7 (D7 (D6 (D4 [.o,.o]))))]∧st=Z++[bN p,bN (p.ren to)]) ?_ ?_
 ·try simp only[go_sem]
  refine bH (rr _ _ _ ?_)
  try simp only[go_sem]
  exact Wk.mask [2,4,8,9,10,11,12] ⟨rfl,rfl⟩
 rintro fr st ⟨rfl,rfl⟩
 refine bc (λ fr st=>∃L,fK p m (bS p) L∧L.length≤40∧fr=%[.o,.o,.o,.o,.ref Z.length 0,.o,.o,.o,db false,db true,di m,.d (bu to),.ref (Z.length+1) 0,.d (.sl 3 (L.map c7))|D7 (D7 (D7 (D6 (D4 [.o]))))]∧st=Z++[bN p,bN (p.ren to)]) ?_ ?_
 ·try simp only[go_sem]
  refine bH (wk _ _ _ λ L hL hLl=> ?_)
  try simp only[go_sem]
  exact Wk.mask [4,8,9,10,11,12,13] ⟨L,hL,hLl,rfl,rfl⟩
 rintro fr st ⟨L,hL,hL40,rfl,rfl⟩
 have hcell:=F5 hp.ok (jl hp.ok m) hL
 have htl:=hto.len
 try simp only[go_sem]
 refine⟨⟨by rw[ac];simp only[maxLen];omega,by rw[ac];omega⟩,?_⟩
 refine bc (λ fr st=>fr=%[.o,.o,.o,.o,.ref Z.length 0,.o,.o,.o,db false,db true,di m,.d (bu to),.ref (Z.length+1) 0,.d (.sl 3 (L.map c7)),.d (.sl 3 ((L.map (Cho.ren to)).map c7))|D7 (D7 (D7 (D6 (D4 []))))]∧st=Z++[bN p,bN (p.ren to)]) ?_ ?_
 ·simp only[go_sem,ac]
  refine aS (λ k fr st=>∃j:Nat,j≤L.length∧k=L.length - j∧fr=%[.o,.o,.o,.o,.ref Z.length 0,.o,.o,.o,db false,db true,di m,.d (bu to),.ref (Z.length+1) 0,.d (.sl 3 (L.map c7)),.rs (Z.length+2) 3 0 L.length (some 37),dn j|D7 (D7 (D7 (D6 [.o,.o,.o,.o,.o,.o,.o])))]∧st=Z++[bN p,bN (p.ren to),jE (EU to L j)]) L.length _ ?_ ?_
  ·exact Wk.keep [4,8,9,10,11,12,13,14,15] [0,1,3] (by decide) (aE _) hbd ⟨0,by omega,by omega,by simp only[go_sem];rfl,by simp only[go_sem];rfl⟩
  rintro k fr st ⟨j,hj,hk,rfl,rfl⟩
  have hml:=movL_len to L j
  have hfl:=fh (EU to L j)
  rw[hml]at hfl
  rcases aC j L.length with hlt|hge
  ·have hd:decide ((j:Int)<(L.length:Int))=true:=by simp;omega
   have w2:=bC j (by omega)
   have hmem:=bv fE hlt
   have hat:=movL_at (to:=to) hlt
   have hsu:=GJ (to:=to) hlt
   have hfs:=FT (EU to L j) j (by rw[hml];exact hlt)
   have hcj:=hcell _ hmem
   have e1:=FE (EU to L j) j (by rw[hml];exact hlt)
   have e2:=FF (EU to L j) j (by rw[hml];exact hlt)
   rw[hat]at hfs e1 e2
   have hat2:=hat
   generalize L.getD j fE=x at hmem hcj hsu hfs e1 e2 hat2
   cases hs:(x.step== -1)with
   |false=>
    have hs':¬x.step= -1:=by simpa using hs
    have hren:x.ren to=x:=by unfold Cho.ren;rw[if_neg hs']
    simp only[go_sem,hd,e1,hs,w2,ac,ad]
    have hset:EU to L (j+1)=EU to L j:=by
     rw[hsu,hren]
     refine cz λ k=> ?_
     by_cases e:k=j
     ·subst e
      rw[aT (by omega),pk fE (show k<(EU to L k).length by omega),hat2]
     ·rw[aD (Ne.symm e)]
    refine⟨⟨by omega,by omega⟩,by omega,Wk.mask [4,8,9,10,11,12,13,14,15] ⟨L.length - (j+1),by omega,j+1,by omega,rfl,rfl,by rw[hset]⟩⟩
   |true=>
    have hs':x.step= -1:=by simpa using hs
    have hcr:=hcj hs'
    obtain⟨c,hc⟩:∃c:Nat,x.cell=(c:Int):=⟨x.cell.toNat,by omega⟩
    have f2:=bW (l:=to) (j:=c) (by omega)
    have hmi:=EW hto hcr
    rw[hc,ad]at hmi
    have hsp:=Fh (l:=bU ((EU to L j).map c7)) (k:=j*3+2) (by omega) (.d (iD (to.getD c 0)))
    simp only[bu,go_sem,hd,e1,e2,hs,hc,f2,hsp,w2,ac,ad]
    have hren:x.ren to=⟨x.thread,x.step,to.getD c 0⟩:=by unfold Cho.ren;rw[if_pos hs',hc,hmi]
    refine⟨⟨by omega,by omega⟩,by omega,⟨by omega,by omega⟩,by omega,⟨by omega,by omega⟩,⟨by omega,by omega⟩,by omega,Wk.mask [4,8,9,10,11,12,13,14,15] ⟨L.length - (j+1),by omega,j+1,by omega,rfl,rfl,?_⟩⟩
    rw[hsu,hren,hfs]
  ·have hd:decide ((j:Int)<(L.length:Int))=false:=by simp;omega
   obtain rfl:j=L.length:=by omega
   have hm2:EU to L L.length=L.map (Cho.ren to):=by unfold EU;rw[bB,List.drop_length,bt]
   rw[hm2]
   simp only[go_sem,hd,ac]
   refine Wk.frz 2 3 0 ((L.map (Cho.ren to)).map c7) rfl (kZ _) ?_
   simp only[go_sem,ac,and_self,if_true,false_and,and_false,if_false]
   exact Wk.keep [4,8,9,10,11,12,13,14] [0,1] (by decide) (aE _) hbd ⟨by simp only[go_sem],by simp only[go_sem]⟩
 rintro fr st ⟨rfl,rfl⟩
 obtain⟨hLq,hKq⟩:=Gz hto hp.ok (jl hp.ok m) hL
 rw[←FG hto]at hLq hKq
 have rn1:=rn L hL (by omega)
 have rn2:=rnq (L.map (Cho.ren to)) hLq (by rw[ac];omega)
 have hKf:=nD hp.ok (jl hp.ok m) hL
 have hKl:=kV (p:=p) (m:=m) L (bS p)
 rw[hKq]at rn2
 obtain⟨K,hK⟩:∃K,iS p m (bS p) L=K:=⟨_,rfl⟩
 have hKfq:=nD hq.ok (jl hq.ok m) hLq
 rw[hKq]at hKfq
 rw[hK]at rn1 rn2 hKf hKl hKfq
 refine bc (λ fr st=>fr=%[.o,.o,.o,.o,.ref Z.length 0,.o,.o,.o,db false,db true,di m,.d (bu to),.ref (Z.length+1) 0,.o,.d (.sl 3 ((L.map (Cho.ren to)).map c7)),.o,.d (.sl 3 (K.map bX)),db true|D7 (D7 (D7 (D6 [.o,.o,.o,.o,.o])))]∧st=Z++[bN p,bN (p.ren to)]) ?_ ?_
 ·try simp only[go_sem]
  refine bH (rn1 _ _ ?_)
  try simp only[go_sem]
  exact Wk.mask [4,8,9,10,11,12,14,16,17] ⟨rfl,rfl⟩
 rintro fr st ⟨rfl,rfl⟩
 refine bc (λ fr st=>fr=%[.o,.o,.o,.o,.ref Z.length 0,.o,.o,.o,db false,db true,di m,.d (bu to),.ref (Z.length+1) 0,.o,.o,.o,.d (.sl 3 (K.map bX)),db true,.d (.sl 3 ((K.map (Cfg.ren to)).map bX)),db true|D7 (D7 (D7 (D6 [.o,.o,.o])))]∧st=Z++[bN p,bN (p.ren to)]) ?_ ?_
 ·try simp only[go_sem]
  refine bH (rn2 _ _ ?_)
  try simp only[go_sem]
  exact Wk.mask [4,8,9,10,11,12,16,17,18,19] ⟨rfl,rfl⟩
 rintro fr st ⟨rfl,rfl⟩
 have kk:((K.length:Int)!=(K.length:Int))=false:=by simp
 refine bc (λ fr st=>fr=%[.o,.o,.o,.o,.ref Z.length 0,.o,.o,.o,db false,db true,di m,.d (bu to),.ref (Z.length+1) 0,.o,.o,.o,.d (.sl 3 (K.map bX)),.o,.d (.sl 3 ((K.map (Cfg.ren to)).map bX))|D7 (D7 (D7 (D6 [.o,.o,.o,.o])))]∧st=Z++[bN p,bN (p.ren to)]) ?_ ?_
 ·simp only[go_sem,kk,ac]
  exact Wk.mask [4,8,9,10,11,12,16,18] ⟨rfl,rfl⟩
 rintro fr st ⟨rfl,rfl⟩
 refine bc (λ fr st=>fr=%[.o,.o,.o,.o,.ref Z.length 0,.o,.o,.o,db false,db true,di m,.o,.ref (Z.length+1) 0|D7 (D7 (D7 (D6 (D4 [.o,.o]))))]∧st=Z++[bN p,bN (p.ren to)]) ?_ ?_
 ·try simp only[go_sem]
  refine aS (λ k fr st=>∃i:Nat,i≤K.length∧k=K.length - i∧fr=%[.o,.o,.o,.o,.ref Z.length 0,.o,.o,.o,db false,db true,di m,.d (bu to),.ref (Z.length+1) 0,.o,.o,.o,.d (.sl 3 (K.map bX)),.o,.d (.sl 3 ((K.map (Cfg.ren to)).map bX)),.o,dn i|D7 (D7 (D7 (D6 [.o,.o])))]∧st=Z++[bN p,bN (p.ren to)]) K.length _ (Wk.mask [4,8,9,10,11,12,16,18,20] ⟨0,by omega,by omega,rfl,rfl⟩) ?_
  rintro k fr st ⟨i,hi,hk,rfl,rfl⟩
  rcases aC i K.length with hlt|hge
  ·have hd:decide ((i:Int)<(K.length:Int))=true:=by simp;omega
   have w2:=bC i (by omega)
   have e1:=pE hlt
   have e1q:=pE (l:=K.map (Cfg.ren to)) (j:=i) (by rw[ac];exact hlt)
   have hf:=hKf _ (bv jm hlt)
   have hcs:=(hKfq _ (aI.2 ⟨_,bv jm hlt,rfl⟩)).sz' hq
   have hgm:(K.map (Cfg.ren to)).getD i jm=(K.getD i jm).ren to:=by
    rw[au,aN,ap hlt,au,ap hlt];rfl
   rw[hgm]at e1q
   generalize K.getD i jm=c at e1 e1q hf hcs
   obtain⟨s1,s2,s3,s4⟩:=hf.sz hp
   have s12:=FH c (by omega) (by omega) (by omega) λ l hl=>⟨by have:=(s4 l hl).1;omega,λ e he=>by have:=(s4 l hl).2 e he;omega⟩
   have ft:=Bh p hp m hm2 c hf
   have kc:bX c= .agg [bu c.mem,bu c.pos,.sl 1 (c.buf.map cu)]:=rfl
   unfold bK at ft
   rw[kc]at e1 s12 ft
   simp only[go_sem,hd,ac]
   refine bc (λ fr st=>fr=%[.o,.o,.o,.o,.ref Z.length 0,.o,.o,.o,db false,db true,di m,.d (bu to),.ref (Z.length+1) 0,.o,.o,.o,.d (.sl 3 (K.map bX)),.o,.d (.sl 3 ((K.map (Cfg.ren to)).map bX)),.o,dn i|D7 (D7 (D7 (D6 [.o,.o])))]∧st=Z++[bN p,bN (p.ren to)]) ?_ ?_
   ·try simp only[go_sem]
    refine bb (.tk 16 0<| .done) (by kernel_rfl) ?_
    simp only[go_sem,e1,ac,ad]
    refine⟨⟨by omega,by omega⟩,bH (s12 _ _ _ ?_)⟩
    simp only[go_sem,e1,ac,ad]
    refine⟨⟨by omega,by omega⟩,gO (.bool true) ⟨λ _=>⟨rfl,bH (ft _ _ _ ?_)⟩,?_⟩⟩
    ·simp only[go_sem]
    try simp only[go_sem]
    exact Wk.mask [4,8,9,10,11,12,16,18,20] ⟨rfl,rfl⟩
   rintro fr st ⟨rfl,rfl⟩
   have hml:=hf.mem.len
   refine bc (λ fr st=>fr=%[.o,.o,.o,.o,.ref Z.length 0,.o,.o,.o,db false,db true,di m,.d (bu to),.ref (Z.length+1) 0,.o,.o,.o,.d (.sl 3 (K.map bX)),.o,.d (.sl 3 ((K.map (Cfg.ren to)).map bX)),.o,dn i,.ref (Z.length+2) 0|D7 (D7 (D7 (D6 [.o])))]∧st=Z++[bN p,bN (p.ren to),df (.rs (Z.length+3) 1 0 p.cells.length (some 3)) (.d (bu c.pos)) (.d .nils),bY (Fj p.cells.length to c.mem 0)]) ?_ ?_
   ·have hz:(List.replicate p.cells.length [A.d (D.int IntKind.i64 0)]).flatten=(Fj p.cells.length to c.mem 0).map λ x=>A.d (iD x):=by
     have e:Fj p.cells.length to c.mem 0=List.replicate p.cells.length 0:=rfl
     rw[e];simp
    try simp only[go_sem]
    refine bb (.tk 3 0<| .tk 5 4<| .alt 3 (.tk 3 9<| .done)<| .alt 10 (.take 3<| .take 9<| .take 11<| .done)<| .stop) (by kernel_rfl) ?_
    simp only[aY,bu,go_sem,e1,hz,fC,ac,ad]
    refine⟨⟨by omega,by omega⟩,?_,?_⟩
    ·exact⟨⟨by omega,by omega,by omega,by omega⟩,Wk.keep [4,8,9,10,11,12,16,18,20,21] [0,1,3,2] (by decide) (aE _) hbd ⟨by simp only[go_sem],by(simp only[go_sem,CR])<;> rfl⟩⟩
    ·exact⟨⟨by omega,by omega,by omega,by omega⟩,Wk.keep [4,8,9,10,11,12,16,18,20,21] [0,1,2,3] (by decide) (aE _) hbd ⟨by simp only[go_sem],by(simp only[go_sem,CR])<;> rfl⟩⟩
   rintro fr st ⟨rfl,rfl⟩
   refine bc (λ fr st=>fr=%[.o,.o,.o,.o,.ref Z.length 0,.o,.o,.o,db false,db true,di m,.d (bu to),.ref (Z.length+1) 0,.o,.o,.o,.d (.sl 3 (K.map bX)),.o,.d (.sl 3 ((K.map (Cfg.ren to)).map bX)),.o,dn i,.ref (Z.length+2) 0|D7 (D7 (D7 (D6 [.o])))]∧st=Z++[bN p,bN (p.ren to),df (.d (bu (Eu 0 to c.mem))) (.d (bu c.pos)) (.d .nils)]) ?_ ?_
   ·try simp only[go_sem]
    refine aS (λ k fr st=>∃j:Nat,j≤p.cells.length∧k=p.cells.length - j∧fr=%[.o,.o,.o,.o,.ref Z.length 0,.o,.o,.o,db false,db true,di m,.d (bu to),.ref (Z.length+1) 0,.o,.o,.o,.d (.sl 3 (K.map bX)),.o,.d (.sl 3 ((K.map (Cfg.ren to)).map bX)),.o,dn i,.ref (Z.length+2) 0,dn j|D7 (D7 (D7 (D6 [])))]∧st=Z++[bN p,bN (p.ren to),df (.rs (Z.length+3) 1 0 p.cells.length (some 3)) (.d (bu c.pos)) (.d .nils),bY (Fj p.cells.length to c.mem j)]) p.cells.length _ (Wk.mask [4,8,9,10,11,12,16,18,20,21,22] ⟨0,by omega,by omega,rfl,rfl⟩) ?_
    rintro k fr st ⟨j,hj,hk2,rfl,rfl⟩
    rcases aC j p.cells.length with hjl|hjg
    ·have hd2:decide ((j:Int)<(to.length:Int))=true:=by simp;omega
     have w3:=bC j (by omega)
     have f1:=bW (l:=to) (j:=j) (by omega)
     have f2:=bW (l:=c.mem) (j:=j) (by omega)
     have ha:=hto.at_ hjl
     have hsu:=GK hto hml hjl
     have hrl:=memR_len p.cells.length to c.mem j
     obtain⟨y,hy⟩:∃y:Nat,to.getD j 0=(y:Int):=⟨(to.getD j 0).toNat,by omega⟩
     rw[hy]at f1 ha hsu
     rw[ad]at hsu
     have hset:=kH (l:=Fj p.cells.length to c.mem j) (j:=y) (c.mem.getD j 0) (by omega)
     rw[←hsu]at hset
     simp only[bu,bY,go_sem,hd2,ac,ad]
     refine bb (.tk 16 0<| .done) (by kernel_rfl) ?_
     simp only[bu,bY,go_sem,hd2,e1,f1,f2,w3,hrl,hset,ac,ad,br,ci]
     exact⟨⟨by omega,by omega⟩,⟨by omega,by omega⟩,⟨by omega,by omega⟩,⟨by omega,by omega⟩,by omega,Wk.mask [4,8,9,10,11,12,16,18,20,21,22] ⟨p.cells.length - (j+1),by omega,j+1,by omega,rfl,rfl,rfl⟩⟩
    ·have hd2:decide ((j:Int)<(to.length:Int))=false:=by simp;omega
     obtain rfl:j=p.cells.length:=by omega
     rw[memR_end hto hml]
     simp only[bu,go_sem,hd2,ac,ad]
     have hsl:(Eu 0 to c.mem).length=p.cells.length:=by rw[EJ,htl]
     refine Wk.via (bw.freezeIn (Z:=Z) 3 2 1 0 ((Eu 0 to c.mem).map iD) rfl (cJ _) rfl (by decide)) ?_
     simp only[go_sem,ac,hsl,and_self,if_true,false_and,if_false]
     exact Wk.keep [4,8,9,10,11,12,16,18,20,21] [0,1,2] (by decide) (aE _) hbd ⟨by simp only[go_sem,bu],by simp only[go_sem,bu]⟩
   rintro fr st ⟨rfl,rfl⟩
   have hsm:=hf.few
   refine bc (λ fr st=>fr=%[.o,.o,.o,.o,.ref Z.length 0,.o,.o,.o,db false,db true,di m,.d (bu to),.ref (Z.length+1) 0,.o,.o,.o,.d (.sl 3 (K.map bX)),.o,.d (.sl 3 ((K.map (Cfg.ren to)).map bX)),.o,dn i,.ref (Z.length+2) 0|D7 (D7 (D7 (D6 [.o])))]∧st=Z++[bN p,bN (p.ren to),df (.d (bu (Eu 0 to c.mem))) (.d (bu c.pos)) (.d (.sl 1 ((c.ren to).buf.map cu)))]) ?_ ?_
   ·simp only[go_sem,e1,ac,ad]
    refine⟨⟨by omega,by omega⟩,?_⟩
    refine aS (λ k fr st=>∃u:Nat,u≤c.buf.length∧k=c.buf.length - u∧fr=%[.o,.o,.o,.o,.ref Z.length 0,.o,.o,.o,db false,db true,di m,.d (bu to),.ref (Z.length+1) 0,.o,.o,.o,.d (.sl 3 (K.map bX)),.o,.d (.sl 3 ((K.map (Cfg.ren to)).map bX)),.o,dn i,.ref (Z.length+2) 0|D7 (D7 (D5 %[.o,.o,.o,.o,.o,.d (.sl 1 (c.buf.map cu)),dn c.buf.length,dn u|D7 (D4 [.o])]))]∧st=Z++[bN p,bN (p.ren to),df (.d (bu (Eu 0 to c.mem))) (.d (bu c.pos)) (.rs (Z.length+3) 1 0 u (some 46)),some (.cells (bU (((c.buf.take u).map λ l=>l.map (Ent.ren to)).map cu)))]) c.buf.length _ ?_ ?_
    ·refine Wk.via (bw.emptyIn (Z:=Z) 2 2 1 (some 46) rfl rfl) ?_
     exact Wk.mask [4,8,9,10,11,12,16,18,20,21,171,172,173] ⟨0,by omega,by omega,rfl,rfl⟩
    rintro k fr st ⟨u,hu,hk2,rfl,rfl⟩
    rcases aC u c.buf.length with hul|hug
    ·have hd2:decide ((u:Int)<(c.buf.length:Int))=true:=by simp;omega
     have w3:=bC u (by omega)
     have e2:=gH hul
     have hmb:=bv [] hul
     have hs2:=bG [] hul
     have hlu:=ap hul
     obtain⟨hbl,hbe⟩:=hsm u _ hlu
     have hbg:c.buf[u]=c.buf.getD u []:=by rw[au,hlu];rfl
     rw[hbg]at hbl hbe
     generalize c.buf.getD u []=B at e2 hmb hs2 hbl hbe
     obtain⟨Q,hQ⟩:∃Q:List (List Ent),((c.buf.take u).map λ l=>l.map (Ent.ren to))=Q:=⟨_,rfl⟩
     have hQl:Q.length=u:=by rw[←hQ,ac,aP];omega
     have hfq:=ES cu 1 (λ _=>rfl) Q
     rw[hQl]at hfq
     have kb:cu B= .sl 2 (B.map bO):=rfl
     rw[kb]at e2
     simp only[go_sem,hd2,e2,hQ,ac,ad]
     refine⟨⟨by omega,by omega⟩,?_⟩
     refine bc (λ fr st=>fr=%[.o,.o,.o,.o,.ref Z.length 0,.o,.o,.o,db false,db true,di m,.d (bu to),.ref (Z.length+1) 0,.o,.o,.o,.d (.sl 3 (K.map bX)),.o,.d (.sl 3 ((K.map (Cfg.ren to)).map bX)),.o,dn i,.ref (Z.length+2) 0,.o,.o,.o,.d (.sl 2 ((B.map (Ent.ren to)).map bO))|D7 (D7 (D5 %[.o,.d (.sl 1 (c.buf.map cu)),dn c.buf.length,dn u|D7 (D4 [.o])]))]∧st=Z++[bN p,bN (p.ren to),df (.d (bu (Eu 0 to c.mem))) (.d (bu c.pos)) (.rs (Z.length+3) 1 0 u (some 46)),some (.cells (bU (Q.map cu)))]) ?_ ?_
     ·simp only[go_sem,ac]
      refine aS (λ k fr st=>∃v:Nat,v≤B.length∧k=B.length - v∧fr=%[.o,.o,.o,.o,.ref Z.length 0,.o,.o,.o,db false,db true,di m,.d (bu to),.ref (Z.length+1) 0,.o,.o,.o,.d (.sl 3 (K.map bX)),.o,.d (.sl 3 ((K.map (Cfg.ren to)).map bX)),.o,dn i,.ref (Z.length+2) 0,.o,.o,.o,.rs (Z.length+4) 2 0 v (some 48)|D7 (D7 (D5 %[.o,.d (.sl 1 (c.buf.map cu)),dn c.buf.length,dn u,.o,.o,.o,.d (.sl 2 (B.map bO)),dn B.length,dn v|D7 [.o,.o,.o]]))]∧st=Z++[bN p,bN (p.ren to),df (.d (bu (Eu 0 to c.mem))) (.d (bu c.pos)) (.rs (Z.length+3) 1 0 u (some 46)),some (.cells (bU (Q.map cu))),some (.cells (bU (((B.take v).map (Ent.ren to)).map bO)))]) B.length _ ?_ ?_
      ·refine Wk.via ((bw.mask [4,8,9,10,11,12,16,18,20,21,25,171,172,173,177,178,179]).trans (bw.empty 25 2 (some 48) rfl)) ?_
       simp only[go_sem,aF,ae,aj,Nat.reduceAdd,aU,ah,ak,ff,fQ]
       exact Wk.mask [4,8,9,10,11,12,16,18,20,21,25,171,172,173,177,178,179] ⟨0,by omega,by omega,rfl,rfl⟩
      rintro k fr st ⟨v,hv,hk3,rfl,rfl⟩
      rcases aC v B.length with hvl|hvg
      ·have hd3:decide ((v:Int)<(B.length:Int))=true:=by simp;omega
       have w4:=bC v (by omega)
       have e3:=gG hvl
       have hme:=bv cD hvl
       have hs3:=bG cD hvl
       generalize B.getD v cD=e at e3 hme hs3
       have heo:=hbe e hme
       have hel:=((s4 B hmb).2 e hme)
       obtain⟨Q2,hQ2⟩:∃Q2:List Ent,(B.take v).map (Ent.ren to)=Q2:=⟨_,rfl⟩
       have hQ2l:Q2.length=v:=by rw[←hQ2,ac,aP];omega
       have hf3:=ES bO 2 (λ _=>rfl) Q2
       rw[hQ2l]at hf3
       have Eh:bO e= .agg [bu e.cells,bu e.vals]:=rfl
       rw[Eh]at e3
       simp only[bu,go_sem,hd3,e3,hQ2,ac,ad]
       refine⟨⟨by omega,by omega⟩,?_⟩
       refine bc (λ fr st=>∃x,fr=%[.o,.o,.o,.o,.ref Z.length 0,.o,.o,.o,db false,db true,di m,.d (bu to),.ref (Z.length+1) 0,.o,.o,.o,.d (.sl 3 (K.map bX)),.o,.d (.sl 3 ((K.map (Cfg.ren to)).map bX)),.o,dn i,.ref (Z.length+2) 0,.o,.o,.o,.rs (Z.length+4) 2 0 v (some 48),.o,.o,.ref (Z.length+6) 0|D7 (D7 (D4 %[.o,.o,.o,.o,.o,.o,.d (.sl 1 (c.buf.map cu)),dn c.buf.length,dn u,.o,.o,.o,.d (.sl 2 (B.map bO)),dn B.length,dn v|D7 [.o,.o,.o]]))]∧st=Z++[bN p,bN (p.ren to),df (.d (bu (Eu 0 to c.mem))) (.d (bu c.pos)) (.rs (Z.length+3) 1 0 u (some 46)),some (.cells (bU (Q.map cu))),some (.cells (bU (Q2.map bO))),x,some (.cells [.d (bu (e.cells.map (mv to))),.d (bu e.vals)])]) ?_ ?_
       ·simp only[go_sem,bu,ac]
        refine aS (λ k fr st=>∃w:Nat,w≤e.cells.length∧k=e.cells.length - w∧fr=%[.o,.o,.o,.o,.ref Z.length 0,.o,.o,.o,db false,db true,di m,.d (bu to),.ref (Z.length+1) 0,.o,.o,.o,.d (.sl 3 (K.map bX)),.o,.d (.sl 3 ((K.map (Cfg.ren to)).map bX)),.o,dn i,.ref (Z.length+2) 0,.o,.o,.o,.rs (Z.length+4) 2 0 v (some 48),.o,.o,.ref (Z.length+6) 0|D7 (D7 (D4 %[.o,.o,.o,.o,.o,.o,.d (.sl 1 (c.buf.map cu)),dn c.buf.length,dn u,.o,.o,.o,.d (.sl 2 (B.map bO)),dn B.length,dn v,.o,.o,.o,.o,.o,.o,.o,.d (bu e.cells),dn e.cells.length,dn w|D6 (D5 (D4 [.o]))]))]∧∃x,st=Z++[bN p,bN (p.ren to),df (.d (bu (Eu 0 to c.mem))) (.d (bu c.pos)) (.rs (Z.length+3) 1 0 u (some 46)),some (.cells (bU (Q.map cu))),some (.cells (bU (Q2.map bO))),x,some (.cells [.rs (Z.length+7) 1 0 w (some 3),.d (bu e.vals)]),bY ((e.cells.take w).map (mv to))]) e.cells.length _ ?_ ?_
        ·refine Wk.via (bw.emptyIn (Z:=Z) 6 0 1 (some 3) rfl rfl) ?_
         exact Wk.mask [4,8,9,10,11,12,16,18,20,21,25,28,171,172,173,177,178,179,187,188,189] ⟨0,by omega,by omega,rfl,_,rfl⟩
        rintro k fr st ⟨w,hw,hk4,rfl,x,rfl⟩
        rcases aC w e.cells.length with hwl|hwg
        ·have hd4:decide ((w:Int)<(e.cells.length:Int))=true:=by simp;omega
         have D9:=bC w (by omega)
         have f3:=bW (l:=e.cells) (j:=w) (by omega)
         have hmc:=bv 0 hwl
         have hs4:=bG 0 hwl
         have hcr:=E2 heo _ hmc
         have hmv:=EW hto hcr
         generalize e.cells.getD w 0=z at f3 hmc hs4 hcr hmv
         obtain⟨y,rfl⟩:∃y:Nat,z=(y:Int):=⟨z.toNat,by omega⟩
         rw[ad]at hmv
         have f4:=bW (l:=to) (j:=y) (by omega)
         have hl4:((e.cells.take w).map (mv to)).length=w:=by rw[ac,aP];omega
         simp only[bu,go_sem,hd4,f3,ac,ad]
         refine⟨⟨by omega,by omega⟩,?_⟩
         refine bb (.tk 10 0<| .done) (by kernel_rfl) ?_
         simp only[bu,bY,go_sem,hd4,f3,f4,D9,hl4,ac,ad]
         refine⟨⟨by omega,by omega⟩,⟨by omega,by simp only[maxLen];omega,by omega⟩,Wk.keep [4,8,9,10,11,12,16,18,20,21,25,28,171,172,173,177,178,179,187,188,189] [0,1,2,3,4,5,6,9] (by decide) (aE _) hbd ⟨e.cells.length - (w+1),by omega,w+1,by omega,rfl,by simp only[go_sem,bu],?x,?h⟩⟩
         case h=>
          rw[hs4,aJ,aM,bq,hmv]
          simp only[go_sem,bu,bY,dj,CR,aJ,aM,bq]
          rfl
        ·have hd4:decide ((w:Int)<(e.cells.length:Int))=false:=by simp;omega
         obtain rfl:w=e.cells.length:=by omega
         rw[bB]
         simp only[bu,go_sem,hd4,ac]
         refine Wk.via (bw.freezeIn (Z:=Z) 7 6 1 0 ((e.cells.map (mv to)).map iD) rfl (cJ _) rfl (by decide)) ?_
         simp only[go_sem,ac,and_self,if_true,false_and,and_false,if_false]
         exact Wk.keep [4,8,9,10,11,12,16,18,20,21,25,28,171,172,173,177,178,179] [0,1,2,3,4,5,6] (by decide) (aE _) hbd ⟨_,by simp only[go_sem,bu],by simp only[go_sem,bu];rfl⟩
       rintro fr st ⟨x,rfl,rfl⟩
       simp only[go_sem,hf3,w4,fC]
       refine⟨⟨by simp only[maxLen];omega,by omega⟩,Wk.keep [4,8,9,10,11,12,16,18,20,21,25,171,172,173,177,178,179] [0,1,2,3,8] (by decide) (aE _) hbd ⟨B.length - (v+1),by omega,v+1,by omega,rfl,by simp only[go_sem,bu],?_⟩⟩
       rw[hs3,aJ,hQ2,aM,bq,ent_snoc]
       simp only[go_sem,dj,cG,bu]
       rfl
      ·have hd3:decide ((v:Int)<(B.length:Int))=false:=by simp;omega
       obtain rfl:v=B.length:=by omega
       rw[bB]
       simp only[go_sem,hd3]
       refine Wk.frz 4 2 0 ((B.map (Ent.ren to)).map bO) rfl (iB _) ?_
       simp only[go_sem,ac,and_self,if_true,false_and,and_false,if_false]
       exact Wk.keep [4,8,9,10,11,12,16,18,20,21,171,172,173,25] [0,1,2,3] (by decide) (aE _) hbd ⟨by simp only[go_sem],by simp only[go_sem]⟩
     rintro fr st ⟨rfl,rfl⟩
     simp only[go_sem,hfq,w3]
     refine⟨⟨by simp only[maxLen];omega,by omega⟩,Wk.keep [4,8,9,10,11,12,16,18,20,21,171,172,173] [0,1,2,5] (by decide) (aE _) hbd ⟨c.buf.length - (u+1),by omega,u+1,by omega,rfl,by simp only[go_sem],?_⟩⟩
     rw[hs2,aJ,hQ,aM,bq,buf_snoc]
     simp only[go_sem,dj,cG]
    ·have hd2:decide ((u:Int)<(c.buf.length:Int))=false:=by simp;omega
     obtain rfl:u=c.buf.length:=by omega
     rw[bB]
     simp only[go_sem,hd2,ac,ad]
     refine Wk.via (bw.freezeIn (Z:=Z) 3 2 1 0 ((c.ren to).buf.map cu) rfl (lies_buf _) rfl (by decide)) ?_
     have hrl:(c.ren to).buf.length=c.buf.length:=by simp [Cfg.ren]
     simp only[go_sem,ac,hrl,and_self,if_true,false_and,if_false]
     exact Wk.keep [4,8,9,10,11,12,16,18,20,21] [0,1,2] (by decide) (aE _) hbd ⟨by simp only[go_sem],by simp only[go_sem]⟩
   rintro fr st ⟨rfl,rfl⟩
   have Eg:=same_r (c.ren to) (c.ren to) hcs hcs
   rw[dU (rfl:c.ren to=c.ren to)]at Eg
   have kcr:bX (c.ren to)= .agg [bu (Eu 0 to c.mem),bu c.pos,.sl 1 ((c.ren to).buf.map cu)]:=rfl
   rw[kcr]at Eg e1q
   try simp only[go_sem]
   refine bb (.tk 7 0<| .done) (by kernel_rfl) ?_
   simp only[go_sem,e1q,ac,ad]
   refine⟨⟨by omega,by omega⟩,bH (Eg _ _ _ ?_)⟩
   simp only[go_sem,w2]
   exact Wk.keep [4,8,9,10,11,12,16,18,20] [0,1] (by decide) (aE _) hbd ⟨K.length - (i+1),by omega,i+1,by omega,rfl,by simp only[go_sem],by simp only[go_sem]⟩
  ·have hd:decide ((i:Int)<(K.length:Int))=false:=by simp;omega
   simp only[go_sem,hd,ac]
   exact Wk.mask [4,8,9,10,12] ⟨rfl,rfl⟩
 rintro fr st ⟨rfl,rfl⟩
 refine bc (λ fr st=>∃a e,RcOut p m a e∧fr=D4 %[db false,db true,di m,.o,.ref (Z.length+1) 0|D5 %[.o,.o,a,di e|D7 (D7 (D7 (D5 [.o,.o,.o,.o,.o,.o])))]]∧st=Z++[bN p,bN (p.ren to)]) ?_ ?_
 ·try simp only[go_sem]
  refine bH (rc _ _ (λ S hS hl=> ?_) (λ S hS hb hle=> ?_))<;> simp only[go_sem]
  ·exact Wk.mask [8,9,10,12,31,32] ⟨_,_,.inl ⟨rfl,rfl,S,hS,hl⟩,rfl,rfl⟩
  ·exact Wk.mask [8,9,10,12,31,32] ⟨_,_,.inr ⟨S,rfl,rfl,hS,hb,hle⟩,rfl,rfl⟩
 rintro fr st ⟨a,e,o1,rfl,rfl⟩
 refine bc (λ fr st=>∃a e b f,RcOut p m a e∧RcOut (p.ren to) m b f∧fr=D4 %[db false,db true|D5 %[.o,.o,.o,.o,.o,a,di e,b,di f|D7 (D7 (D7 (D5 [.o,.o,.o,.o])))]]∧st=Z++[bN p,bN (p.ren to)]) ?_ ?_
 ·try simp only[go_sem]
  refine bH (Ed _ _ (λ S hS hl=> ?_) (λ S hS hb hle=> ?_))<;> simp only[go_sem]
  ·exact Wk.mask [8,9,31,32,33,34] ⟨_,_,_,_,o1,.inl ⟨rfl,rfl,S,hS,hl⟩,rfl,rfl⟩
  ·exact Wk.mask [8,9,31,32,33,34] ⟨_,_,_,_,o1,.inr ⟨S,rfl,rfl,hS,hb,hle⟩,rfl,rfl⟩
 rintro fr st ⟨a,e,b,f,o1,o2,rfl,rfl⟩
 rcases o1 with⟨rfl,rfl,S,hS,hl⟩|⟨S,rfl,rfl,hS,hb,hle⟩<;> rcases o2 with⟨rfl,rfl,T,hT,hl2⟩|⟨T,rfl,rfl,hT,hb2,hle2⟩
 ·try simp only[go_sem]
  exact dq hbd rfl h
 ·exact(FN hT hb2 hle2 (Fe hto hp.ok hS) (by simp [BS.ren];omega)).elim
 ·have hbr:=Fg hto hp.ok (fx hp.ok hS)
  rw[hb]at hbr
  exact(FN (Fe hto hp.ok hS) hbr (by simp [BS.ren];omega) hT (by omega)).elim
 ·have hbr:=Fg hto hp.ok (fx hp.ok hS)
  rw[hb]at hbr
  obtain rfl:=Dz (Fe hto hp.ok hS) hbr hT hb2
  have hll:(S.ren to).V.length=S.V.length:=by simp [BS.ren]
  have kk2:((S.V.length:Int)==(S.V.length:Int))=true:=by simp
  simp only[go_sem,hll,kk2,ac]
  exact dq hbd rfl h
end
section
open Go Go.Ab Go.RowKit Go.ChangeShapes Go.WideShapes
theorem EO(os:Os)(started:os.Started)(H:Type)(enc:TypeId×Value→H):
  ReturnsInHanded {} Tryz.checked os 3 .any (λ w args=>(Rows.topRenumberedRunsSpec.pre enc Tryz.prog Tryz.f3 [] false w args∧laidMetH Tryz.prog zz w)∧sizedMet enc Tryz.prog Tryz.f3 (OpenSpec.ofChange Rows.topRenumberedRunsSpec) false w args)
   (Rows.topRenumberedRunsSpec.post enc Tryz.prog Tryz.f3 false true false false):=by
 refine returnsInHanded_of_change_and (C:=Tryz.checked) (X:=λ w _=>laidMetH Tryz.prog zz w) (λ _ _ _ hh h=>h.of_heap hh) own started (by kernel_rfl) Tryz.func3
  (ChangeSpec.witness_shaped (enc:=enc) (C:=Tryz.checked) (os:=os) (X:=λ w _=>laidMetH Tryz.prog zz w) false (World.doorLaid Tryz.prog 400 os) #[.agg #[.slice none 0 0,.slice none 0 0,.slice none 0 0,.slice none 0 0],.int .u8 0,.slice none 0 0,.slice none 0 0] 8 rfl (World.shaped_of_RefB (by kernel_rfl) (by kernel_rfl)) (by kernel_rfl) (by kernel_rfl) (by kernel_rfl) (FB os _)) ?_
 intro W base args ds gs before hval hW _ hz hL _
 refine BA (G:=zH) (S:=[3,4,5,9,22,23,24,25,27,28,31,61,62,64,76,79,81,82,84,88,91,93,95,97]) (tb:=4) hW hval (by kernel_rfl) (by rw[Tryz.params3];kernel_rfl) (by kernel_rfl) (by rw[Tryz.params3];kernel_rfl) rfl (by kernel_rfl) Tryz.underlying4 (λ ds hds=> ?_) (Dt hL) hz (λ xs hx=> ?_)
 ·rw[Tryz.params3]at hds
  match ds,hds with
  |[d0,d1,d2,d3],_=>rfl
 ·skip
  rw[Tryz.params3]at hx
  generalize args.toList=vs at hx
  cases hx with
  |cons h0 _ hx=>
   obtain⟨n0,h0⟩:=h0
   obtain⟨x0,rfl,k0⟩:=FV h0
   cases hx with
   |cons h1 _ hx=>
    obtain⟨n1,h1⟩:=h1
    obtain⟨x1,rfl,k1⟩:=FA h1
    cases hx with
    |cons h2 _ hx=>
     obtain⟨n2,h2⟩:=h2
     obtain⟨x2,rfl,k2⟩:=Fd h2
     cases hx with
     |cons h3 _ hx=>
      obtain⟨n3,h3⟩:=h3
      obtain⟨x3,rfl,k3⟩:=Fd h3
      cases hx
      exact Fp (G:=zH) rfl (λ _ _ h=>h) x0 k0 x1 k1 x2 x3 k2.1 k2.2 k3.1 k3.2 [] _ rfl
theorem EP:joinedFacts Tryz.prog 3 Tryz.f3 Rows.topRenumberedRunsSpec Rows.topRenumberedRunsRow=true:=by
 rw[joinedFacts,Fu,A8,makes]
 kernel_rfl
theorem topRenumberedRuns_said:Rows.TopRenumberedRunsSaid:=
 OpenClaim.holds_of_wide 3 Tryz.f3 rfl rfl rfl rfl rfl rfl rfl ⟨rfl,rfl,rfl,rfl,rfl⟩ rfl rfl rfl rfl rfl (by kernel_rfl) Tryz.func3 EP
  (of_decide_eq_true (by kernel_rfl)) (by unfold Func.isWrapper;first|(rw[if_pos (by decide+kernel)];kernel_rfl)|(rw[if_neg (by decide+kernel)];exact⟨rfl,rfl⟩))
  (λ os started H enc _=>EO os started H enc)
theorem topRenumberedRuns_holds:Rows.TopRenumberedRunsCardSaid:=
 Claim7.holds_tied_plain_at .later [] [.data] true (true, "481e929e10f95d8d9e32f2971ffa875cc5c9739ab9656d7a30d7a83b4ed81727") false
  topRenumberedRuns_said (λ _ h=>by cases h) (by kernel_rfl) (λ _ h=>by cases h) topRenumberedRuns_row_tie rfl ⟨rfl,rfl⟩ (by kernel_rfl) rfl
  (λ f fn hf hfn=>by
   obtain rfl : f = 3 := Option.some.inj ((show Tryz.prog.funcNamed "relyguard/relyguardtop.TopRenumberedRuns" = some 3 by kernel_rfl).symm.trans hf) |>.symm
   obtain rfl:fn=Tryz.f3:=(Option.some.inj (Tryz.func3.symm.trans hfn)).symm
   exact⟨by kernel_rfl,λ j t ht=>by
    rw[Tryz.params3]at ht
    have hm:t∈[27,5,28,28]:=by simpa using Array.mem_of_getElem? ht
    have hall:([27,5,28,28].all λ u=> !Tryz.prog.wantsStandIn u)=true:=by kernel_rfl
    exact(show Tryz.prog.wantsStandIn t=false by simpa using aZ.1 hall t hm)⟩)
  (by kernel_rfl)
end
end Go.Proofs.YtdpdbokicanpoaaGreatDoor
