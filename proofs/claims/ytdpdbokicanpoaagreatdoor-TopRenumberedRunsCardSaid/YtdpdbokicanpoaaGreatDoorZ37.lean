import Derived.Test.YtdpdbokicanpoaaGreatDoorZ36
import Derived.Deep.RegionLaw
import Derived.Lib.Walk
import Derived.Lib.SliceRun
set_option linter.unusedSimpArgs false
set_option linter.unusedVariables false
set_option maxHeartbeats 64000000
set_option maxRecDepth 100000
namespace Go.Proofs.YtdpdbokicanpoaaGreatDoor
section
open Go Go.Ab
theorem CloneU (c:Cfg) (u:Nat) (hu:u<c.buf.length) (hm:c.mem.length≤1000) (hps:c.pos.length≤1000) (hb:c.buf.length≤1000) (hbe:∀l∈c.buf,l.length≤100∧∀e∈l,e.cells.length≤1000∧e.vals.length≤1000) (Z:St) (G:Glob) (R:A→St→Prop)
  (h:R (.agg [.rs Z.length 1 0 c.mem.length (some 3),.rs (Z.length+1) 1 0 c.pos.length (some 3),.rs (Z.length+2) 1 0 c.buf.length (some 46)]) (Z++[bY c.mem,bY c.pos,some (.cells ((c.buf.map λ b=>A.d (cu b)).set u (.rs (Z.length+3) 2 0 (c.bufAt u).length (some 48)))),some (.cells (bU ((c.bufAt u).map bO)))])):AC Tryz.prog G 90 [.d (bX c)] Z R:=by
 unfold bX
 refine bD [2,11] a9 Tryz.func90 rfl Tryz.ntmps90 (by simp only[go_sem]) λ hbd=> ?_
 simp only[ae,aj,Nat.reduceAdd,Nat.reduceSub,af,ag,ah,ak]
 simp only[go_sem,ac]
 refine bc (λ fr st=>fr=%[.o,.ref Z.length 0,.ref (Z.length+1) 0,.ref (Z.length+5) 0|D6 (D5 [.o,.o])]∧st=Z++[dy c,df (.d .nils) (.d .nils) (.d .nils),bY c.mem,bY c.pos,some (.cells (fB c.buf 0)),df (.rs (Z.length+2) 1 0 c.mem.length (some 3)) (.rs (Z.length+3) 1 0 c.pos.length (some 3)) (.rs (Z.length+4) 1 0 c.buf.length (some 46))]) ?_ ?_
 ·simp only[go_sem,ac]
  refine nJ (.gro [0,1,3,4,6,7,8] [2,5,9] 11 (.plain (.take 10<| .take 12<| .done)) (.plain (.take 10<| .take 11<| .take 12<| .done))) (by kernel_rfl) ?_
  simp only[go_sem,ac]
  have hc1:=Bx c.mem hm
  have hc2:=Bx c.pos hps
  refine lZ [⟨2,10,.rs 1 0 c.mem.length (some 3),.cells (c.mem.map λ x=>A.d (iD x))⟩,⟨5,13,.rs 1 0 c.pos.length (some 3),.cells (c.pos.map λ x=>A.d (iD x))⟩,⟨9,17,.rs 1 0 c.buf.length (some 46),.cells (fB c.buf 0)⟩] ⟨11,3,.ref 0,.cells [.d .nils,.d .nils,.d .nils]⟩ (λ q hq=> ?_) (λ q hq=> ?_) rfl ?_ ?_
  ·simp only[ah,ak,aV,bi,or_false]at hq
   rcases hq with rfl|rfl|rfl|rfl<;> refine zm rfl λ Z k hk=> ?_<;> simp only[go_sem]
   ·exact bH (hc1 _ _ _ hk)
   ·exact bH (hc2 _ _ _ hk)
   ·rw[pI]
    exact⟨⟨by omega,by omega,by omega,by omega⟩,hk⟩
   ·exact hk
  ·simp only[ah,ak,aV,bi,or_false]at hq
   rcases hq with rfl|rfl|rfl|rfl
   ·exact jn λ x hx=>let ⟨y,_,e⟩:=aI.1 hx;⟨_,e.symm⟩
   ·exact jn λ x hx=>let ⟨y,_,e⟩:=aI.1 hx;⟨_,e.symm⟩
   ·exact jn (oA c.buf 0)
   ·rfl
  ·simp only[go_sem,ac,aM,bq,ah,ak,cf,Nat.reduceAdd]
   exact Wk.mask [1,2,3] ⟨rfl,rfl⟩
  ·simp only[go_sem,ac,aM,bq,ah,ak,cf,Nat.reduceAdd]
   exact Wk.mask [1,2,3] ⟨rfl,rfl⟩
 rintro fr st ⟨rfl,rfl⟩
 refine bc (λ fr st=>fr=%[.o,.ref Z.length 0,.ref (Z.length+1) 0,.ref (Z.length+5) 0|D6 (D5 [.o,.o])]∧st=Z++[dy c,df (.d .nils) (.d .nils) (.d .nils),bY c.mem,bY c.pos,some (.cells ((c.buf.map λ b=>A.d (cu b)).set u (.rs (Z.length+6) 2 0 (c.bufAt u).length (some 48)))),df (.rs (Z.length+2) 1 0 c.mem.length (some 3)) (.rs (Z.length+3) 1 0 c.pos.length (some 3)) (.rs (Z.length+4) 1 0 c.buf.length (some 46)),some (.cells (bU ((c.bufAt u).map bO)))]) ?_ ?_
 ·simp only[go_sem,ac]
  refine aS (λ m fr st=>∃t:Nat,t≤c.buf.length∧m=c.buf.length - t∧fr=%[.o,.ref Z.length 0,.ref (Z.length+1) 0,.ref (Z.length+5) 0|D5 %[.d (.sl 1 (c.buf.map cu)),dn c.buf.length,dn t|D5 (D4 [.o,.o,.o,.o,.o,.o,.o])]]∧st=if u<t then Z++[dy c,df (.d .nils) (.d .nils) (.d .nils),bY c.mem,bY c.pos,some (.cells ((fB c.buf t).set u (.rs (Z.length+6) 2 0 (c.bufAt u).length (some 48)))),df (.rs (Z.length+2) 1 0 c.mem.length (some 3)) (.rs (Z.length+3) 1 0 c.pos.length (some 3)) (.rs (Z.length+4) 1 0 c.buf.length (some 46)),some (.cells (bU ((c.bufAt u).map bO)))]else Z++[dy c,df (.d .nils) (.d .nils) (.d .nils),bY c.mem,bY c.pos,some (.cells (fB c.buf t)),df (.rs (Z.length+2) 1 0 c.mem.length (some 3)) (.rs (Z.length+3) 1 0 c.pos.length (some 3)) (.rs (Z.length+4) 1 0 c.buf.length (some 46))]) c.buf.length _ (Wk.mask [1,2,3,20,21,22] ⟨0,by omega,by omega,rfl,by rw[if_neg (by omega)]⟩) ?_
  rintro m fr st ⟨t,ht,hmm,rfl,rfl⟩
  rcases aC t c.buf.length with hlt|hge
  ·have hd:decide ((t:Int)<(c.buf.length:Int))=true:=by simp;omega
   have w2:=bC t (by omega)
   have eb:List.getD (c.buf.map cu) t default= .sl 2 ((c.buf.getD t []).map bO):=gH (l:=c.buf) hlt
   obtain⟨hb1,hb2⟩:=hbe _ (bv [] hlt)
   have hsucc:=pJ c.buf t hlt
   have hnil:=rF c.buf t hlt
   have hLd:=oA c.buf t
   have hLl:=rG c.buf t (by omega)
   rcases go t u with htu|htu|htu
   ·rw[if_neg (by omega)]
    obtain⟨L,hL⟩:∃L,fB c.buf t=L:=⟨_,rfl⟩
    rw[hL]at hsucc hnil hLd hLl
    rw[hL]
    obtain⟨B,hB⟩:∃B,c.buf.getD t []=B:=⟨_,rfl⟩
    rw[hB]at eb hb1 hb2 hsucc
    simp only[go_sem,hd,eb,ac,ad]
    refine⟨⟨by omega,by omega⟩,?_⟩
    refine aS (λ m fr st=>∃i:Nat,i≤B.length∧m=B.length - i∧fr=%[.o,.ref Z.length 0,.ref (Z.length+1) 0,.ref (Z.length+5) 0,dn t|D4 %[.o,.o,.o,.o,.o,.o,.o,.d (.sl 1 (c.buf.map cu)),dn c.buf.length,dn t,.o,.o,.o,.o,.d (.sl 2 (B.map bO)),dn B.length,dn i|D5 (D4 [])]]∧st=Z++[dy c,df (.d .nils) (.d .nils) (.d .nils),bY c.mem,bY c.pos,some (.cells (L.set t (.rs (Z.length+6) 2 0 i (some 48)))),df (.rs (Z.length+2) 1 0 c.mem.length (some 3)) (.rs (Z.length+3) 1 0 c.pos.length (some 3)) (.rs (Z.length+4) 1 0 c.buf.length (some 46)),some (.cells (bU ((B.take i).map bO)))]) B.length _ ?_ ?_
    ·refine Wk.via (bw.emptyIn (Z:=Z) 4 t 2 (some 48) rfl hnil) ?_
     exact Wk.mask [1,2,3,4,20,21,22,27,28,29] ⟨0,by omega,by omega,rfl,by simp [bU]⟩
    rintro m2 fr st ⟨i,hi,hm2,rfl,rfl⟩
    rcases aC i B.length with hl2|hg2
    ·have hd2:decide ((i:Int)<(B.length:Int))=true:=by simp;omega
     have w3:=bC i (by omega)
     have e3:=gG (l:=B) hl2
     obtain⟨q1,q2⟩:=hb2 _ (bv cD hl2)
     have hsn:=bG cD hl2
     generalize B.getD i cD=E at e3 q1 q2 hsn
     have hc1:=rD E.cells q1
     have hc2:=rD E.vals q2
     simp only[go_sem,hd2,w3,eb,e3,bO,ac,ad]
     refine⟨⟨by omega,by omega⟩,?_⟩
     refine bb (.take 2<| .take 5<| .tk 2 8<| .pure 10<| .tk 2 11<| .pure 13<| .tk 2 3<| .tk 2 6<| .take 14<| .alt 0 (.alt 1 (.tk 4 15<| .done)<| .alt 15 (.alt 1 (.tk 3 16<| .done)<| .alt 16 (.take 1<| .tk 2 17<| .done)<| .stop)<| .stop)<| .alt 15 (.alt 0 (.alt 1 (.tk 3 16<| .done)<| .alt 16 (.take 1<| .tk 2 17<| .done)<| .stop)<| .alt 16 (.tk 2 0<| .tk 2 17<| .done)<| .stop)<| .stop) (by kernel_rfl) ?_
     simp only[go_sem,w3,eb,e3,bO,ac,ad]
     refine mN (.d (bu E.cells)) ⟨λ Z'=>bH (hc1 Z' G _ ⟨rfl,rfl⟩),?_⟩
     simp only[go_sem,w3,eb,e3,bO,ac,ad]
     refine mN (.d (bu E.vals)) ⟨λ Z'=>bH (hc2 Z' G _ ⟨rfl,rfl⟩),?_⟩
     have hgs:=g7 (L:=L) (t:=t) (by omega)
     have hss:=fH (L:=L) (t:=t) (by omega)
     simp only[bu,go_sem,w3,eb,e3,bO,hLl,hgs,hss,br,ac,aH,ad]
     have hfl:=dx (B.take i)
     rw[aP,cC hi]at hfl
     refine⟨⟨by omega,by omega⟩,by omega,⟨hfl,by simp only[maxLen];omega,by omega⟩,⟨by omega,by omega⟩,by omega,?_⟩
     refine Wk.keep [1,2,3,4,20,21,22,27,28,29] [0,1,2,3,4,5,9] (by decide) (aE _) hbd ⟨B.length - (i+1),by omega,i+1,by omega,rfl,by simp only[go_sem],?_⟩
     rw[hsn,iG]
     simp only[go_sem,bY,bu,dj,cx,ec,cG,dK _ _ _ hLd,aM,bq]
     rfl
    ·have hd2:decide ((i:Int)<(B.length:Int))=false:=by simp;omega
     obtain rfl:i=B.length:=by omega
     rw[aK (aE _)]
     simp only[go_sem,hd2,w2,eb,ac,ad]
     refine Wk.via (bw.freezeIn (Z:=Z) 6 4 2 0 (B.map bO) rfl (iB B) rfl (by decide)) ?_
     simp only[go_sem,ac,gF,iF _ _ _ _ _ hLd,and_self,if_true,false_and,if_false]
     refine Wk.keep [1,2,3,20,21,22] [0,1,2,3,4,5] (by decide) (aE _) hbd ⟨c.buf.length - (t+1),by omega,t+1,by omega,rfl,by simp only[go_sem],?_⟩
     rw[if_neg (by omega),←hsucc]
     simp only[go_sem,bY,cx,ec,dK _ _ _ hLd,cu]
   ·subst htu
    rw[if_neg (by omega)]
    obtain⟨L,hL⟩:∃L,fB c.buf t=L:=⟨_,rfl⟩
    rw[hL]at hsucc hnil hLd hLl
    rw[hL]
    obtain⟨B,hB⟩:∃B,c.buf.getD t []=B:=⟨_,rfl⟩
    have hBu:c.bufAt t=B:=hB
    rw[hB]at eb hb1 hb2 hsucc
    rw[hBu]
    simp only[go_sem,hd,eb,ac,ad]
    refine⟨⟨by omega,by omega⟩,?_⟩
    refine aS (λ m fr st=>∃i:Nat,i≤B.length∧m=B.length - i∧fr=%[.o,.ref Z.length 0,.ref (Z.length+1) 0,.ref (Z.length+5) 0,dn t|D4 %[.o,.o,.o,.o,.o,.o,.o,.d (.sl 1 (c.buf.map cu)),dn c.buf.length,dn t,.o,.o,.o,.o,.d (.sl 2 (B.map bO)),dn B.length,dn i|D5 (D4 [])]]∧st=Z++[dy c,df (.d .nils) (.d .nils) (.d .nils),bY c.mem,bY c.pos,some (.cells (L.set t (.rs (Z.length+6) 2 0 i (some 48)))),df (.rs (Z.length+2) 1 0 c.mem.length (some 3)) (.rs (Z.length+3) 1 0 c.pos.length (some 3)) (.rs (Z.length+4) 1 0 c.buf.length (some 46)),some (.cells (bU ((B.take i).map bO)))]) B.length _ ?_ ?_
    ·refine Wk.via (bw.emptyIn (Z:=Z) 4 t 2 (some 48) rfl hnil) ?_
     exact Wk.mask [1,2,3,4,20,21,22,27,28,29] ⟨0,by omega,by omega,rfl,by simp [bU]⟩
    rintro m2 fr st ⟨i,hi,hm2,rfl,rfl⟩
    rcases aC i B.length with hl2|hg2
    ·have hd2:decide ((i:Int)<(B.length:Int))=true:=by simp;omega
     have w3:=bC i (by omega)
     have e3:=gG (l:=B) hl2
     obtain⟨q1,q2⟩:=hb2 _ (bv cD hl2)
     have hsn:=bG cD hl2
     generalize B.getD i cD=E at e3 q1 q2 hsn
     have hc1:=rD E.cells q1
     have hc2:=rD E.vals q2
     simp only[go_sem,hd2,w3,eb,e3,bO,ac,ad]
     refine⟨⟨by omega,by omega⟩,?_⟩
     refine bb (.take 2<| .take 5<| .tk 2 8<| .pure 10<| .tk 2 11<| .pure 13<| .tk 2 3<| .tk 2 6<| .take 14<| .alt 0 (.alt 1 (.tk 4 15<| .done)<| .alt 15 (.alt 1 (.tk 3 16<| .done)<| .alt 16 (.take 1<| .tk 2 17<| .done)<| .stop)<| .stop)<| .alt 15 (.alt 0 (.alt 1 (.tk 3 16<| .done)<| .alt 16 (.take 1<| .tk 2 17<| .done)<| .stop)<| .alt 16 (.tk 2 0<| .tk 2 17<| .done)<| .stop)<| .stop) (by kernel_rfl) ?_
     simp only[go_sem,w3,eb,e3,bO,ac,ad]
     refine mN (.d (bu E.cells)) ⟨λ Z'=>bH (hc1 Z' G _ ⟨rfl,rfl⟩),?_⟩
     simp only[go_sem,w3,eb,e3,bO,ac,ad]
     refine mN (.d (bu E.vals)) ⟨λ Z'=>bH (hc2 Z' G _ ⟨rfl,rfl⟩),?_⟩
     have hgs:=g7 (L:=L) (t:=t) (by omega)
     have hss:=fH (L:=L) (t:=t) (by omega)
     simp only[bu,go_sem,w3,eb,e3,bO,hLl,hgs,hss,br,ac,aH,ad]
     have hfl:=dx (B.take i)
     rw[aP,cC hi]at hfl
     refine⟨⟨by omega,by omega⟩,by omega,⟨hfl,by simp only[maxLen];omega,by omega⟩,⟨by omega,by omega⟩,by omega,?_⟩
     refine Wk.keep [1,2,3,4,20,21,22,27,28,29] [0,1,2,3,4,5,9] (by decide) (aE _) hbd ⟨B.length - (i+1),by omega,i+1,by omega,rfl,by simp only[go_sem],?_⟩
     rw[hsn,iG]
     simp only[go_sem,bY,bu,dj,cx,ec,cG,dK _ _ _ hLd,aM,bq]
     rfl
    ·have hd2:decide ((i:Int)<(B.length:Int))=false:=by simp;omega
     obtain rfl:i=B.length:=by omega
     rw[aK (aE _)]
     simp only[go_sem,hd2,w2,eb,ac,ad]
     refine Wk.mask [1,2,3,20,21,22] ⟨c.buf.length - (t+1),by omega,t+1,by omega,rfl,rfl,?_⟩
     rw[if_pos (by omega),←hsucc,dT]
   ·rw[if_pos htu]
    obtain⟨K,hK⟩:∃K,fB c.buf t=K:=⟨_,rfl⟩
    rw[hK]at hsucc hnil hLd hLl
    rw[hK]
    have hnil':(K.set u (.rs (Z.length+6) 2 0 (c.bufAt u).length (some 48)))[t]? =some (A.d .nils):=by rw[aD (by omega)];exact hnil
    have hsucc':(K.set u (.rs (Z.length+6) 2 0 (c.bufAt u).length (some 48))).set t (A.d (cu (c.buf.getD t [])))=(fB c.buf (t+1)).set u (.rs (Z.length+6) 2 0 (c.bufAt u).length (some 48)):=by rw[←hsucc,EC _ _ (by omega)]
    have hLl':(K.set u (.rs (Z.length+6) 2 0 (c.bufAt u).length (some 48))).length=c.buf.length:=by rw[aH];exact hLl
    have hren:∀p,Go.Ab.ix Z.length (0::1::2::3::4::5::6::p) (K.set u (.rs (Z.length+6) 2 0 (c.bufAt u).length (some 48)))=K.set u (.rs (Z.length+6) 2 0 (c.bufAt u).length (some 48)):=λ p=>by
     rw[ec,dK _ _ _ hLd];simp only[go_sem]
    have hfrz:∀xs:List D,jP (Z.length+7) 2 0 xs (K.set u (.rs (Z.length+6) 2 0 (c.bufAt u).length (some 48)))=K.set u (.rs (Z.length+6) 2 0 (c.bufAt u).length (some 48)):=λ xs=>by
     rw[gF,iF _ _ _ _ _ hLd];simp only[go_sem,false_and,if_false]
    obtain⟨L,hL⟩:∃L,K.set u (.rs (Z.length+6) 2 0 (c.bufAt u).length (some 48))=L:=⟨_,rfl⟩
    rw[hL]at hnil' hsucc' hLl' hren hfrz
    rw[hL]
    clear hnil hsucc hLl hLd
    have hnil:=hnil'
    have hsucc:=hsucc'
    have hLl:=hLl'
    obtain⟨B,hB⟩:∃B,c.buf.getD t []=B:=⟨_,rfl⟩
    rw[hB]at eb hb1 hb2 hsucc
    simp only[go_sem,hd,eb,ac,ad]
    refine⟨⟨by omega,by omega⟩,?_⟩
    refine aS (λ m fr st=>∃i:Nat,i≤B.length∧m=B.length - i∧fr=%[.o,.ref Z.length 0,.ref (Z.length+1) 0,.ref (Z.length+5) 0,dn t|D4 %[.o,.o,.o,.o,.o,.o,.o,.d (.sl 1 (c.buf.map cu)),dn c.buf.length,dn t,.o,.o,.o,.o,.d (.sl 2 (B.map bO)),dn B.length,dn i|D5 (D4 [])]]∧st=Z++[dy c,df (.d .nils) (.d .nils) (.d .nils),bY c.mem,bY c.pos,some (.cells (L.set t (.rs (Z.length+7) 2 0 i (some 48)))),df (.rs (Z.length+2) 1 0 c.mem.length (some 3)) (.rs (Z.length+3) 1 0 c.pos.length (some 3)) (.rs (Z.length+4) 1 0 c.buf.length (some 46)),some (.cells (bU ((c.bufAt u).map bO))),some (.cells (bU ((B.take i).map bO)))]) B.length _ ?_ ?_
    ·refine Wk.via (bw.emptyIn (Z:=Z) 4 t 2 (some 48) rfl hnil) ?_
     exact Wk.mask [1,2,3,4,20,21,22,27,28,29] ⟨0,by omega,by omega,rfl,by simp [bU]⟩
    rintro m2 fr st ⟨i,hi,hm2,rfl,rfl⟩
    rcases aC i B.length with hl2|hg2
    ·have hd2:decide ((i:Int)<(B.length:Int))=true:=by simp;omega
     have w3:=bC i (by omega)
     have e3:=gG (l:=B) hl2
     obtain⟨q1,q2⟩:=hb2 _ (bv cD hl2)
     have hsn:=bG cD hl2
     generalize B.getD i cD=E at e3 q1 q2 hsn
     have hc1:=rD E.cells q1
     have hc2:=rD E.vals q2
     simp only[go_sem,hd2,w3,eb,e3,bO,ac,ad]
     refine⟨⟨by omega,by omega⟩,?_⟩
     refine bb (.take 2<| .take 5<| .tk 2 8<| .pure 10<| .tk 2 11<| .pure 13<| .tk 2 3<| .tk 2 6<| .take 14<| .alt 0 (.alt 1 (.tk 4 15<| .done)<| .alt 15 (.alt 1 (.tk 3 16<| .done)<| .alt 16 (.take 1<| .tk 2 17<| .done)<| .stop)<| .stop)<| .alt 15 (.alt 0 (.alt 1 (.tk 3 16<| .done)<| .alt 16 (.take 1<| .tk 2 17<| .done)<| .stop)<| .alt 16 (.tk 2 0<| .tk 2 17<| .done)<| .stop)<| .stop) (by kernel_rfl) ?_
     simp only[go_sem,w3,eb,e3,bO,ac,ad]
     refine mN (.d (bu E.cells)) ⟨λ Z'=>bH (hc1 Z' G _ ⟨rfl,rfl⟩),?_⟩
     simp only[go_sem,w3,eb,e3,bO,ac,ad]
     refine mN (.d (bu E.vals)) ⟨λ Z'=>bH (hc2 Z' G _ ⟨rfl,rfl⟩),?_⟩
     have hgs:=g7 (L:=L) (t:=t) (by omega)
     have hss:=fH (L:=L) (t:=t) (by omega)
     simp only[bu,go_sem,w3,eb,e3,bO,hLl,hgs,hss,br,ac,aH,ad]
     have hfl:=dx (B.take i)
     rw[aP,cC hi]at hfl
     refine⟨⟨by omega,by omega⟩,by omega,⟨hfl,by simp only[maxLen];omega,by omega⟩,⟨by omega,by omega⟩,by omega,?_⟩
     refine Wk.keep [1,2,3,4,20,21,22,27,28,29] [0,1,2,3,4,5,6,10] (by decide) (aE _) hbd ⟨B.length - (i+1),by omega,i+1,by omega,rfl,by simp only[go_sem],?_⟩
     rw[hsn,iG]
     simp only[go_sem,bY,bu,dj,cx,ec,cG,hren,aM,bq]
     rfl
    ·have hd2:decide ((i:Int)<(B.length:Int))=false:=by simp;omega
     obtain rfl:i=B.length:=by omega
     rw[aK (aE _)]
     simp only[go_sem,hd2,w2,eb,ac,ad]
     refine Wk.via (bw.freezeIn (Z:=Z) 7 4 2 0 (B.map bO) rfl (iB B) rfl (by decide)) ?_
     simp only[go_sem,ac,gF,hfrz,and_self,if_true,false_and,if_false]
     refine Wk.keep [1,2,3,20,21,22] [0,1,2,3,4,5,6] (by decide) (aE _) hbd ⟨c.buf.length - (t+1),by omega,t+1,by omega,rfl,by simp only[go_sem],?_⟩
     rw[if_pos (by omega),←hsucc]
     simp only[go_sem,bY,cx,ec,hren,cu,cG]
  ·have hd:decide ((t:Int)<(c.buf.length:Int))=false:=by simp;omega
   obtain rfl:t=c.buf.length:=by omega
   rw[pK,if_pos hu]
   simp only[go_sem,hd,ac]
   exact Wk.mask [1,2,3] ⟨rfl,rfl⟩
 rintro fr st ⟨rfl,rfl⟩
 simp only[go_sem,ac]
 refine nn [2,3,4,6] (by decide) hbd ?_
 simp only[go_sem,bY,cx,ec,cG,dK _ _ _ (gA c.buf)]
 exact h
end
section
open Go Go.Ab Go.RowKit
theorem si {P:Program} {ops:Array Oper} {o:Oper} {a:Act} {w:World} {K:Act→World→Prop} {Q:Exit→Act→World→Prop} {E:Prop}
  (hg:o.guard=none) (s x:Operand) (t:TypeId) (hop:o.op=Op.call { callee:=Callee.builtin Builtin.append,args:= #[s,x],argTypes:= #[t,t]})
  (e:TypeId) (i:TypeInfo) (h1:P.underlying t=some (.slice e)) (h2:P.info? e=some i)
  (g n cap:Nat) (hs:a.eval s= .slice (some ⟨g,0,none⟩) n cap) (m:Nat) (us:List Value) (xv:Value) (hx:a.eval x=xv) (hsrc:Src P w i.size m t xv us)
  (cur:Array Value) (hgc:w.heap[g]? =some (.cells cur e (0,0))) (h1c:∀u∈us,u.oneCell'=true) (hroom:n+m≤cap) (hfit:n*i.size+us.length≤cur.size)
  (hK:K (a.put o.dst (.slice (some ⟨g,0,none⟩) (n+m) cap)) (w.setRow g (cur.toList.take (n*i.size)++us++cur.toList.drop (n*i.size+us.length)).toArray)):
  if Region.wanted o (yielded ops a.tmps)=true then Oper.wp P o a w K Q else E:=by
 have hw:Region.wanted o (yielded ops a.tmps)=true:=by simp [Region.wanted,hg]
 rw[if_pos hw]
 have hrun:=oL (P:=P) (w:=w) (ty:=o.type) h1 h2 hsrc hgc h1c hroom hfit
 unfold Oper.wp
 simp only[aU]at hrun hK
 simp [execOp,hop,resolve,invoke,builtin,hs,hx,hrun,Result.andThen]
 rw[Oper.upon_value]
 exact hK
def mi(cur:Array Value)(n i j:Nat):Array Value:=(cur.toList.take (i*2)++(cur.toList.drop (j*2)).take ((n - j)*2)++cur.toList.drop (i*2+((cur.toList.drop (j*2)).take ((n - j)*2)).length)).toArray
def zE:Value:= .agg #[.slice none 0 0,.slice none 0 0]
def zsE(k:Nat):List Value:=(Builtin.zeroCells zE.cells k).toList
def xK(cur:Array Value)(n i j:Nat):Array Value:=((mi cur n i j).toList.take ((i+(n - j))*2)++zsE (n - (i+(n - j)))++(mi cur n i j).toList.drop ((i+(n - j))*2+(zsE (n - (i+(n - j)))).length)).toArray
theorem BL(k:Nat):(zsE k).length=k*2:=by
 unfold zsE;rw[Array.length_toList,size_zeroCells];rfl
theorem zsE_one{k:Nat}{u:Value}(h:u∈zsE k):u.oneCell'=true:=by
 have:=oQ h
 simp [zE,Value.cells]at this
 subst this;rfl
section
set_option maxHeartbeats 4000000
theorem DC(blk n cap i j:Nat)(cur:Array Value)(w:World)(hb:w.heap[blk]? =some (.cells cur 48 (0,0)))(hn:n≤cap)(hfit:cap*2≤cur.size)(hm:cap≤9223372036854775807)(hij:i<j)(hj:j≤n)(h1:∀k u,k<n*2→cur[k]? =some u→u.oneCell'=true):
  Calls Tryz.prog 91 #[.slice (some ⟨blk,0,none⟩) n cap,.int .i64 i,.int .i64 j] w λ e w'=>e= .returned (.slice (some ⟨blk,0,none⟩) (i+(n - j)) cap)∧w'=(w.drew.setRow blk (mi cur n i j)).setRow blk (xK cur n i j):=by
 have a9:=a9
 obtain⟨i0,hi0,hz0,hz1,hz2⟩:=info_parts (P:=Tryz.prog) (e:=48) (z:=zE) (size:=2) (bytes:=48) (by kernel_rfl)
 obtain⟨us,hus⟩:∃us,us=(cur.toList.drop (j*2)).take ((n - j)*2):=⟨_,rfl⟩
 have hul:us.length=(n - j)*2:=by rw[hus];simp;omega
 have hget:∀k u,us[k]? =some u→cur[j*2+k]? =some u∧k<(n - j)*2:=λ k u hk=>by
  have hlt:=(aA.1 hk).1
  rw[hul]at hlt
  rw[hus,bL hlt,bE,bP]at hk
  exact⟨hk,hlt⟩
 have s1:Hid (∀u∈us,u.oneCell'=true):=by
  intro u hu
  obtain⟨k,hk⟩:=fT.1 hu
  obtain⟨h2,h3⟩:=hget k u hk
  exact h1 (j*2+k) u (by omega) h2
 obtain⟨A,hA,hsrc⟩:∃A:Addr,(if cap=j then some (⟨blk,0,none⟩:Addr)else some ⟨blk,j*2,none⟩)=some A∧Hid (Src Tryz.prog w.drew i0.size (n - j) 46 (.slice (some A) (n - j) (cap - j)) us):=by
  have hty:∀A:Addr,(∀t u,us[t]? =some u→w.drew.cell? (A.add t)=some u)→Src Tryz.prog w.drew i0.size (n - j) 46 (.slice (some A) (n - j) (cap - j)) us:=λ A hA=>by
   refine⟨.inr ⟨48,Tryz.underlying46⟩,by simp [Builtin.lenOf],λ w' hw'=> ?_,by rw[hz1];exact hul⟩
   exact run_firstCells_some _ _ _ _ _ _ _ (by rw[hz1];exact hul) λ t u hu=>by rw[uG hw'];exact hA t u hu
  by_cases h:cap=j
  ·refine⟨⟨blk,0,none⟩,by simp [h],hty _ λ t u hu=> ?_⟩
   have:=(hget t u hu).2
   omega
  ·refine⟨⟨blk,j*2,none⟩,by simp [h],hty _ λ t u hu=> ?_⟩
   obtain⟨h2,h3⟩:=hget t u hu
   rw[Addr.add_lit]
   have:w.drew.heap[blk]? =some (.cells cur 48 (0,0)):=hb
   simp only[World.cell?,this]
   simpa using h2
 have hb1:Hid (w.drew.heap[blk]? =some (.cells cur 48 (0,0))):=hb
 have s2:Hid (i*i0.size+us.length≤cur.size):=by show _≤_;rw[hul,hz1];omega
 obtain⟨W1,hW1⟩:∃W1,W1=w.drew.setRow blk (mi cur n i j):=⟨_,rfl⟩
 have hA1:(cur.toList.take (i*i0.size)++us++cur.toList.drop (i*i0.size+us.length)).toArray=mi cur n i j:=by rw[hus,hz1];rfl
 have hAsz:(mi cur n i j).size=cur.size:=by rw[←hA1,hz1];simp [hul];omega
 have hh1:W1.heap[blk]? =some (.cells (mi cur n i j) 48 (0,0)):=by rw[hW1];exact setRow_heap w.drew blk cur _ _ _ hb
 have hcl:∀ty,(Builtin.clear_ #[46] ty #[.slice (some ⟨blk,(i+(n - j))*2,none⟩) (n - (i+(n - j))) (cap - (i+(n - j)))]).run Tryz.prog W1= .ok (.tuple #[]) (W1.setRow blk (xK cur n i j)):=λ ty=>by
  have hst:=run_storeCells_at Tryz.prog blk ((i+(n - j))*2) 48 (zsE (n - (i+(n - j)))) 0 (mi cur n i j) W1 hh1 (by rw[BL,hAsz];omega) (λ u hu=>zsE_one hu)
  simp only[dY]at hst
  obtain⟨k,hk⟩:∃k,n - (i+(n - j))=k+1:=⟨n - (i+(n - j)) - 1,by omega⟩
  have hzv:=Tryz.zeroValue48
  unfold xK
  unfold zsE zE at*
  rw[hk]at hst ⊢
  simp [Builtin.clear_,run_underlying Tryz.underlying46,hzv,hst]
 have hW:Aside (W1=w.drew.setRow blk (mi cur n i j)):=hW1
 have hic:i≤cap:=by omega
 have hjc:j≤cap:=by omega
 have hA2:Hid ((cur.toList.take (i*i0.size)++us++cur.toList.drop (i*i0.size+us.length)).toArray=mi cur n i j):=hA1
 clear hW1 hh1 hb hget hus h1 hA1 hAsz hul
 go_enter Tryz.func91,Tryz.ntmps91
 go_wp2_with fail
 go_region_law (refine si rfl (.tmp 22) (.tmp 25) 46 rfl 48 i0 Tryz.underlying46 hi0 blk i cap (by simp [Act.eval,Act.put]) (n - j) us (.slice (some A) (n - j) (cap - j)) (by simp [Act.eval,Act.put]) hsrc.out cur hb1.out s1.out (by omega) s2.out ?_;rw[hA2.out,←hW])
 go_wp2
 go_ret
 exact⟨rfl,by rw[hW]⟩
end
theorem delA_get(cur:Array Value)(n i j:Nat)(hij:i≤j)(hj:j≤n)(hfit:n*2≤cur.size){k:Nat}(hk:k<(i+(n - j))*2):(mi cur n i j)[k]? =cur[if k<i*2 then k else j*2+(k - i*2)]? :=by
 unfold mi
 rw[cY]
 by_cases h:k<i*2
 ·rw[if_pos h,aU,aq (by simp;omega),bL h,bP]
 ·rw[if_neg h,aq (by simp;omega),az (by simp;omega)]
  have:(List.take (i*2) cur.toList).length=i*2:=by simp;omega
  rw[this,bL (by omega),bE,bP]
theorem mh(cur:Array Value)(n i j:Nat)(hij:i≤j)(hj:j≤n)(hfit:n*2≤cur.size):(mi cur n i j).size=cur.size:=by
 unfold mi;simp;omega
theorem rB(cur:Array Value)(n i j:Nat)(hij:i≤j)(hj:j≤n)(hfit:n*2≤cur.size):(xK cur n i j).size=cur.size:=by
 have h:=mh cur n i j hij hj hfit
 unfold xK;simp [BL,h];omega
theorem delB_get(cur:Array Value)(n i j:Nat)(hij:i≤j)(hj:j≤n)(hfit:n*2≤cur.size){k:Nat}(hk:k<(i+(n - j))*2):(xK cur n i j)[k]? =(mi cur n i j)[k]? :=by
 have h:=mh cur n i j hij hj hfit
 unfold xK
 rw[cY,aU,aq (by simp;omega),bL hk,bP]
theorem Bg(B:List Ent)(i:Nat)(hi:i<B.length)(k:Nat)(hk:k<(i+(B.length - (i+1)))*2):(bU ((B.eraseIdx i).map bO))[k]? =(bU (B.map bO))[if k<i*2 then k else(i+1)*2+(k - i*2)]? :=by
 have e1:B=B.take i++([B.getD i cD]++B.drop (i+1)):=by
  rw[←aU,←bG cD hi,ct]
 have e2:B.eraseIdx i=B.take i++B.drop (i+1):=List.eraseIdx_eq_take_drop_succ _ _
 have l1:(bU ((B.take i).map bO)).length=i*2:=by rw[dx,aP,cC (by omega)]
 have l2:(bU ([B.getD i cD].map bO)).length=2:=dx _
 have e3:bU (B.map bO)=bU ((B.take i).map bO)++(bU ([B.getD i cD].map bO)++bU ((B.drop (i+1)).map bO)):=by
  rw[←cZ,←cZ,←aJ,←aJ,←e1]
 rw[e2,e3,aJ,cZ]
 by_cases h:k<i*2
 ·rw[if_pos h,aq (by omega),aq (by omega)]
 ·rw[if_neg h,az (by omega),az (by omega),az (by omega),l1,l2]
  congr 1
  omega
theorem deleteU(B:List Ent)(i:Nat)(hi:i<B.length)(hB:B.length≤100)(id n:Nat)(hn:n=B.length)(Z:St)(hσ:Z[id]? =some (some (.cells (bU (B.map bO)))))(G:Glob)(R:A→St→Prop)(h:R (.rs id 2 0 (B.length - 1) (some 48)) (Z.set id (some (.cells (bU ((B.eraseIdx i).map bO)))))):AC Tryz.prog G 91 [.rs id 2 0 n (some 48),dn i,di ((i+1:Nat):Int)] Z R:=by
 subst hn
 refine⟨by kernel_rfl,λ U w vs hI hL=> ?_⟩
 obtain⟨hl,hr⟩:=hL
 match vs,hl with
 |[v0,v1,v2],_=>
  have h0:=hr 0 _ v0 rfl rfl
  have h1:=hr 1 _ v1 rfl rfl
  have h2:=hr 2 _ v2 rfl rfl
  cases h1 with
  |d h1=>
   cases h2 with
   |d h2=>
    cases h1
    cases h2
    rcases kB hI (aO hσ) h0 with⟨b,cap,cur,e',z',hb,rfl,hh,hcap,hfit,hown⟩|⟨_,_,hz,_⟩
    case inr=>omega
    rcases lW hI hσ with⟨b',vs',et,hb',hh',hlen,hcs⟩|⟨he',_⟩
    case inr=>rw[hb]at he';injection he' with he';cases he'
    rw[hb]at hb';injection hb' with hb';injection hb' with hb';subst hb'
    rw[hh]at hh';injection hh' with hh';injection hh' with q1 q2 q3;subst q1;subst q2;subst q3
    obtain⟨q4,_,hsz,hmax⟩:=hown 48 rfl
    subst q4
    have hfl:=dx B
    have hm:cap≤9223372036854775807:=by simp only[maxLen]at hmax;omega
    rw[hfl]at hlen
    have hget:∀k,k<B.length*2→∃v,cur[k]? =some v∧v.oneCell'=true:=λ k hk=>by
     obtain⟨v,e1,e2,_⟩:=hcs k _ (ap (by rw[hfl];exact hk))
     exact⟨v,e1,e2⟩
    refine(DC b B.length cap i (i+1) cur w hh hcap (by omega) hm (by omega) (by omega) λ k u hk hu=> ?_).mono ?_
    ·obtain⟨v,e1,e2⟩:=hget k hk
     rw[hu]at e1;injection e1 with e1;subst e1;exact e2
    rintro e w' ⟨rfl,rfl⟩
    have hI1:Inv G U Z w.drew:=hI.ext_same (Ext.drew U w) rfl
    have hle:(bU ((B.eraseIdx i).map bO)).length=(B.length - 1)*2:=by rw[dx,List.length_eraseIdx,if_pos hi]
    have hcs1:∀(k:Nat) (x:A),(bU ((B.eraseIdx i).map bO))[k]? =some x→∃v,(mi cur B.length i (i+1))[k]? =some v∧v.oneCell'=true∧RepA U w x v:=λ k x hx=>by
     have hk:=(aA.1 hx).1
     rw[hle]at hk
     rw[Bg B i hi k (by omega)]at hx
     rw[delA_get cur B.length i (i+1) (by omega) (by omega) (by omega) (by omega)]
     exact hcs _ x hx
    have hbd1:jo Z.length (bU ((B.eraseIdx i).map bO))=true:=gI λ y hy=>by
     unfold bU at hy
     rw[gJ]at hy
     obtain⟨d,_,hy⟩:=hy
     obtain⟨z,_,rfl⟩:=aI.1 hy
     rfl
    obtain⟨x1,I1⟩:=hI1.write (vs':=mi cur B.length i (i+1)) (cs:=bU ((B.eraseIdx i).map bO)) hb (by exact hh) rfl (mh _ _ _ _ (by omega) (by omega) (by omega)) hbd1 (by rw[mh _ _ _ _ (by omega) (by omega) (by omega),hle];omega) λ k x hx=>by
     obtain⟨v,e1,e2,e3⟩:=hcs1 k x hx
     exact⟨v,e1,e2,e3.ext (Ext.drew U w)⟩
    have hh1:(w.drew.setRow b (mi cur B.length i (i+1))).heap[b]? =some (.cells (mi cur B.length i (i+1)) 48 (0,0)):=setRow_heap _ b cur _ _ _ hh
    obtain⟨x2,I2⟩:=I1.write (vs':=xK cur B.length i (i+1)) (cs:=bU ((B.eraseIdx i).map bO)) hb hh1 rfl (by rw[rB _ _ _ _ (by omega) (by omega) (by omega),mh _ _ _ _ (by omega) (by omega) (by omega)]) (by rw[aH];exact hbd1) (by rw[rB _ _ _ _ (by omega) (by omega) (by omega),hle];omega) λ k x hx=>by
     have hk:=(aA.1 hx).1
     rw[hle]at hk
     obtain⟨v,e1,e2,e3⟩:=hcs1 k x hx
     exact⟨v,by rw[delB_get _ _ _ _ (by omega) (by omega) (by omega) (by omega)];exact e1,e2,e3.ext ((Ext.drew U w).trans x1)⟩
    rw[dT]at I2
    have hh2:=setRow_heap (w.drew.setRow b (mi cur B.length i (i+1))) b _ (xK cur B.length i (i+1)) _ _ hh1
    refine .inl ⟨_,U,_,_,rfl,((Ext.drew U w).trans x1).trans x2,I2,?_,h⟩
    rw[show i+(B.length - (i+1))=B.length - 1 by omega]
    have hdz:=rB cur B.length i (i+1) (by omega) (by omega) (by omega)
    exact .rs hb hh2 (by omega) (by omega) λ e' he=>by injection he with he;subst he;exact⟨rfl,rfl,by omega,hmax⟩
end
section
open Go Go.Ab
theorem flat_at(B:List Ent)(i:Nat)(hi:i<B.length):List.take 2 (List.drop (i*2) (bU (B.map bO)))=[.d (bu (B.getD i cD).cells),.d (bu (B.getD i cD).vals)]:=by
 have e1:B=B.take i++([B.getD i cD]++B.drop (i+1)):=by
  rw[←aU,←bG cD hi,ct]
 have e3:bU (B.map bO)=bU ((B.take i).map bO)++(bU ([B.getD i cD].map bO)++bU ((B.drop (i+1)).map bO)):=by
  rw[←cZ,←cZ,←aJ,←aJ,←e1]
 have l1:(bU ((B.take i).map bO)).length=i*2:=by rw[dx,aP,cC (by omega)]
 rw[e3,Ez l1]
 rfl
theorem commitU(p:Prg)(hp:Good p)(m:Int)(c:Cfg)(hf:Fits p m c)(t i:Nat)(ht:t<p.threads.length)(hi:i<(c.bufAt t).length)(Z:St)(G:Glob)(R:A→St→Prop)(h:R (.d (bX (rC c t i))) Z):AC Tryz.prog G 48 [.d (qO p m c),dn t,dn i] Z R:=by
 obtain⟨z1,z2,z3,z4⟩:=hf.sz hp
 have htb0:t<c.buf.length:=by rw[hf.nbuf];exact ht
 have cp:=CloneU c t htb0 (by omega) (by omega) (by omega) (λ l hl=>⟨by have:=(z4 l hl).1;omega,λ e he=>by have:=(z4 l hl).2 e he;omega⟩)
 obtain⟨hB3,hB4⟩:=hf.bufOk t
 have hin:=λ e he=>EntOk.isIn hp hf (hB4 e he)
 unfold rC at h
 obtain⟨B,hB⟩:∃B,c.bufAt t=B:=⟨_,rfl⟩
 rw[hB]at hi h hB3 hB4 hin
 have hE:=hin _ (bv cD hi)
 have hat:=flat_at B i hi
 have hdl:=deleteU B i hi (by omega)
 have hfl:=dx B
 obtain⟨E,hEd⟩:∃E,B.getD i cD=E:=⟨_,rfl⟩
 rw[hEd]at hE hat h
 have wi:=bC i (by omega)
 unfold qO
 unfold bX at*
 refine bD [2] a9 Tryz.func48 rfl Tryz.ntmps48 (by simp only[go_sem]) λ hbd=> ?_
 simp only[ae,aj,Nat.reduceAdd,Nat.reduceSub,af,ag,ah,ak]
 try simp only[go_sem]
 refine bc (λ fr st=>fr=%[.o,dn t,dn i,.o,.o,.o,.ref (Z.length+1) 0,.ref (Z.length+6) 0|D5 (D4 [.o,.o,.o,.o])]∧st=Z++[pc p m c,df (.d .nils) (.d .nils) (.d .nils),bY c.mem,bY c.pos,Al c t (Z.length+5),some (.cells (bU (B.map bO))),df (.rs (Z.length+2) 1 0 c.mem.length (some 3)) (.rs (Z.length+3) 1 0 c.pos.length (some 3)) (.rs (Z.length+4) 1 0 c.buf.length (some 46))]) ?_ ?_
 ·try simp only[go_sem]
  refine bH (cp _ _ _ ?_)
  simp only[go_sem,hB,cf,Nat.reduceAdd]
  exact Wk.mask [1,2,6,7] ⟨rfl,by simp only[Al,hB]⟩
 rintro fr st ⟨rfl,rfl⟩
 have hLl:t<(c.buf.map λ b=>A.d (cu b)).length:=by rw[ac];exact htb0
 have hgs:=g7 hLl
 have hss:=fH hLl
 try simp only[go_sem]
 refine bb (.tk 11 0<| .done) (by kernel_rfl) ?_
 have hw:=writeU c.mem E hE (Z.length+2) c.mem.length rfl
 unfold bO at hw
 simp only[go_sem,hB,hgs,hat,ac,aH,ad,br]
 refine⟨⟨by omega,by omega⟩,by omega,⟨by omega,by omega⟩,by omega,bH (hw _ (by simp) _ _ ?_)⟩
 have h3:∀a b c d e f g x,(Z++[a,b,c,d,e,f,g]).set (Z.length+2) x=Z++[a,b,x,d,e,f,g]:=λ a b c d e f g x=>by simp [List.set_append]
 rw[h3]
 obtain⟨N,hN⟩:∃N,oI c.mem E=N:=⟨_,rfl⟩
 have hNl:N.length=c.mem.length:=by rw[←hN];exact sF _ _
 rw[hN]at h ⊢
 try simp only[go_sem]
 refine bb (.tk 9 2<| .alt 0 (.alt 1 (.tk 3 11<| .done)<| .alt 11 (.take 1<| .tk 2 12<| .done)<| .stop)<| .alt 11 (.tk 2 0<| .tk 2 12<| .done)<| .stop) (by kernel_rfl) ?_
 simp only[go_sem,hB,hgs,hat,wi,ac,aH,ad,br]
 have hel:(B.eraseIdx i).length=B.length - 1:=by rw[List.length_eraseIdx,if_pos hi]
 have hst:(c.buf.map λ b=>A.d (cu b)).set t (A.d (.sl 2 ((B.eraseIdx i).map bO)))=(c.buf.set t (B.eraseIdx i)).map λ b=>A.d (cu b):=by
  rw[fF];rfl
 have h5:∀a b c d e f g x,(Z++[a,b,c,d,e,f,g]).set (Z.length+5) x=Z++[a,b,c,d,e,x,g]:=λ a b c d e f g x=>by simp [List.set_append]
 refine⟨⟨by omega,by omega⟩,by omega,⟨?_,?_⟩,?_⟩
 all_goals
  refine bH (hdl (Z.length+5) _ rfl _ (by simp) _ _ ?_)
  rw[h5]
  simp only[go_sem,hgs,hss,ac,aH,ad,br]
  refine⟨⟨by omega,by omega⟩,by omega,?_⟩
 all_goals
  refine nY (bw.freezeIn (Z:=Z) 5 4 2 0 ((B.eraseIdx i).map bO) rfl (iB _) rfl (by decide)) ?_
  simp only[go_sem,ac,hel,gF,iF _ _ _ _ _ (gA c.buf),and_self,if_true,false_and,if_false]
  rw[hst]
  refine de 2 1 0 (N.map iD) rfl (cJ _) ?_
  simp only[go_sem,ac,hNl,and_self,if_true,false_and,if_false]
  refine de 3 1 0 (c.pos.map iD) rfl (cJ _) ?_
  simp only[go_sem,ac,and_self,if_true,false_and,if_false]
  refine de 4 1 0 ((c.buf.set t (B.eraseIdx i)).map cu) rfl (gV cu (λ _=>⟨rfl,rfl⟩) _) ?_
  simp only[go_sem,ac,aH,and_self,if_true,false_and,if_false]
  exact aQ hbd h
def toB(p:Prg)(s:Stp)(a:Asg):Bool:=(s.kind==3)&&((p.cell a.cell).thread== -1)
def sN(p:Prg)(s:Stp)(l:List Asg):List Asg:=l.filter (toB p s)
def zb(p:Prg)(s:Stp)(l:List Asg):List Asg:=l.filter λ a=> !toB p s a
theorem exe_eq(p:Prg)(m:Int)(hm:m≠0)(c:Cfg)(t:Nat)(ht:t<c.buf.length)(s:Stp):nG p m c t s=⟨gT (cT c t) c.mem (zb p s s.set),iL c t s,if s.kind=3 then c.buf.set t (c.bufAt t++[⟨(sN p s s.set).map Asg.cell,(sN p s s.set).map λ a=>mu (cT c t) a.to⟩])else c.buf⟩:=by
 unfold nG
 by_cases h3:s.kind=3
 ·have e1:toB p s=λ a=>(p.cell a.cell).thread== -1:=by funext a;simp [toB,h3]
  have e2:(λ a=> !toB p s a)=λ a:Asg=>(p.cell a.cell).thread != -1:=by funext a;rw[e1];rfl
  rw[if_pos ⟨h3,hm⟩,if_pos h3]
  unfold zb sN
  rw[e2,e1]
 ·have e2:(λ a=> !toB p s a)=λ a:Asg=>true:=by funext a;simp [toB,h3]
  rw[if_neg (λ h=>h3 h.1),if_neg h3]
  unfold zb
  rw[e2,List.filter_eq_self.2 (λ _ _=>rfl)]
theorem executeU{G:Glob}(hG:G.g 0=some cB)(p:Prg)(hp:Good p)(m:Int)(hm:m=1∨m=2)(c:Cfg)(hf:Fits p m c)(t i:Nat)(ht:t<p.threads.length)(hi:i<(p.thr t).steps.length)(Z:St)(R:A→St→Prop)(h:R (.d (bX (nG p m c t (p.stp t i)))) Z):AC Tryz.prog G 49 [.d (qO p m c),.d (c7 ⟨t,i,0⟩),.d (bu (cT c t))] Z R:=by
 obtain⟨z1,z2,z3,z4⟩:=hf.sz hp
 have htb0:t<c.buf.length:=by rw[hf.nbuf];exact ht
 have cp:=CloneU c t htb0 (by omega) (by omega) (by omega) (λ l hl=>⟨by have:=(z4 l hl).1;omega,λ e he=>by have:=(z4 l hl).2 e he;omega⟩)
 have hnp:=hf.npos
 have hml:=hf.mem.len
 have hvl:(cT c t).length=c.mem.length:=ot _ _
 have e1:=fe (l:=p.threads) ht
 have e2:=mw (l:=(p.thr t).steps) hi
 have hsk:=qN hp.ok ht hi
 have hth:p.threads.getD t fg=p.thr t:=rfl
 have hstp:(p.thr t).steps.getD i jY=p.stp t i:=rfl
 have hss:=(hp.thrS ht).steps (p.stp t i) (by rw[hth,←hstp];exact bv jY hi)
 rw[hth]at e1
 rw[hstp]at e2
 have ev:=λ a ha=>zS hG hsk hss (a:=a) ha (cT c t) (by omega)
 rw[exe_eq p m (by omega) c t htb0]at h
 generalize p.stp t i=s at*
 have hpml:=tL c t s
 have hs4:=hss.set
 have hbl:=(hf.bufOk t).1
 obtain⟨B,hB⟩:∃B,c.bufAt t=B:=⟨_,rfl⟩
 have hfl:=dx B
 rw[hB]at h hbl
 have hin0:sN p s []=[]:=rfl
 have hou0:zb p s []=[]:=rfl
 unfold qO
 unfold bX c7 at*
 refine bD [4,13,15] a9 Tryz.func49 rfl Tryz.ntmps49 (by simp only[go_sem]) λ hbd=> ?_
 simp only[ae,aj,Nat.reduceAdd,Nat.reduceSub,af,ag,ah,ak]
 try simp only[go_sem]
 refine bH (cp _ _ _ ?_)
 simp only[go_sem,hB,cf,Nat.reduceAdd]
 refine bb (.tk 14 0<| .done) (by kernel_rfl) ?_
 simp only[go_sem,c8,e1,e2,eP,ac,ad,cf,Nat.reduceAdd]
 refine⟨⟨by omega,by omega⟩,⟨by omega,by omega⟩,?_⟩
 refine bc (λ fr st=>fr=%[.o,.o,.d (bu (cT c t)),.ref Z.length 0,.ref (Z.length+1) 0,.o,.ref (Z.length+2) 0,.ref (Z.length+7) 0,.ref (Z.length+8) 0,.ref (Z.length+9) 0|D7 (D6 [.o])]∧st=Z++[pc p m c,iO ⟨t,i,0⟩,df (.d .nils) (.d .nils) (.d .nils),bY c.mem,bY c.pos,some (.cells ((c.buf.map λ b=>A.d (cu b)).set t (.rs (Z.length+6) 2 0 B.length (some 48)))),some (.cells (bU (B.map bO))),df (.rs (Z.length+3) 1 0 c.mem.length (some 3)) (.rs (Z.length+4) 1 0 c.pos.length (some 3)) (.rs (Z.length+5) 1 0 c.buf.length (some 46)),gS s,zV (.d .nils) (.d .nils)]) ?_ ?_
 ·try simp only[go_sem]
  exact Wk.mask [2,3,4,6,7,8,9] ⟨rfl,rfl⟩
 rintro fr st ⟨rfl,rfl⟩
 refine bc (λ fr st=>fr=%[.o,.o,.o,.ref Z.length 0,.ref (Z.length+1) 0,.o,.ref (Z.length+2) 0,.ref (Z.length+7) 0,.ref (Z.length+8) 0,.ref (Z.length+9) 0|D7 (D6 [.o])]∧st=Z++[pc p m c,iO ⟨t,i,0⟩,df (.d .nils) (.d .nils) (.d .nils),bY (gT (cT c t) c.mem (zb p s s.set)),bY c.pos,some (.cells ((c.buf.map λ b=>A.d (cu b)).set t (.rs (Z.length+6) 2 0 B.length (some 48)))),some (.cells (bU (B.map bO))),df (.rs (Z.length+3) 1 0 c.mem.length (some 3)) (.rs (Z.length+4) 1 0 c.pos.length (some 3)) (.rs (Z.length+5) 1 0 c.buf.length (some 46)),gS s,zV (.d (bu ((sN p s s.set).map Asg.cell))) (.d (bu ((sN p s s.set).map λ a=>mu (cT c t) a.to)))]) ?_ ?_
 ·simp only[go_sem,ac]
  refine aS (λ k fr st=>∃j:Nat,j≤s.set.length∧k=s.set.length - j∧fr=%[.o,.o,.d (bu (cT c t)),.ref Z.length 0,.ref (Z.length+1) 0,.o,.ref (Z.length+2) 0,.ref (Z.length+7) 0,.ref (Z.length+8) 0,.ref (Z.length+9) 0|D5 %[.o,.o,.o,.d (.sl 5 (s.set.map dM)),dn s.set.length,dn j|D7 (D4 [.o,.o,.o])]]∧st=Z++[pc p m c,iO ⟨t,i,0⟩,df (.d .nils) (.d .nils) (.d .nils),bY (gT (cT c t) c.mem (zb p s (s.set.take j))),bY c.pos,some (.cells ((c.buf.map λ b=>A.d (cu b)).set t (.rs (Z.length+6) 2 0 B.length (some 48)))),some (.cells (bU (B.map bO))),df (.rs (Z.length+3) 1 0 c.mem.length (some 3)) (.rs (Z.length+4) 1 0 c.pos.length (some 3)) (.rs (Z.length+5) 1 0 c.buf.length (some 46)),gS s,zV (.rs (Z.length+10) 1 0 (sN p s (s.set.take j)).length (some 3)) (.rs (Z.length+11) 1 0 (sN p s (s.set.take j)).length (some 3)),bY ((sN p s (s.set.take j)).map Asg.cell),bY ((sN p s (s.set.take j)).map λ a=>mu (cT c t) a.to)]) s.set.length _ ?_ ?_
  ·refine Wk.via (bw.emptyIn (Z:=Z) 9 0 1 (some 3) rfl rfl) ?_
   refine Wk.via (bw.emptyIn (Z:=Z) 9 1 1 (some 3) rfl rfl) ?_
   exact Wk.mask [2,3,4,6,7,8,9,29,30,31] ⟨0,by omega,by omega,rfl,by simp [bY,hin0,hou0,gT]⟩
  rintro k fr st ⟨j,hj,hkk,rfl,rfl⟩
  rcases aC j s.set.length with hlt|hge
  ·have hd:decide ((j:Int)<(s.set.length:Int))=true:=by simp;omega
   have w2:=bC j (by omega)
   have e5:=iP (l:=s.set) hlt
   have ham:=bv dt hlt
   have hsn:=bG dt hlt
   generalize s.set.getD j dt=a at e5 ham hsn
   have eva:=ev a ham
   have hcr:0≤a.cell∧a.cell<p.cells.length:=cS.1 (hsk.set a ham).cell
   unfold eD at eva
   have e6:=fZ p hcr
   have hsl:=(j0 (cT c t) c.mem (zb p s (s.set.take j)))
   have hfl2:(sN p s (s.set.take j)).length≤j:=by
    have h1:=ez (toB p s) (s.set.take j)
    rw[aP]at h1
    unfold sN;omega
   have htb:toB p s a=((s.kind==3)&&((p.cell a.cell).thread== -1)):=rfl
   simp only[go_sem,hd,dM,e5,ac,ad]
   refine⟨⟨by omega,by omega⟩,bH (eva _ _ ?_)⟩
   have hgd:(s.kind==3)=true→(s.kind==3)=true∧0≤a.cell∧a.cell<p.cells.length:=λ q=>⟨q,hcr⟩
   by_cases hb:toB p s a=true
   ·have f1:sN p s (s.set.take (j+1))=sN p s (s.set.take j)++[a]:=by unfold sN;rw[hsn,du];simp [hb]
    have f2:zb p s (s.set.take (j+1))=zb p s (s.set.take j):=by unfold zb;rw[hsn,du];simp [hb]
    rw[htb]at hb
    simp only[go_sem,aY,e6,fb,hb,w2,bY,ac,ad]
    refine⟨hgd,⟨by omega,by simp only[maxLen];omega,by omega⟩,⟨by omega,by simp only[maxLen];omega,by omega⟩,?_⟩
    refine Wk.keep [2,3,4,6,7,8,9,29,30,31] [0,1,2,3,4,5,6,7,8,9,14,16] (by decide) (aE _) hbd ⟨s.set.length - (j+1),by omega,j+1,by omega,rfl,by simp only[go_sem],?_⟩
    rw[f1,f2]
    simp only[go_sem,dj,cx,ec,dK _ _ _ (gA c.buf),cG,aJ,aM,bq,aF,ae,aj]
   ·have hb':toB p s a=false:=by simpa using hb
    have f1:sN p s (s.set.take (j+1))=sN p s (s.set.take j):=by unfold sN;rw[hsn,du];simp [hb']
    have f2:zb p s (s.set.take (j+1))=zb p s (s.set.take j)++[a]:=by unfold zb;rw[hsn,du];simp [hb']
    have f3:gT (cT c t) c.mem (zb p s (s.set.take (j+1)))=(gT (cT c t) c.mem (zb p s (s.set.take j))).set a.cell.toNat (mu (cT c t) a.to):=by
     rw[f2];unfold gT;rw[dG];rfl
    have hpl:a.cell.toNat<(gT (cT c t) c.mem (zb p s (s.set.take j))).length:=by omega
    rw[htb]at hb'
    simp only[go_sem,aY,e6,fb,hb',w2,bY,hpl,eH hpl,br,ac,ad]
    refine⟨hgd,by omega,by omega,?_⟩
    refine Wk.keep [2,3,4,6,7,8,9,29,30,31] [0,1,2,3,4,5,6,7,8,9,10,11] (by decide) (aE _) hbd ⟨s.set.length - (j+1),by omega,j+1,by omega,rfl,by simp only[go_sem],?_⟩
    rw[f1,f3]
    simp only[go_sem,cx,ec,dK _ _ _ (gA c.buf),cG]
  ·have hd:decide ((j:Int)<(s.set.length:Int))=false:=by simp;omega
   obtain rfl:j=s.set.length:=by omega
   rw[bB]
   simp only[go_sem,hd,ac]
   refine Wk.via (bw.freezeIn (Z:=Z) 10 9 1 0 (((sN p s s.set).map Asg.cell).map iD) rfl (cJ _) rfl (by decide)) ?_
   simp only[go_sem,ac,and_self,if_true,false_and,if_false]
   refine Wk.via (bw.freezeIn (Z:=Z) 11 9 1 0 (((sN p s s.set).map λ a=>mu (cT c t) a.to).map iD) rfl (cJ _) rfl (by decide)) ?_
   simp only[go_sem,ac,and_self,if_true,false_and,if_false]
   exact Wk.keep [3,4,6,7,8,9] [0,1,2,3,4,5,6,7,8,9] (by decide) (aE _) hbd ⟨by simp only[go_sem],by simp only[go_sem,bY,bu,cx,ec,dK _ _ _ (gA c.buf),cG];rfl⟩
 rintro fr st ⟨rfl,rfl⟩
 obtain⟨E,hE⟩:∃E:Ent,E=⟨(sN p s s.set).map Asg.cell,(sN p s s.set).map λ a=>mu (cT c t) a.to⟩:=⟨_,rfl⟩
 rw[←hE]at h
 rw[show(sN p s s.set).map Asg.cell=E.cells by rw[hE],show((sN p s s.set).map λ a=>mu (cT c t) a.to)=E.vals by rw[hE]]
 obtain⟨N,hN⟩:∃N,gT (cT c t) c.mem (zb p s s.set)=N:=⟨_,rfl⟩
 have hNl:N.length=c.mem.length:=by rw[←hN];exact j0 _ _ _
 rw[hN]at h ⊢
 obtain⟨ρ,hU⟩:∃ρ,(if s.kind=3 then c.buf.set t (B++[E])else c.buf)=ρ:=⟨_,rfl⟩
 have hUl:ρ.length=c.buf.length:=by rw[←hU];split<;> simp
 rw[hU]at h
 have hLl:t<(c.buf.map λ b=>A.d (cu b)).length:=by rw[ac];exact htb0
 have hgs:=g7 hLl
 have hss2:=fH hLl
 refine bc (λ fr st=>fr=%[.o,.o,.o,.ref Z.length 0,.ref (Z.length+1) 0,.o,.ref (Z.length+2) 0,.ref (Z.length+6) 0,.ref (Z.length+7) 0|D7 (D6 [.o,.o])]∧st=Z++[pc p m c,iO ⟨t,i,0⟩,df (.d .nils) (.d .nils) (.d .nils),bY N,bY c.pos,wA ρ,df (.rs (Z.length+3) 1 0 c.mem.length (some 3)) (.rs (Z.length+4) 1 0 c.pos.length (some 3)) (.rs (Z.length+5) 1 0 c.buf.length (some 46)),gS s]) ?_ ?_
 ·by_cases hk3:s.kind=3
  ·have b3:(s.kind==3)=true:=by simp [hk3]
   rw[if_pos hk3]at hU
   simp only[go_sem,b3]
   refine bb (.tk 7 4<| .alt 0 (.alt 1 (.alt 2 (.alt 3 (.tk 4 11<| .done)<| .alt 11 (.alt 3 (.tk 3 12<| .done)<| .alt 12 (.take 3<| .tk 2 13<| .done)<| .stop)<| .stop)<| .alt 11 (.alt 2 (.alt 3 (.tk 3 12<| .done)<| .alt 12 (.take 3<| .tk 2 13<| .done)<| .stop)<| .alt 12 (.tk 2 2<| .tk 2 13<| .done)<| .stop)<| .stop)<| .alt 2 (.alt 1 (.alt 3 (.tk 4 11<| .done)<| .alt 11 (.alt 3 (.tk 3 12<| .done)<| .alt 12 (.take 3<| .tk 2 13<| .done)<| .stop)<| .stop)<| .alt 3 (.alt 1 (.tk 4 11<| .done)<| .alt 11 (.alt 1 (.tk 3 12<| .done)<| .alt 12 (.take 1<| .tk 2 13<| .done)<| .stop)<| .stop)<| .alt 11 (.alt 1 (.alt 3 (.tk 3 12<| .done)<| .alt 12 (.take 3<| .tk 2 13<| .done)<| .stop)<| .alt 3 (.alt 1 (.tk 3 12<| .done)<| .alt 12 (.take 1<| .tk 2 13<| .done)<| .stop)<| .alt 12 (.take 1<| .take 3<| .tk 2 13<| .done)<| .stop)<| .stop)<| .alt 11 (.alt 1 (.alt 2 (.alt 3 (.tk 3 12<| .done)<| .alt 12 (.take 3<| .tk 2 13<| .done)<| .stop)<| .alt 12 (.tk 2 2<| .tk 2 13<| .done)<| .stop)<| .alt 2 (.alt 1 (.alt 3 (.tk 3 12<| .done)<| .alt 12 (.take 3<| .tk 2 13<| .done)<| .stop)<| .alt 3 (.alt 1 (.tk 3 12<| .done)<| .alt 12 (.take 1<| .tk 2 13<| .done)<| .stop)<| .alt 12 (.take 1<| .take 3<| .tk 2 13<| .done)<| .stop)<| .alt 12 (.tk 3 1<| .tk 2 13<| .done)<| .stop)<| .stop)<| .alt 2 (.alt 0 (.alt 1 (.alt 3 (.tk 4 11<| .done)<| .alt 11 (.alt 3 (.tk 3 12<| .done)<| .alt 12 (.take 3<| .tk 2 13<| .done)<| .stop)<| .stop)<| .alt 3 (.alt 1 (.tk 4 11<| .done)<| .alt 11 (.alt 1 (.tk 3 12<| .done)<| .alt 12 (.take 1<| .tk 2 13<| .done)<| .stop)<| .stop)<| .alt 11 (.alt 1 (.alt 3 (.tk 3 12<| .done)<| .alt 12 (.take 3<| .tk 2 13<| .done)<| .stop)<| .alt 3 (.alt 1 (.tk 3 12<| .done)<| .alt 12 (.take 1<| .tk 2 13<| .done)<| .stop)<| .alt 12 (.take 1<| .take 3<| .tk 2 13<| .done)<| .stop)<| .stop)<| .alt 3 (.alt 0 (.alt 1 (.tk 4 11<| .done)<| .alt 11 (.alt 1 (.tk 3 12<| .done)<| .alt 12 (.take 1<| .tk 2 13<| .done)<| .stop)<| .stop)<| .alt 11 (.alt 0 (.alt 1 (.tk 3 12<| .done)<| .alt 12 (.take 1<| .tk 2 13<| .done)<| .stop)<| .alt 12 (.tk 2 0<| .tk 2 13<| .done)<| .stop)<| .stop)<| .alt 11 (.alt 0 (.alt 1 (.alt 3 (.tk 3 12<| .done)<| .alt 12 (.take 3<| .tk 2 13<| .done)<| .stop)<| .alt 3 (.alt 1 (.tk 3 12<| .done)<| .alt 12 (.take 1<| .tk 2 13<| .done)<| .stop)<| .alt 12 (.take 1<| .take 3<| .tk 2 13<| .done)<| .stop)<| .alt 3 (.alt 0 (.alt 1 (.tk 3 12<| .done)<| .alt 12 (.take 1<| .tk 2 13<| .done)<| .stop)<| .alt 12 (.tk 2 0<| .tk 2 13<| .done)<| .stop)<| .alt 12 (.tk 2 0<| .take 3<| .tk 2 13<| .done)<| .stop)<| .stop)<| .alt 11 (.alt 0 (.alt 1 (.alt 2 (.alt 3 (.tk 3 12<| .done)<| .alt 12 (.take 3<| .tk 2 13<| .done)<| .stop)<| .alt 12 (.tk 2 2<| .tk 2 13<| .done)<| .stop)<| .alt 2 (.alt 1 (.alt 3 (.tk 3 12<| .done)<| .alt 12 (.take 3<| .tk 2 13<| .done)<| .stop)<| .alt 3 (.alt 1 (.tk 3 12<| .done)<| .alt 12 (.take 1<| .tk 2 13<| .done)<| .stop)<| .alt 12 (.take 1<| .take 3<| .tk 2 13<| .done)<| .stop)<| .alt 12 (.tk 3 1<| .tk 2 13<| .done)<| .stop)<| .alt 2 (.alt 0 (.alt 1 (.alt 3 (.tk 3 12<| .done)<| .alt 12 (.take 3<| .tk 2 13<| .done)<| .stop)<| .alt 3 (.alt 1 (.tk 3 12<| .done)<| .alt 12 (.take 1<| .tk 2 13<| .done)<| .stop)<| .alt 12 (.take 1<| .take 3<| .tk 2 13<| .done)<| .stop)<| .alt 3 (.alt 0 (.alt 1 (.tk 3 12<| .done)<| .alt 12 (.take 1<| .tk 2 13<| .done)<| .stop)<| .alt 12 (.tk 2 0<| .tk 2 13<| .done)<| .stop)<| .alt 12 (.tk 2 0<| .take 3<| .tk 2 13<| .done)<| .stop)<| .alt 12 (.tk 4 0<| .tk 2 13<| .done)<| .stop)<| .stop) (by kernel_rfl) ?_
   simp only[go_sem,bu,hgs,hss2,ac,aH,ad,br]
   refine⟨⟨by omega,by omega⟩,by omega,⟨hfl,by simp only[maxLen];omega,by omega⟩,⟨by omega,by omega⟩,by omega,?_⟩
   have hle:mQ (bU (B.map bO)++[A.d (.sl 1 (E.cells.map iD)),A.d (.sl 1 (E.vals.map iD))]) 2 0 ((B++[E]).map bO):=by
    have:=iB (B++[E])
    rw[iG]at this;exact this
   have hst:(c.buf.map λ b=>A.d (cu b)).set t (A.d (.sl 2 ((B++[E]).map bO)))=ρ.map λ b=>A.d (cu b):=by
    rw[←hU,fF];rfl
   refine Wk.via (bw.freezeIn (Z:=Z) 11 5 2 0 ((B++[E]).map bO) rfl hle rfl (by decide)) ?_
   simp only[go_sem,ac,aF,ae,aj,gF,iF _ _ _ _ _ (gA c.buf),and_self,if_true,false_and,if_false]
   rw[hst]
   exact Wk.keep [3,4,6,7,8] [0,1,2,3,4,5,7,8] (by decide) (aE _) hbd ⟨by simp only[go_sem],by simp only[go_sem,bY,bu,cx,dK _ _ _ (gA ρ)];rfl⟩
  ·have b3:(s.kind==3)=false:=by simp [hk3]
   rw[if_neg hk3]at hU
   subst hU
   simp only[go_sem,b3]
   refine Wk.via (bw.freezeIn (Z:=Z) 6 5 2 0 (B.map bO) rfl (iB _) rfl (by decide)) ?_
   have hsb:=pW htb0
   rw[hB]at hsb
   simp only[go_sem,ac,gF,iF _ _ _ _ _ (gA c.buf),and_self,if_true,false_and,if_false,hsb]
   exact Wk.keep [3,4,6,7,8] [0,1,2,3,4,5,7,8] (by decide) (aE _) hbd ⟨by simp only[go_sem],by simp only[go_sem,bY,bu,cx,dK _ _ _ (gA c.buf)];rfl⟩
 rintro fr st ⟨rfl,rfl⟩
 have hpt:t<c.pos.length:=by omega
 by_cases hk6:s.kind=6
 ·have b6:(s.kind==6)=true:=by simp [hk6]
  have htg:0≤s.target∧s.target<p.threads.length:=by
   rcases hsk.kind with q|q|q|q|q|q|q<;> first|(have:=q.1;omega)|skip
   exact cS.1 q.2.2.2.1
  have hpl:s.target.toNat<(c.pos.set t s.dst).length:=by rw[aH];omega
  have hps:iL c t s=(c.pos.set t s.dst).set s.target.toNat 0:=by unfold iL;rw[if_pos hk6]
  simp only[go_sem,b6,bY,hpt,eH hpt,hpl,ac,aH,eH hpl,br,ad]
  rw[←hps]
  refine⟨⟨by omega,by omega⟩,by omega,⟨by omega,by omega⟩,by omega,?_⟩
  refine de 3 1 0 (N.map iD) rfl (cJ _) ?_
  simp only[go_sem,ac,hNl,and_self,if_true,false_and,if_false]
  refine de 4 1 0 ((iL c t s).map iD) rfl (cJ _) ?_
  simp only[go_sem,ac,hpml,and_self,if_true,false_and,if_false]
  refine de 5 1 0 (ρ.map cu) rfl (gV cu (λ _=>⟨rfl,rfl⟩) _) ?_
  simp only[go_sem,ac,hUl,and_self,if_true,false_and,if_false]
  exact aQ hbd h
 ·have b6:(s.kind==6)=false:=by simp [hk6]
  have hps:iL c t s=c.pos.set t s.dst:=by unfold iL;rw[if_neg hk6]
  simp only[go_sem,b6,bY,hpt,eH hpt,ac,aH,br,ad]
  rw[←hps]
  refine⟨⟨by omega,by omega⟩,by omega,?_⟩
  refine de 3 1 0 (N.map iD) rfl (cJ _) ?_
  simp only[go_sem,ac,hNl,and_self,if_true,false_and,if_false]
  refine de 4 1 0 ((iL c t s).map iD) rfl (cJ _) ?_
  simp only[go_sem,ac,hpml,and_self,if_true,false_and,if_false]
  refine de 5 1 0 (ρ.map cu) rfl (gV cu (λ _=>⟨rfl,rfl⟩) _) ?_
  simp only[go_sem,ac,hUl,and_self,if_true,false_and,if_false]
  exact aQ hbd h
structure NxU (Z:St) (p:Prg) (m:Int) (c:Cfg) (t:Nat) (x:Cho) (lp:Ob) (st:St):Prop where
 old:∀k,k<Z.length→st[k]? =Z[k]?
 o2:st[Z.length+2]? =some (iO x)
 o3:st[Z.length+3]? =some (df (.d .nils) (.d .nils) (.d .nils))
 o4:st[Z.length+4]? =some (some (.cells [di 0]))
 o5:st[Z.length+5]? =some (pc p m c)
 o6:st[Z.length+6]? =some (pc p m c)
 o7:st[Z.length+7]? =some (some (.cells [dn t]))
 o8:st[Z.length+8]? =some (some lp)
theorem NxU.app{Z:St}{p:Prg}{m:Int}{c:Cfg}{t:Nat}{x:Cho}{lp:Ob}{st:St}(h:NxU Z p m c t x lp st)(l:St):NxU Z p m c t x lp (st++l):=by
 obtain⟨h0,h2,h3,h4,h5,h6,h7,h8⟩:=h
 have e:∀{k:Nat} {o:Option Ob},st[k]? =some o→(st++l)[k]? =some o:=λ hk=>by rw[aq (aL hk)];exact hk
 exact⟨λ k hk=>by rw[aq (by have:=aL h2;omega)];exact h0 k hk,e h2,e h3,e h4,e h5,e h6,e h7,e h8⟩
theorem nextCU{G:Glob}(hG:G.g 0=some cB)(hpan:∀a s,¬G.pan a s)(p:Prg)(hp:Good p)(m:Int)(hm:m=1∨m=2)(c:Cfg)(hf:Fits p m c)(t i:Nat)(ht:t<p.threads.length)(hi:i<(c.bufAt t).length)(hr:eL m (c.bufAt t) i=true)(Z:St)(R:A→St→Prop)(h:R (.tup [.d (bX (rC c t i)),di 0]) Z):AC Tryz.prog G 19 [.d (bK p),di m,.d (bX c),.d (c7 ⟨t,-1,((c.bufAt t).getD i cD).cells.getD 0 0⟩)] Z R:=by
 have m0:(m==0)=false:=by rcases hm with rfl|rfl<;> rfl
 have lo:=loadU hG p hp m hm c hf
 have opn:=openU p m c t
 have com:=commitU (G:=G) p hp m c hf t i ht hi
 have htn:=hp.sm.nthr
 have hnb:=hf.nbuf
 obtain⟨hB3,hB4⟩:=hf.bufOk t
 have hcn:=hp.sm.ncel
 have hfind:=ph (λ e he=>(hB4 e he).pos) hi hr
 obtain⟨B,hB⟩:∃B,c.bufAt t=B:=⟨_,rfl⟩
 rw[hB]at hi hr hfind hB3 hB4
 have hBne:∀e∈B,e.cells≠[]∧e.cells.length≤1000:=λ e he=>⟨(hB4 e he).pos,by have:=(hB4 e he).few;omega⟩
 rw[hB]
 obtain⟨C,hC⟩:∃C,(B.getD i cD).cells.getD 0 0=C:=⟨_,rfl⟩
 rw[hC]at hfind ⊢
 have hsp:=um (B:=B) (cell:=C) (by omega)
 rw[hfind]at hsp
 obtain⟨hs1,hs2⟩:=hsp
 obtain⟨c',hc'⟩:∃c',rC c t i=c':=⟨_,rfl⟩
 rw[hc']at h com
 have t0:decide ((t:Int)<0)=false:=by simp
 have t1:decide ((t:Int)≥(p.threads.length:Int))=false:=by rw[ay];omega
 have t1':decide ((p.threads.length:Int)≤(t:Int))=false:=by rw[ay];omega
 have t2:decide ((-1:Int)< -1)=false:=rfl
 have t3:((-1:Int)== -1)=true:=rfl
 unfold bK bX qO c7 at*
 refine bg a9 Tryz.func19 rfl Tryz.ntmps19 (by simp only[go_sem]) λ hbd=> ?_
 simp only[ae,aj,Nat.reduceAdd,Nat.reduceSub,af,ag,ah,ak]
 simp only[go_sem,m0]
 refine bH (lo _ _ ?_)
 simp only[bu,go_sem,t0,t1,t1',t2,t3,ac]
 refine bH (opn _ _ _ ?_)
 try simp only[go_sem]
 obtain⟨fr0,hfr0⟩:∃fr0:Fr,fr0=%[.o,.o,.o,.o,.ref Z.length 0,.o,.ref (Z.length+1) 0,.ref (Z.length+2) 0,.ref (Z.length+3) 0,.ref (Z.length+4) 0,.ref (Z.length+5) 0|D6 (D4 %[.o,.o,.o,.o,.o,.fn (.func 86) [] [.ref (Z.length+6) 0,.ref (Z.length+7) 0]|D6 (D5 [.o,.o])])]:=⟨_,rfl⟩
 refine qB hpan ⟨fr0,_,by rw[hfr0];exact bw.mask [4,6,7,8,9,10,56],by rw[hfr0];simp [jo,A.bd],86,[],[.ref (Z.length+6) 0,.ref (Z.length+7) 0],by rw[hfr0];rfl,λ q r hY=> ?_⟩
 simp only[aF,ae,aj,Nat.reduceAdd,aU,ah,ak]at hY ⊢
 refine open1U p m hm c t (by omega) B hB (by omega) (λ o ho=>(hBne o ho).2) _ (λ j st=>j≤i∧NxU Z p m c t ⟨t,-1,C⟩ (.lp q r fr0) st) (λ st=>(∀k,k<Z.length→st[k]? =Z[k]?)∧st[Z.length+3]? =some (dy c')∧st[Z.length+4]? =some (some (.cells [di 0]))∧st[Z.length+8]? =some (some (.lp q { r with state:= .done,pending:=some .ret} fr0))) G ⟨by omega,?_⟩ (λ j st hI=>⟨hI.2.o6,hI.2.o7⟩) (λ j st l hI=>⟨hI.1,hI.2.app l⟩) (λ j st hj hn hI=>⟨?_,hI.2⟩) (λ j st hj hrj hI=> ?_) _ (λ r' st hst=> ?_)
 ·have hat:∀(k:Nat) (l:St) (o:Option Ob),l[k]? =some o→(Z++l)[Z.length+k]? =some o:=λ k l o hk=>by rw[az (by omega),bk];exact hk
  exact⟨λ k hk=>aq hk,hat 2 _ _ rfl,hat 3 _ _ rfl,hat 4 _ _ rfl,hat 5 _ _ rfl,hat 6 _ _ rfl,hat 7 _ _ rfl,hat 8 _ _ rfl⟩
 ·rcases aC j i with hlt|hge
  ·exact hlt
  ·have:j=i:=by have:=hI.1;omega
   subst this
   rw[hr]at hn;cases hn
 ·obtain⟨hji,hN⟩:=hI
  have hEm:=hBne _ (bv cD hj)
  have hcmp:j<i→((B.getD j cD).cells.getD 0 0==C)=false:=hs2 j
  have hcmp2:j=i→((B.getD j cD).cells.getD 0 0==C)=true:=λ e=>by rw[e];exact hs1
  generalize B.getD j cD=E at hEm hcmp hcmp2
  obtain⟨iold,i2,i3,i4,i5,i6,i7,i8⟩:=hN
  refine hY _ _ _ ⟨i8,rfl,?_⟩
  have hset:oK fr0 [57,58] [dn j,.d (bO E)]=%[.o,.o,.o,.o,.ref Z.length 0,.o,.ref (Z.length+1) 0,.ref (Z.length+2) 0,.ref (Z.length+3) 0,.ref (Z.length+4) 0,.ref (Z.length+5) 0|D6 (D4 %[.o,.o,.o,.o,.o,.fn (.func 86) [] [.ref (Z.length+6) 0,.ref (Z.length+7) 0],dn j,.d (bO E)|D6 (D5 [])])]:=by rw[hfr0];rfl
  rw[hset]
  simp only[bO,go_sem]
  have i8l:=aL i8
  refine⟨by rw[aq i8l];exact i8,?_⟩
  obtain⟨s2,hs2⟩:∃s2,(st++[some (Ob.cells [A.d (bu E.cells),A.d (bu E.vals)])]).set (Z.length+8) (some (.lp q { r with state:= .busy} fr0))=s2:=⟨_,rfl⟩
  have hv2:s2[st.length]? =some (some (.cells [A.d (bu E.cells),A.d (bu E.vals)])):=by rw[←hs2,fM (by omega)];simp
  have old2:∀k,k<st.length→k≠Z.length+8→s2[k]? =st[k]? :=λ k hk hn=>by rw[←hs2,fM (Ne.symm hn),aq hk]
  have l2':s2.length=st.length+1:=by rw[←hs2,aH];simp
  have b8:s2[Z.length+8]? =some (some (.lp q { r with state:= .busy} fr0)):=by rw[←hs2,aT (by simp;omega)]
  have b2:=old2 _ (aL i2) (by omega)
  have b3:=old2 _ (aL i3) (by omega)
  have b4:=old2 _ (aL i4) (by omega)
  have b5:=old2 _ (aL i5) (by omega)
  rw[i2]at b2
  rw[i3]at b3
  rw[i4]at b4
  rw[i5]at b5
  rw[hs2]
  have hpos:0<E.cells.length:=by have:=hEm.1;rcases h0:E.cells with _|⟨u,w⟩;exact absurd h0 this;simp
  have e0:List.getD (List.map iD E.cells) (Int.toNat 0) default=iD (E.cells.getD 0 0):=bW (l:=E.cells) (j:=0) hpos
  generalize E.cells.getD 0 0=C0 at e0 hcmp hcmp2
  simp only[bu,go_sem,aO b2,aX b2,aO hv2,aX hv2,e0,ac]
  refine⟨⟨by omega,by omega⟩,λ hq=> ?_,λ hq=> ?_⟩
  ·have:j=i:=by
    rcases aC j i with hlt|hge
    ·rw[hcmp hlt]at hq;cases hq
    ·omega
   subst this
   simp only[bu,go_sem,aO b2,aX b2,aO b5,aX b5,fC]
   refine bH (com _ _ ?_)
   have g3:∀(k:Nat) (y:Option Ob) (o:Option Ob),s2[k]? =some o→k≠Z.length+3→(s2.set (Z.length+3) y)[k]? =some o:=λ k y o hk hn=>by rw[aD (Ne.symm hn)];exact hk
   simp only[bu,go_sem,aO b3,aX b3,aO (g3 (Z.length+4) _ _ b4 (by omega)),aX (g3 (Z.length+4) _ _ b4 (by omega))]
   refine⟨_,bw.refl _ _ _ _,?_,.inr ⟨rfl,λ k hk=> ?_,?_,?_,?_⟩⟩
   ·rw[aD (by omega),aD (by omega)];exact b8
   ·rw[aD (by omega),aD (by omega),aD (by omega),old2 k (by omega) (by omega)];exact iold k hk
   ·rw[aD (by omega),aD (by omega),aT (by omega)];rfl
   ·rw[aD (by omega),aT (by simp;omega)]
   ·rw[aT (by simp;omega)]
  ·have hlt:j<i:=by
    rcases aC j i with hlt|hge
    ·exact hlt
    ·rw[hcmp2 (by omega)]at hq;cases hq
   refine⟨_,bw.refl _ _ _ _,b8,.inl ⟨rfl,by omega,?_⟩⟩
   have g5:∀k o,s2[k]? =some o→k≠Z.length+8→(s2.set (Z.length+8) (some (.lp q r fr0)))[k]? =some o:=λ k o hk k3=>by
    rw[aD (Ne.symm k3)];exact hk
   exact⟨λ k hk=>by rw[aD (by omega),old2 k (by omega) (by omega)];exact iold k hk,g5 _ _ b2 (by omega),g5 _ _ b3 (by omega),g5 _ _ b4 (by omega),g5 _ _ b5 (by omega),g5 _ _ (by rw[old2 _ (aL i6) (by omega)];exact i6) (by omega),g5 _ _ (by rw[old2 _ (aL i7) (by omega)];exact i7) (by omega),aT (by omega)⟩
 ·rcases hst with hI|⟨iold,i3,i4,i8⟩
  ·have:=hI.1;omega
  ·refine .inr (.inl ⟨i8,_,_,bw.refl _ _ _ _,?_⟩)
   obtain⟨s4,hs4⟩:∃s4,st.set (Z.length+8) none=s4:=⟨_,rfl⟩
   have c3:s4[Z.length+3]? =some (dy c'):=by rw[←hs4,aD (by omega)];exact i3
   have c4:s4[Z.length+4]? =some (some (.cells [di 0])):=by rw[←hs4,aD (by omega)];exact i4
   have hs5:s4=Z++s4.drop Z.length:=by
    have:s4.take Z.length=Z:=by
     refine cz λ k=> ?_
     rcases aC k Z.length with hk|hk
     ·rw[bL hk,←hs4,aD (by omega)];exact iold k hk
     ·rw[bm (by rw[aP];omega),bm hk]
    rw[←congrArg (· ++s4.drop Z.length) this]
    exact(ct _ _).symm
   rw[hs4,hfr0]
   simp only[go_sem,aO c3,aX c3,aO c4,aX c4,fC]
   rw[hs5]
   exact dq hbd rfl h
theorem nextSU{G:Glob}(hG:G.g 0=some cB)(p:Prg)(hp:Good p)(m:Int)(hm:m=1∨m=2)(c:Cfg)(hf:Fits p m c)(t i:Nat)(ht:t<p.threads.length)(hi:i<(p.thr t).steps.length)(he:qt p m c t (p.stp t i)=true)(Z:St)(R:A→St→Prop)(h:R (.tup [.d (bX (nG p m c t (p.stp t i))),di 0]) Z):AC Tryz.prog G 19 [.d (bK p),di m,.d (bX c),.d (c7 ⟨t,i,0⟩)] Z R:=by
 have m0:(m==0)=false:=by rcases hm with rfl|rfl<;> rfl
 have lo:=loadU hG p hp m hm c hf
 have exx:=executeU hG p hp m hm c hf t i ht hi
 have en:=zX hG p hp m hm c hf t i ht hi
 obtain⟨z1,z2,z3,z4⟩:=hf.sz hp
 have htn:=hp.sm.nthr
 have hnb:=hf.nbuf
 obtain⟨hB3,hB4⟩:=hf.bufOk t
 have vi:=viewU c t (by omega) (by omega) (by omega) (λ e he=>EntOk.isIn hp hf (hB4 _ he))
 have e1:=fe (l:=p.threads) ht
 have hth:p.threads.getD t fg=p.thr t:=rfl
 rw[hth]at e1
 rw[he]at en
 obtain⟨c',hc'⟩:∃c',nG p m c t (p.stp t i)=c':=⟨_,rfl⟩
 rw[hc']at h exx
 have t0:decide ((t:Int)<0)=false:=by simp
 have t1:decide ((t:Int)≥(p.threads.length:Int))=false:=by rw[ay];omega
 have t1':decide ((p.threads.length:Int)≤(t:Int))=false:=by rw[ay];omega
 have t2:decide ((i:Int)< -1)=false:=by rw[ay];omega
 have t3:((i:Int)== -1)=false:=by rw[ck];omega
 have t4:((0:Int)!=0)=false:=rfl
 have t5:decide (((p.thr t).steps.length:Int)≤(i:Int))=false:=by rw[ay];omega
 have t5':decide ((i:Int)≥((p.thr t).steps.length:Int))=false:=by rw[ay];omega
 unfold bK bX qO c7 at*
 refine bg a9 Tryz.func19 rfl Tryz.ntmps19 (by simp only[go_sem]) λ hbd=> ?_
 simp only[ae,aj,Nat.reduceAdd,Nat.reduceSub,af,ag,ah,ak]
 simp only[go_sem,m0]
 refine bH (lo _ _ ?_)
 simp only[go_sem,t0,t1,t1',t2,t3,ac]
 refine bH (vi _ _ _ ?_)
 simp only[go_sem,c8,e1,t4,t5,t5',ac,ad]
 refine⟨⟨by omega,by omega⟩,gO (.bool true) ⟨λ _=>⟨rfl,bH (en _ _ ?_)⟩,?_⟩⟩
 ·simp only[go_sem]
 simp only[go_sem,t4,t5,t5']
 refine bH (exx _ _ ?_)
 try simp only[go_sem]
 exact dq hbd rfl h
theorem nextU{G:Glob}(hG:G.g 0=some cB)(hpan:∀a s,¬G.pan a s)(p:Prg)(hp:Good p)(m:Int)(hm:0≤m∧m≤2)(c:Cfg)(hf:Fits p m c)(x:Cho)(hx:x∈fY p m c)(Z:St)(R:A→St→Prop)(h:R (.tup [.d (bX (fV p m c x)),di 0]) Z):AC Tryz.prog G 19 [.d (bK p),di m,.d (bX c),.d (c7 x)] Z R:=by
 by_cases hm0:m=0
 ·subst hm0
  have nx:=nextM_p hG p hp c hf x hx
  have z0:((0:Int)==0)=true:=rfl
  obtain⟨c',hc'⟩:∃c',fV p 0 c x=c':=⟨_,rfl⟩
  rw[hc']at h nx
  unfold bK bX c7 at*
  refine bg a9 Tryz.func19 rfl Tryz.ntmps19 (by simp only[go_sem]) λ hbd=> ?_
  simp only[ae,aj,Nat.reduceAdd,Nat.reduceSub,af,ag,ah,ak]
  simp only[go_sem,z0]
  refine bH (nx _ _ ?_)
  try simp only[go_sem]
  exact dq hbd rfl h
 have hm':m=1∨m=2:=by omega
 obtain⟨t,ht,hxt⟩:=l9.1 hx
 rcases hxt with⟨i,hi,he,e⟩|⟨i,hi,hr,e⟩
 ·subst e
  rw[oc]at h
  exact nextSU hG p hp m hm' c hf t i ht hi he Z R h
 ·subst e
  rw[qY hf hi hr]at h
  exact nextCU hG hpan p hp m hm' c hf t i ht hi hr Z R h
theorem run_at{p:Prg}{m:Int}:∀{L:List Cho} {c:Cfg} {j:Nat},fK p m c L→j<L.length→L.getD j fE∈fY p m (jG p m c (L.take j))
 |[],_,_,_,h=>absurd h (Nat.not_lt_zero _)
 |x::r,c,0,hr,_=>hr.1
 |x::r,c,j+1,hr,h=>run_at (L:=r) (c:=fV p m c x) (j:=j) hr.2 (by simpa using h)
theorem yD{p:Prg}{m:Int}:∀{L:List Cho} {c:Cfg} (j:Nat),fK p m c L→fK p m c (L.take j)
 |[],_,j,_=>by simp [fK]
 |x::r,c,0,_=>trivial
 |x::r,c,j+1,hr=>⟨hr.1,yD j hr.2⟩
theorem Bv {G:Glob} (hG:G.g 0=some cB) (hpan:∀a s,¬G.pan a s) (p:Prg) (hp:Good p) (m:Int) (hm:0≤m∧m≤2) (L:List Cho) (hL:fK p m (bS p) L) (hLl:L.length≤1000) {pb lb mb y:Nat} (Z:St) (I:Nat→St→Prop)
  (hlt:pb<Z.length∧lb<Z.length∧mb<Z.length) (h0:I 0 Z)
  (hI:∀j st,I j st→st[pb]? =some (bN p)∧st[lb]? =some (some (.cells [.d (.sl 3 (L.map c7))]))∧st[mb]? =some (some (.cells [di m])))
  (hP:∀j st st',I j st→(∀k,k<st.length→k≠Z.length→st'[k]? =st[k]?)→st.length≤st'.length→I j st')
  (hY:∀j st,j≤L.length→Z.length<st.length→I j st→YC Tryz.prog G y [.d (bX (jG p m (bS p) (L.take j))),di 0] st λ r st'=>r=db true∧I (j+1) st'∧st'[Z.length]? =st[Z.length]?∧st.length≤st'.length)
  (R:A→St→Prop) (h:∀r st,I (L.length+1) st→R r st):AC Tryz.prog G 99 [.fn (.yield y) [] [],.ref pb 0,.ref lb 0,.ref mb 0] Z R:=by
 obtain⟨l1,l2,l3⟩:=hlt
 obtain⟨i1,i2,i3⟩:=hI _ _ h0
 have st0:=yt hG p hp
 have nx:=λ j (hj:j<L.length)=>nextU hG hpan p hp m hm (jG p m (bS p) (L.take j)) (zK hp.ok (jl hp.ok m) (yD j hL)) (L.getD j fE) (run_at hL hj)
 have hsuc:∀j,j<L.length→fV p m (jG p m (bS p) (L.take j)) (L.getD j fE)=jG p m (bS p) (L.take (j+1)):=λ j hj=>by rw[bG fE hj,wj]
 have z0:((0:Int)!=0)=false:=rfl
 refine bM a9 Tryz.func99 rfl Tryz.ntmps99 (by simp only[go_sem]) λ hbd=> ?_
 simp only[ae,aj,Nat.reduceAdd,Nat.reduceSub,af,ag,ah,ak]
 simp only[go_sem,aO i1,aX i1,fC]
 refine bH (st0 _ _ ?_)
 have hY0:=hY 0 (Z++[dy (bS p)]) (by omega) (by simp) (hP 0 Z _ h0 (λ k hk _=>aq hk) (by simp))
 rw[dV]at hY0
 simp only[bX,go_sem]
 refine yc' (hY0.mono λ r st' hr=> ?_)
 obtain⟨rfl,hI1,hs1,hs2⟩:=hr
 have q0:(Z++[dy (bS p)])[Z.length]? =some (dy (bS p)):=by rw[az (aE _),Et];rfl
 rw[q0]at hs1
 obtain⟨k1,k2,k3⟩:=hI _ _ hI1
 simp only[go_sem,aO k2,aX k2,ac]
 refine aS (λ k fr st=>∃j:Nat,j≤L.length∧k=L.length - j∧fr=%[.fn (.yield y) [] [],.ref pb 0,.ref lb 0,.ref mb 0,.o,.ref Z.length 0|D4 %[.o,.o,.d (.sl 3 (L.map c7)),dn L.length,dn j|D5 [.o,.o,.o,.o,.o]]]∧I (j+1) st∧Z.length<st.length∧st[Z.length]? =some (dy (jG p m (bS p) (L.take j)))) L.length _ (Wk.mask [0,1,2,3,5,16,17,18] ⟨0,by omega,by omega,rfl,hI1,aL hs1,hs1⟩) ?_
 rintro k fr st ⟨j,hj,hk,rfl,hIj,hsl,hcfg⟩
 rcases aC j L.length with hlt|hge
 ·have hd:decide ((j:Int)<(L.length:Int))=true:=by simp;omega
  have w2:=bC j (by omega)
  have e2:=uF (l:=L) hlt
  have nxj:=nx j hlt
  rw[hsuc j hlt]at nxj
  have hYj:=hY (j+1)
  generalize L.getD j fE=x at e2 nxj
  obtain⟨C0,hC0⟩:∃C0,jG p m (bS p) (L.take j)=C0:=⟨_,rfl⟩
  obtain⟨C1,hC1⟩:∃C1,jG p m (bS p) (L.take (j+1))=C1:=⟨_,rfl⟩
  rw[hC0]at hcfg nxj
  rw[hC1]at nxj hYj
  obtain⟨k1,k2,k3⟩:=hI _ _ hIj
  have app:∀{k:Nat} {o:Option Ob},st[k]? =some o→(st++[iO x])[k]? =some o:=λ hk=>by rw[aq (aL hk)];exact hk
  have k1':=app k1
  have k3':=app k3
  have hcfg':=app hcfg
  unfold bX bK c7 at nxj
  simp only[c7]at e2
  simp only[go_sem,hd,e2,aO k1',aX k1',aO k3',aX k3',aO hcfg',aX hcfg',fC,ac,ad]
  refine⟨⟨by omega,by omega⟩,bH (nxj _ _ ?_)⟩
  have hs1:((st++[iO x]).set Z.length (dy C1))[Z.length]? =some (dy C1):=aT (by simp;omega)
  have hI1:=hP (j+1) st ((st++[iO x]).set Z.length (dy C1)) hIj (λ k hk hn=>by rw[aD (Ne.symm hn),aq hk]) (by simp)
  have hsl1:Z.length<((st++[iO x]).set Z.length (dy C1)).length:=by simp;omega
  unfold bX at hYj
  simp only[go_sem,aO hcfg',aX hcfg']
  simp only[go_sem,aX hs1,fC]
  refine yc' ((hYj _ (by omega) hsl1 hI1).mono λ r st2 hr=> ?_)
  obtain⟨rfl,hI2,hq1,hq2⟩:=hr
  rw[hs1]at hq1
  simp only[go_sem,z0,w2]
  exact Wk.mask [0,1,2,3,5,16,17,18] ⟨L.length - (j+1),by omega,j+1,by omega,rfl,rfl,hI2,aL hq1,by rw[hC1];exact hq1⟩
 ·have hd:decide ((j:Int)<(L.length:Int))=false:=by simp;omega
  have:j=L.length:=by omega
  subst this
  simp only[go_sem,hd]
  exact⟨_,_,bw.refl _ _ _ _,h _ _ hIj⟩
abbrev Bz(l:List Cfg):Option Ob:=some (.cells (bU (l.map bX)))
theorem zJ(l:List Cfg)(c:Cfg):bU ((l++[c]).map bX)=bU (l.map bX)++[.d (bu c.mem),.d (bu c.pos),.d (.sl 1 (c.buf.map cu))]:=by
 rw[aJ,cZ];rfl
theorem qq(l:List Cfg):(bU (l.map bX)).length=l.length*3:=by
 rw[mg (sz:=3),ac]
 intro x hx
 obtain⟨y,_,rfl⟩:=aI.1 hx
 rfl
theorem zu(l:List Cfg):mQ (bU (l.map bX)) 3 0 (l.map bX):=lx λ x hx=>by
 obtain⟨y,_,rfl⟩:=aI.1 hx
 exact⟨rfl,λ z hz=>by simp only[bX,D.cells,aV,bi,or_false]at hz;rcases hz with rfl|rfl|rfl<;> rfl⟩
theorem run_snoc(p:Prg)(m:Int)(L:List Cho)(c:Cfg){j:Nat}(hj:j≤L.length):(iS p m c L).take (j+1)=(iS p m c L).take j++[jG p m c (L.take j)]:=by
 rw[gp,nX hj];rfl
theorem DI(p:Prg)(m:Int)(L:List Cho)(Z:St)(G:Glob)(R:A→St→Prop)(h:R (.fn (.func 99) [] [.ref Z.length 0,.ref (Z.length+2) 0,.ref (Z.length+1) 0]) (Z++[bN p,some (.cells [di m]),some (.cells [.d (.sl 3 (L.map c7))])])):AC Tryz.prog G 61 [.d (bK p),di m,.d (.sl 3 (L.map c7))] Z R:=by
 unfold bK
 refine bg a9 Tryz.func61 rfl Tryz.ntmps61 (by simp only[go_sem]) λ hbd=> ?_
 simp only[ae,aj,Nat.reduceAdd,Nat.reduceSub,af,ag,ah,ak]
 try simp only[go_sem]
 exact⟨_,_,bw.refl _ _ _ _,h⟩
structure RnU (Z:St) (p:Prg) (m:Int) (L:List Cho) (lp:Ob) (acc:List Cfg) (st:St):Prop where
 old:∀k,k<Z.length→st[k]? =Z[k]?
 o1:st[Z.length+1]? =some (some (.cells [.d .nils]))
 o2:st[Z.length+2]? =some (some (.cells [di 0]))
 o3:st[Z.length+3]? =some (some (.cells [di 0]))
 o5:st[Z.length+5]? =some (bN p)
 o6:st[Z.length+6]? =some (some (.cells [di m]))
 o7:st[Z.length+7]? =some (some (.cells [.d (.sl 3 (L.map c7))]))
 o9:st[Z.length+9]? =some (some lp)
 acc:∃a,(a=8∨10<a)∧st[Z.length+4]? =some (some (.cells [.rs (Z.length+a) 3 0 acc.length (some 44)]))∧st[Z.length+a]? =some (Bz acc)
theorem RnU.keep{Z:St}{p:Prg}{m:Int}{L:List Cho}{lp:Ob}{acc:List Cfg}{st st':St}(h:RnU Z p m L lp acc st)(hk:∀k,k<st.length→k≠Z.length+10→st'[k]? =st[k]?):RnU Z p m L lp acc st':=by
 obtain⟨h0,h1,h2,h3,h4,h5,h6,h7,a,ha,h8,h9⟩:=h
 have e:∀{k:Nat} {o:Option Ob},st[k]? =some o→k≠Z.length+10→st'[k]? =some o:=λ h hn=>(hk _ (aL h) hn).trans h
 exact⟨λ k hk'=>(hk k (by have:=aL h1;omega) (by omega)).trans (h0 k hk'),e h1 (by omega),e h2 (by omega),e h3 (by omega),e h4 (by omega),e h5 (by omega),e h6 (by omega),e h7 (by omega),a,ha,e h8 (by omega),e h9 (by omega)⟩
theorem Run_p{G:Glob}(hG:G.g 0=some cB)(hpan:∀a s,¬G.pan a s)(p:Prg)(hp:Good p)(m:Int)(hm:0≤m∧m≤2)(L:List Cho)(hL:fK p m (bS p) L)(hLl:L.length≤120)(Z:St)(R:A→St→Prop)(h:R (.tup [.d (.sl 3 ((iS p m (bS p) L).map bX)),di 0,dn L.length]) Z):AC Tryz.prog G 27 [.d (bK p),di m,.d (.sl 3 (L.map c7))] Z R:=by
 have va:=sT hG p hp
 have cfs:=DI p m L
 have m3:((m !=0)&&(m !=1)&&(m !=2))=false:=by
  have:m=0∨m=1∨m=2:=by omega
  rcases this with rfl|rfl|rfl<;> rfl
 have l1:decide ((120:Int)<(L.length:Int))=false:=by rw[ay];omega
 have l1':decide ((L.length:Int) > 120)=false:=by rw[ay];omega
 have z0:((0:Int)!=0)=false:=rfl
 unfold bK at*
 refine bD [15] a9 Tryz.func27 rfl Tryz.ntmps27 (by simp only[go_sem]) λ hbd=> ?_
 simp only[ae,aj,Nat.reduceAdd,Nat.reduceSub,af,ag,ah,ak]
 try simp only[go_sem]
 refine bH (va _ _ ?_)
 simp only[go_sem,z0,m3,l1,l1',ac]
 obtain⟨Y,hY⟩:∃Y,iS p m (bS p) L=Y:=⟨_,rfl⟩
 have hYl:Y.length=L.length+1:=by rw[←hY,kV]
 rw[hY]at h
 refine bc (λ fr st=>fr=%[.o,.o,.d (.sl 3 (L.map c7)),.o,.o,.o,.ref Z.length 0,.ref (Z.length+1) 0,.ref (Z.length+2) 0,.o,.o,.o,.ref (Z.length+3) 0|D6 (D4 [.o,.o])]∧st=Z++[some (.cells [.d .nils]),some (.cells [di 0]),some (.cells [di 0]),some (.cells [.d (.sl 3 (Y.map bX))])]) ?_ ?_
 ·try simp only[go_sem]
  refine bH (cfs _ _ _ ?_)
  try simp only[go_sem]
  obtain⟨fr0,hfr0⟩:∃fr0:Fr,fr0=%[.o,.o,.d (.sl 3 (L.map c7)),.o,.o,.o,.ref (Z.length+1) 0,.ref (Z.length+2) 0,.ref (Z.length+3) 0,.o,.o,.o,.ref (Z.length+4) 0|D5 (D4 %[.o,.o,.fn (.func 99) [] [.ref (Z.length+5) 0,.ref (Z.length+7) 0,.ref (Z.length+6) 0]|D4 [.o,.o,.o,.o,.o,.o,.o]])]:=⟨_,rfl⟩
  refine qB hpan ⟨fr0,_,by rw[hfr0];exact(bw.mask [2,6,7,8,12,39]).trans (bw.emptyIn 4 0 3 (some 44) rfl rfl),by rw[hfr0];simp [jo,A.bd],99,[],[.ref (Z.length+5) 0,.ref (Z.length+7) 0,.ref (Z.length+6) 0],by rw[hfr0];rfl,λ q r hYc=> ?_⟩
  simp only[ff,fQ,aF,ae,aj,Nat.reduceAdd,aU,ah,ak]at hYc ⊢
  refine Bv hG hpan p hp m hm L hL (by omega) _ (λ j st=>RnU Z p m L (.lp q r fr0) (Y.take j) st) (by simp) ?_ (λ j st hI=>⟨hI.o5,hI.o7,hI.o6⟩) (λ j st st' hI hk hle=>hI.keep (λ k h1 h2=>hk k h1 (by simpa using h2))) (λ j st hj hsl hI=> ?_) _ (λ r' st hI=> ?_)
  ·have hat:∀(k:Nat) (l:St) (o:Option Ob),l[k]? =some o→(Z++l)[Z.length+k]? =some o:=λ k l o hk=>by rw[az (by omega),bk];exact hk
   exact⟨λ k hk=>aq hk,hat 1 _ _ rfl,hat 2 _ _ rfl,hat 3 _ _ rfl,hat 5 _ _ rfl,hat 6 _ _ rfl,hat 7 _ _ rfl,hat 9 _ _ rfl,8,.inl rfl,hat 4 _ _ rfl,hat 8 _ _ rfl⟩
  ·have hsn:=run_snoc p m L (bS p) hj
   rw[hY]at hsn
   rw[hsn]
   have hAl:(Y.take j).length≤121:=by rw[aP];omega
   generalize Y.take j=A0 at hI hAl
   generalize jG p m (bS p) (L.take j)=C0
   obtain⟨iold,i1,i2,i3,i5,i6,i7,i9,a,ha,i4,i8⟩:=hI
   simp only[aF,ae,aj,Nat.reduceAdd]at hsl ⊢
   refine hYc _ _ _ ⟨i9,rfl,?_⟩
   have hset:oK fr0 [40,41] [.d (bX C0),di 0]=%[.o,.o,.d (.sl 3 (L.map c7)),.o,.o,.o,.ref (Z.length+1) 0,.ref (Z.length+2) 0,.ref (Z.length+3) 0,.o,.o,.o,.ref (Z.length+4) 0|D5 (D4 %[.o,.o,.fn (.func 99) [] [.ref (Z.length+5) 0,.ref (Z.length+7) 0,.ref (Z.length+6) 0],.d (bX C0),di 0|D4 [.o,.o,.o,.o,.o]])]:=by rw[hfr0];rfl
   rw[hset]
   simp only[bX,go_sem]
   have i9l:=aL i9
   refine⟨by rw[aq i9l];exact i9,?_⟩
   obtain⟨s2,hs2⟩:∃s2,(st++[dy C0]).set (Z.length+9) (some (.lp q { r with state:= .busy} fr0))=s2:=⟨_,rfl⟩
   have hv2:s2[st.length]? =some (dy C0):=by rw[←hs2,fM (by omega)];simp
   have old2:∀k,k<st.length→k≠Z.length+9→s2[k]? =st[k]? :=λ k hk hn=>by rw[←hs2,fM (Ne.symm hn),aq hk]
   have l2':s2.length=st.length+1:=by rw[←hs2,aH];simp
   have hal:=aL i8
   have b4:=old2 _ (aL i4) (by omega)
   have b8:=old2 _ hal (by omega)
   rw[i4]at b4
   rw[i8]at b8
   have hfl:=qq A0
   unfold Bz at b8
   have c9:s2[Z.length+9]? =some (some (.lp q { r with state:= .busy} fr0)):=by rw[←hs2];exact aT (by simp;omega)
   rw[hs2]
   simp only[bu,go_sem,z0,aO b4,aX b4,aO hv2,aX hv2,fC,aO b8,aX b8,gU b8,ac]
   obtain⟨s3,hs3⟩:∃s3,(List.set (s2++[some (Ob.cells [A.d (D.sl 1 (List.map iD C0.mem)),A.d (D.sl 1 (List.map iD C0.pos)),A.d (D.sl 1 (List.map cu C0.buf))])]) (Z.length+a) none++[some (Ob.cells (bU (List.map bX A0)++[A.d (D.sl 1 (List.map iD C0.mem)),A.d (D.sl 1 (List.map iD C0.pos)),A.d (D.sl 1 (List.map cu C0.buf))]))])=s3:=⟨_,rfl⟩
   rw[hs3]
   have g3:∀k,k<s2.length→k≠Z.length+a→s3[k]? =s2[k]? :=λ k hk hne=>by
    rw[←hs3,aq (by simp;omega),aD (Ne.symm hne),aq hk]
   have l3':s3.length=s2.length+2:=by rw[←hs3];simp
   have h3:s3[Z.length+4]? =some (some (.cells [.rs (Z.length+a) 3 0 A0.length (some 44)])):=by rw[g3 _ (by omega) (by omega)];exact b4
   have h4:s3[s2.length+1]? =some (some (.cells (bU (List.map bX A0)++[A.d (D.sl 1 (List.map iD C0.mem)),A.d (D.sl 1 (List.map iD C0.pos)),A.d (D.sl 1 (List.map cu C0.buf))]))):=by
    rw[←hs3,az (by simp)]
    simp
   simp only[go_sem,aO h3,aX h3,aO h4]
   refine⟨⟨hfl,by simp only[maxLen];omega,by omega⟩,?_⟩
   have g5:∀k o,st[k]? =some o→k≠Z.length+a→k≠Z.length+4→k≠Z.length+9→(List.set (List.set s3 (Z.length+4) (some (.cells [A.rs (s2.length+1) 3 0 (A0.length+1) (some 44)]))) (Z.length+9) (some (.lp q r fr0)))[k]? =some o:=λ k o hk k1 k2 k3=>by
    have:=aL hk
    rw[aD (Ne.symm k3),aD (Ne.symm k2),g3 k (by omega) k1,old2 k (by omega) k3]
    exact hk
   refine⟨_,bw.refl _ _ _ _,?_,rfl,?_,?_,by rw[aH,aH];omega⟩
   ·rw[aD (by omega),g3 _ (by omega) (by omega)];exact c9
   ·refine⟨λ k hk=> ?_,g5 _ _ i1 (by omega) (by omega) (by omega),g5 _ _ i2 (by omega) (by omega) (by omega),g5 _ _ i3 (by omega) (by omega) (by omega),g5 _ _ i5 (by omega) (by omega) (by omega),g5 _ _ i6 (by omega) (by omega) (by omega),g5 _ _ i7 (by omega) (by omega) (by omega),aT (by rw[aH];omega),s2.length+1 - Z.length,.inr (by omega),?_,?_⟩
    ·rw[aD (by omega),aD (by omega),g3 k (by omega) (by omega),old2 k (by omega) (by omega)]
     exact iold k hk
    ·rw[aD (by omega),aT (by omega),show Z.length+(s2.length+1 - Z.length)=s2.length+1 by omega,aF];rfl
    ·rw[show Z.length+(s2.length+1 - Z.length)=s2.length+1 by omega,aD (by omega),aD (by omega),h4,Bz,zJ];rfl
   ·rw[aD (by omega),aD (by omega),g3 _ (by omega) (by omega),old2 _ (by omega) (by omega)]
  ·rw[aK (by omega)]at hI
   obtain⟨iold,i1,i2,i3,i5,i6,i7,i9,a,ha,i4,i8⟩:=hI
   refine .inl ⟨i9,?_⟩
   rw[hfr0]
   obtain⟨s4,hs4⟩:∃s4,st.set (Z.length+9) none=s4:=⟨_,rfl⟩
   rw[hs4]
   have g4:∀k o,st[Z.length+k]? =some o→k≠9→(s4.drop Z.length)[k]? =some o:=λ k o hk hn=>by
    rw[bE,←hs4,aD (by omega)];exact hk
   have hs5:s4=Z++s4.drop Z.length:=by
    have:s4.take Z.length=Z:=by
     refine cz λ k=> ?_
     rcases aC k Z.length with hk|hk
     ·rw[bL hk,←hs4,aD (by omega)];exact iold k hk
     ·rw[bm (by rw[aP];omega),bm hk]
    rw[←congrArg (· ++s4.drop Z.length) this]
    exact(ct _ _).symm
   have k1:=g4 1 _ i1 (by omega)
   have k2:=g4 2 _ i2 (by omega)
   have k3:=g4 3 _ i3 (by omega)
   have k4:=g4 4 _ i4 (by omega)
   have k5:=g4 a _ i8 (by omega)
   generalize s4.drop Z.length=l4 at hs5 k1 k2 k3 k4 k5
   rw[hs5]
   have n1:((1:Nat)=a)=False:=eq_false (by omega)
   have n2:((2:Nat)=a)=False:=eq_false (by omega)
   have n3:((3:Nat)=a)=False:=eq_false (by omega)
   have n4:((4:Nat)=a)=False:=eq_false (by omega)
   refine Wk.via ((bw.mask [2,6,7,8,12]).trans (bw.keep [1,2,3,4,a] ?_ (aE _) hbd)) ?_
   ·simp only[cR,aV,bi,or_false,not_or,not_false_eq_true,List.nodup_nil,and_true]
    omega
   simp only[iC,aM,bq,lD,au,k1,k2,k3,k4,k5,b9,bJ]
   simp only[go_sem,n1,n2,n3,n4,if_false,bJ,cG]
   refine Wk.via (bw.freezeIn (Z:=Z) 4 3 3 0 (Y.map bX) rfl (zu _) rfl (by decide)) ?_
   simp only[go_sem,ac,and_self,if_true,false_and,if_false]
   refine Wk.keep [2,6,7,8,12] [0,1,2,3] (by decide) (aE _) hbd ?_
   simp only[go_sem]
   exact Wk.mask [2,6,7,8,12] ⟨rfl,rfl⟩
 rintro fr st ⟨rfl,rfl⟩
 simp only[go_sem,ac]
 exact dq hbd rfl h
def byA(b:UInt8):A:= .d (.int .u8 (b.toNat:Int))
abbrev vn(B:List UInt8):Option Ob:=some (.cells (B.map byA))
theorem xZ(v:Int):IntKind.u8.wrap v=((oz v).toNat:Int):=by
 unfold oz
 simp only[UInt8.toNat_ofNat',IntKind.wrap,IntKind.bits,IntKind.signed]
 have h1:0≤v % 256:=Int.emod_nonneg _ (by decide)
 have h2:v % 256<256:=Int.emod_lt_of_pos _ (by decide)
 simp
 omega
theorem bytes_by(B:List UInt8):kz (B.map byA)=some B:=pH B
theorem jQ{α β:Type}{f:α→List β}{k:Nat}:∀{l:List α},(∀x∈l,(f x).length≤k)→(l.flatMap f).length≤l.length*k
 |[],_=>by simp
 |x::r,h=>by
  have h1:=h x (by simp)
  have h2:=jQ (l:=r) (k:=k) λ y hy=>h y (by simp [hy])
  rw[cP,aF,ae,fL,Nat.one_mul]
  omega
theorem qA(B:List UInt8)(b:UInt8):vn (B++[b])=some (.cells (B.map byA++[.d (.int .u8 (b.toNat:Int))])):=by
 show some (Ob.cells _)=_
 rw[aJ];rfl
theorem DN(B:List UInt8)(a b:UInt8):vn (B++[a,b])=some (.cells (B.map byA++[.d (.int .u8 (a.toNat:Int)),.d (.int .u8 (b.toNat:Int))])):=by
 show some (Ob.cells _)=_
 rw[aJ];rfl
theorem nZ(n:Nat)(p:List Nat)(B:List UInt8):Go.Ab.ix n p (B.map byA)=B.map byA:=dK _ _ _ λ x hx=>by
 obtain⟨b,_,e⟩:=aI.1 hx;exact⟨_,e.symm⟩
theorem encE_len{e:Ent}(h1:e.vals.length=e.cells.length)(h2:e.cells.length≤12):(sD e).length≤25:=by
 unfold sD
 have:=jQ (f:=λ q:Int×Int=>[oz q.1,oz q.2]) (k:=2) (l:=e.cells.zip e.vals) λ x hx=>by simp
 rw[f9,cC (by omega)]at this
 rw[ae];omega
theorem encB_len{l:List Ent}(h1:l.length≤3)(h2:∀e∈l,(sD e).length≤25):(sE l).length≤76:=by
 unfold sE
 have:=jQ (k:=25) h2
 rw[ae];omega
theorem keyU(p:Prg)(hp:Good p)(m:Int)(c:Cfg)(hf:Fits p m c)(Z:St)(G:Glob)(R:A→St→Prop)(h:R (.d (.str (sw c))) Z):AC Tryz.prog G 118 [.d (bX c)] Z R:=by
 obtain⟨z1,z2,z3,z4⟩:=hf.sz hp
 have hent:∀l∈c.buf,∀e∈l,EntOk p e:=λ l hl e he=>by
  obtain⟨t,ht⟩:=fT.1 hl
  exact(hf.few t l ht).2 e he
 have hEl:∀l∈c.buf,∀e∈l,(sD e).length≤25:=λ l hl e he=>encE_len (hent l hl e he).len ((z4 l hl).2 e he).1
 have hBl:∀l∈c.buf,(sE l).length≤76:=λ l hl=>encB_len (z4 l hl).1 (hEl l hl)
 have hpos:∀(t:Nat) (a:Int),c.pos[t]? =some a→-1≤a∧a≤1000:=λ t a ht=>by
  obtain⟨v1,v2,_⟩:=hf.pos t a ht
  have htl:=aL ht
  have:=(hp.thrS (j:=t) (by rw[←hf.npos];exact htl)).points
  have e:p.thr t=p.threads.getD t fg:=rfl
  rw[e]at v2
  omega
 unfold bX
 refine bD [7,12,27] a9 Tryz.func118 rfl Tryz.ntmps118 (by simp only[go_sem]) λ hbd=> ?_
 simp only[ae,aj,Nat.reduceAdd,Nat.reduceSub,af,ag,ah,ak]
 simp only[bu,go_sem,ac]
 obtain⟨K1,hK1⟩:∃K1,c.mem.map oz=K1:=⟨_,rfl⟩
 obtain⟨K2,hK2⟩:∃K2,K1++(c.pos.map λ a=>oz (a+1))=K2:=⟨_,rfl⟩
 obtain⟨K3,hK3⟩:∃K3,K2++c.buf.flatMap sE=K3:=⟨_,rfl⟩
 have hk1l:K1.length≤12:=by rw[←hK1,ac];exact z1
 have hk2l:K2.length≤15:=by rw[←hK2,aF,ac];omega
 have hkey:sw c=K3:=by unfold sw;rw[hK1,hK2,hK3]
 rw[hkey]at h
 refine bc (λ fr st=>fr=%[.o,.ref Z.length 0,.o,.rs (Z.length+1) 1 0 K1.length (some 5)|D7 (D5 [.o,.o,.o,.o,.o,.o,.o])]∧st=Z++[dy c,vn K1]) ?_ ?_
 ·simp only[bu,go_sem,ac]
  refine aS (λ k fr st=>∃(j:Nat) (B:List UInt8),j≤c.mem.length∧k=c.mem.length - j∧B=(c.mem.take j).map oz∧fr=%[.o,.ref Z.length 0,.o,.rs (Z.length+1) 1 0 B.length (some 5)|D4 %[.o,.o,.o,.d (.sl 1 (c.mem.map iD)),dn c.mem.length,dn j|D7 (D4 [.o])]]∧st=Z++[dy c,vn B]) c.mem.length _ ?_ ?_
  ·exact⟨_,_,(bw.mask [1,3,15,16,17]).trans (bw.empty 3 1 (some 5) rfl),0,[],by omega,by omega,rfl,by rw[aF];rfl,by simp [bu]⟩
  rintro k fr st ⟨j,B,hj,hk,hB,rfl,rfl⟩
  have hBl:B.length=j:=by rw[hB,ac,aP];omega
  rcases aC j c.mem.length with hlt|hge
  ·have hd:decide ((j:Int)<(c.mem.length:Int))=true:=by simp;omega
   have w2:=bC j (by omega)
   have e1:=bW hlt
   have hsn:=bG 0 hlt
   generalize c.mem.getD j 0=v at e1 hsn
   simp only[go_sem,hd,w2,e1,xZ,ac,ad]
   refine⟨⟨by omega,by omega⟩,⟨by omega,by simp only[maxLen];omega,by omega⟩,?_⟩
   refine Wk.keep [1,3,15,16,17] [0,3] (by decide) (aE _) hbd ⟨c.mem.length - (j+1),by omega,j+1,B++[oz v],by omega,rfl,by rw[hB,hsn,aJ];rfl,by simp only[go_sem,aF,ae,aj],?_⟩
   rw[qA]
   simp only[go_sem,bu,dj,nZ]
   rfl
  ·have hd:decide ((j:Int)<(c.mem.length:Int))=false:=by simp;omega
   rw[aK hge,hK1]at hB
   subst hB
   simp only[go_sem,hd]
   exact Wk.mask [1,3] ⟨rfl,rfl⟩
 rintro fr st ⟨rfl,rfl⟩
 refine bc (λ fr st=>fr=%[.o,.ref Z.length 0,.o,.rs (Z.length+1) 1 0 K2.length (some 5)|D7 (D5 [.o,.o,.o,.o,.o,.o,.o])]∧st=Z++[dy c,vn K2]) ?_ ?_
 ·simp only[bu,go_sem,ac]
  refine aS (λ k fr st=>∃(j:Nat) (B:List UInt8),j≤c.pos.length∧k=c.pos.length - j∧B=K1++(c.pos.take j).map (λ a=>oz (a+1))∧fr=%[.o,.ref Z.length 0,.o,.rs (Z.length+1) 1 0 B.length (some 5)|D5 (D4 %[.d (.sl 1 (c.pos.map iD)),dn c.pos.length,dn j|D6 (D5 (D4 [.o,.o,.o,.o]))])]∧st=Z++[dy c,vn B]) c.pos.length _ (Wk.mask [1,3,28,29,30] ⟨0,K1,by omega,by omega,by simp,rfl,by simp [bu]⟩) ?_
  rintro k fr st ⟨j,B,hj,hk,hB,rfl,rfl⟩
  have hBl:B.length≤12+j:=by rw[hB,aF,ac,aP];omega
  rcases aC j c.pos.length with hlt|hge
  ·have hd:decide ((j:Int)<(c.pos.length:Int))=true:=by simp;omega
   have w2:=bC j (by omega)
   have e1:=bW hlt
   have hsn:=bG 0 hlt
   obtain⟨v1,v2⟩:=hpos j _ (cU 0 hlt)
   generalize c.pos.getD j 0=v at e1 hsn v1 v2
   have wv:IntKind.i64.wrap (v+1)=v+1:=cq _ (by omega) (by omega)
   simp only[go_sem,hd,w2,e1,wv,xZ,ac,ad]
   refine⟨⟨by omega,by omega⟩,⟨by simp,by simp only[maxLen];omega,by omega⟩,?_⟩
   refine Wk.keep [1,3,28,29,30] [0,3] (by decide) (aE _) hbd ⟨c.pos.length - (j+1),by omega,j+1,B++[oz (v+1)],by omega,rfl,by rw[hB,hsn,aJ,aU];rfl,by simp only[go_sem,aF,ae,aj],?_⟩
   rw[qA]
   simp only[go_sem,bu,dj,nZ]
   rfl
  ·have hd:decide ((j:Int)<(c.pos.length:Int))=false:=by simp;omega
   rw[aK hge,hK2]at hB
   subst hB
   simp only[go_sem,hd]
   exact Wk.mask [1,3] ⟨rfl,rfl⟩
 rintro fr st ⟨rfl,rfl⟩
 refine bc (λ fr st=>fr=%[.o,.ref Z.length 0,.o,.rs (Z.length+1) 1 0 K3.length (some 5)|D7 (D5 [.o,.o,.o,.o,.o,.o,.o])]∧st=Z++[dy c,vn K3]) ?_ ?_
 ·simp only[bu,go_sem,ac]
  refine aS (λ k fr st=>∃(j:Nat) (B:List UInt8),j≤c.buf.length∧k=c.buf.length - j∧B=K2++(c.buf.take j).flatMap sE∧fr=%[.o,.ref Z.length 0,.o,.rs (Z.length+1) 1 0 B.length (some 5)|D6 %[.o,.o,.o,.o,.o,.o,.d (.sl 1 (c.buf.map cu)),dn c.buf.length,dn j|D6 (D4 [.o,.o,.o,.o,.o,.o])]]∧st=Z++[dy c,vn B]) c.buf.length _ (Wk.mask [1,3,42,43,44] ⟨0,K2,by omega,by omega,by simp,rfl,by simp [bu]⟩) ?_
  rintro k fr st ⟨j,B,hj,hk,hB,rfl,rfl⟩
  have hBl2:B.length≤15+3*76:=by
   have:=jQ (l:=c.buf.take j) (k:=76) λ x hx=>hBl x (dW hx)
   rw[aP]at this
   rw[hB,aF];omega
  rcases aC j c.buf.length with hlt|hge
  ·have hd:decide ((j:Int)<(c.buf.length:Int))=true:=by simp;omega
   have w2:=bC j (by omega)
   have eb:List.getD (c.buf.map cu) j default= .sl 2 ((c.buf.getD j []).map bO):=gH (l:=c.buf) hlt
   have hmem:=bv [] hlt
   have hsn:=bG [] hlt
   have hl3:=(z4 _ hmem).1
   have he3:=hEl _ hmem
   have hen:=hent _ hmem
   have he12:=(z4 _ hmem).2
   generalize c.buf.getD j []=l at eb hsn hl3 he3 hen he12
   simp only[go_sem,hd,eb,xZ,ac,ad]
   refine⟨⟨by omega,by omega⟩,⟨by simp,by simp only[maxLen];omega,by omega⟩,?_⟩
   refine aS (λ k fr st=>∃(i:Nat) (D:List UInt8),i≤l.length∧k=l.length - i∧D=B++oz l.length::(l.take i).flatMap sD∧fr=%[.o,.ref Z.length 0,.o,.rs (Z.length+1) 1 0 D.length (some 5)|D6 %[.o,.o,.o,.o,.o,.o,.d (.sl 1 (c.buf.map cu)),dn c.buf.length,dn j|D4 %[.o,.d (.sl 2 (l.map bO)),dn l.length,dn i|D6 [.o,.o]]]]∧st=Z++[dy c,vn D]) l.length _ ?_ ?_
   ·refine Wk.keep [1,3,42,43,44,54,55,56] [0,3] (by decide) (aE _) hbd ⟨0,B++[oz l.length],by omega,by omega,by simp,by simp only[go_sem,aF,ae,aj];rfl,?_⟩
    rw[qA]
    simp only[go_sem,bu,dj,nZ]
    rfl
   rintro k2 fr st ⟨i,D,hi,hk2,hD,rfl,rfl⟩
   have hDl:D.length≤15+3*76+1+3*25:=by
    have:=jQ (l:=l.take i) (k:=25) λ x hx=>he3 x (dW hx)
    rw[aP]at this
    rw[hD,aF,ae];omega
   rcases aC i l.length with hl2|hg2
   ·have hd2:decide ((i:Int)<(l.length:Int))=true:=by simp;omega
    have w3:=bC i (by omega)
    have e3:=gG (l:=l) hl2
    have hm2:=bv cD hl2
    have hsn2:=bG cD hl2
    have hE:=hen _ hm2
    have hE12:=(he12 _ hm2).1
    generalize l.getD i cD=E at e3 hsn2 hE hE12
    replace e3:List.getD (l.map bO) i default= .agg [bu E.cells,bu E.vals]:=e3
    have hvl:=hE.len
    simp only[bu,go_sem,hd2,e3,xZ,ac,ad]
    refine⟨⟨by omega,by omega⟩,⟨by simp,by simp only[maxLen];omega,by omega⟩,?_⟩
    refine aS (λ k fr st=>∃(n:Nat) (W:List UInt8),n≤E.cells.length∧k=E.cells.length - n∧W=D++oz E.cells.length::((E.cells.zip E.vals).take n).flatMap (λ q=>[oz q.1,oz q.2])∧fr=%[.o,.ref Z.length 0,.o,.rs (Z.length+1) 1 0 W.length (some 5),.o,.o,.o,.o,.o,.o,.o,.ref (Z.length+2) 0|D5 (D4 %[.o,.o,.o,.o,.o,.o,.d (.sl 1 (c.buf.map cu)),dn c.buf.length,dn j|D4 %[.o,.d (.sl 2 (l.map bO)),dn l.length,dn i|D4 %[.o,.o,.o,.d (bu E.cells),dn E.cells.length,dn n|D5 [.o,.o,.o,.o]]]])]∧st=Z++[dy c,vn W,some (.cells [.d (bu E.cells),.d (bu E.vals)])]) E.cells.length _ ?_ ?_
    ·refine Wk.keep [1,3,11,42,43,44,54,55,56,68,69,70] [0,4,2] (by decide) (aE _) hbd ⟨0,D++[oz E.cells.length],by omega,by omega,by simp,by simp only[go_sem,aF,ae,aj];rfl,?_⟩
     rw[qA]
     simp only[go_sem,bu,dj,nZ]
     rfl
    rintro k3 fr st ⟨n,W,hn,hk3,hW,rfl,rfl⟩
    have hWl:W.length≤15+3*76+1+3*25+1+12*2:=by
     have:=jQ (f:=λ q:Int×Int=>[oz q.1,oz q.2]) (k:=2) (l:=(E.cells.zip E.vals).take n) λ x hx=>by simp
     rw[aP]at this
     rw[hW,aF,ae];omega
    rcases aC n E.cells.length with hl3'|hg3
    ·have hd3:decide ((n:Int)<(E.cells.length:Int))=true:=by simp;omega
     have w4:=bC n (by omega)
     have e4:=bW (l:=E.cells) hl3'
     have e5:=bW (l:=E.vals) (j:=n) (by omega)
     have hzl:n<(E.cells.zip E.vals).length:=by rw[f9];omega
     have hz:(E.cells.zip E.vals).take (n+1)=(E.cells.zip E.vals).take n++[(E.cells.getD n 0,E.vals.getD n 0)]:=by
      rw[gp,ap hzl]
      simp only[Option.toList_some,List.getElem_zip,au,ap hl3',ap (show n<E.vals.length by omega),b9]
     generalize E.cells.getD n 0=u at e4 hz
     generalize E.vals.getD n 0=v at e5 hz
     simp only[bu,go_sem,hd3,w4,e4,e5,xZ,ac,ad]
     refine⟨⟨by omega,by omega⟩,⟨by omega,by omega⟩,⟨by simp,by simp only[maxLen];omega,by omega⟩,?_⟩
     refine Wk.keep [1,3,11,42,43,44,54,55,56,68,69,70] [0,4,2] (by decide) (aE _) hbd ⟨E.cells.length - (n+1),by omega,n+1,W++[oz u,oz v],by omega,rfl,by rw[hW,hz,dB];simp,by simp only[go_sem,bu,aF,ae,aj],?_⟩
     rw[DN]
     simp only[go_sem,bu,dj,nZ]
     rfl
    ·have hd3:decide ((n:Int)<(E.cells.length:Int))=false:=by simp;omega
     rw[aK (by rw[f9];omega)]at hW
     simp only[go_sem,hd3,w3]
     refine Wk.keep [1,3,42,43,44,54,55,56] [0,1] (by decide) (aE _) hbd ⟨l.length - (i+1),by omega,i+1,W,by omega,rfl,?_,by simp only[go_sem],by simp only[go_sem,bu,nZ];rfl⟩
     rw[hW,hD,hsn2,dB]
     simp [sD]
   ·have hd2:decide ((i:Int)<(l.length:Int))=false:=by simp;omega
    rw[aK hg2]at hD
    simp only[go_sem,hd2,w2]
    refine Wk.mask [1,3,42,43,44] ⟨c.buf.length - (j+1),by omega,j+1,D,by omega,rfl,?_,rfl,rfl⟩
    rw[hD,hB,hsn,dB,aU]
    simp [sE]
  ·have hd:decide ((j:Int)<(c.buf.length:Int))=false:=by simp;omega
   rw[aK hge,hK3]at hB
   subst hB
   simp only[go_sem,hd]
   exact Wk.mask [1,3] ⟨rfl,rfl⟩
 rintro fr st ⟨rfl,rfl⟩
 have hb:kz (List.take K3.length (List.map byA K3))=some K3:=by rw[aK (by simp)];exact bytes_by K3
 simp only[go_sem,eB,hb]
 exact⟨by simp,aQ hbd h⟩
def jv(v:Vis):D:= .agg [bu v.cfg.mem,bu v.cfg.pos,.sl 1 (v.cfg.buf.map cu),iD v.frm,iD v.cho.thread,iD v.cho.step,iD v.cho.cell]
abbrev lO(V:List Vis):Option Ob:=some (.cells (bU (V.map jv)))
abbrev tu(p:Prg)(m:Int)(x:A):Option Ob:=some (.cells [.d (aY p.cells),.d (.sl 11 (p.modules.map iH)),.d (.sl 6 (p.locks.map iZ)),.d (.sl 7 (p.threads.map c8)),.d (iD m),x])
theorem flat_vis(V:List Vis)(v:Vis):bU ((V++[v]).map jv)=bU (V.map jv)++[.d (bu v.cfg.mem),.d (bu v.cfg.pos),.d (.sl 1 (v.cfg.buf.map cu)),.d (iD v.frm),.d (iD v.cho.thread),.d (iD v.cho.step),.d (iD v.cho.cell)]:=by
 rw[aJ,cZ];rfl
theorem fD(V:List Vis):(bU (V.map jv)).length=V.length*7:=by
 rw[mg (sz:=7),ac]
 intro x hx
 obtain⟨y,_,rfl⟩:=aI.1 hx
 rfl
def u2(l:List (List UInt8)):List (D×A):=l.map λ s=>(.str s,.d (.bool true))
theorem pB(s:List UInt8):∀l:List (List UInt8),ja (.str s) (u2 l)=some (if s∈l then some (.d (.bool true))else none)
 |[]=>rfl
 |x::l=>by
  have ih:=pB s l
  simp only[u2,aM,ja,ll,if_true]at ih ⊢
  by_cases hx:s=x
  ·subst hx;simp
  ·have h1:(s==x)=false:=by simpa using hx
   rw[h1]
   simp only
   rw[ih]
   simp [hx]
theorem vF(s:List UInt8):∀l:List (List UInt8),nk (.str s) (.d (.bool true)) (u2 l)=u2 (if s∈l then l else l++[s])
 |[]=>rfl
 |x::l=>by
  have ih:=vF s l
  simp only[u2,aM,nk,ll,if_true]at ih ⊢
  by_cases hx:s=x
  ·subst hx;simp
  ·have h1:(s==x)=false:=by simpa using hx
   rw[h1]
   simp only
   rw[ih]
   by_cases h:s∈l<;> simp [h,hx]
def qh(V:List Vis):List (List UInt8):=V.map λ v=>sw v.cfg
theorem keys_mem{p:Prg}(hp:p.Ok)(hs:p.Small){m:Int}{V:List Vis}{v:Vis}(hV:∀u∈V,Fits p m u.cfg)(hv:Fits p m v.cfg):sw v.cfg∈qh V↔v.cfg∈V.map Vis.cfg:=by
 unfold qh
 rw[aI,aI]
 constructor
 ·rintro⟨u,hu,e⟩
  exact⟨u,hu,key_inj hp hs (hV u hu) hv e⟩
 ·rintro⟨u,hu,e⟩
  exact⟨u,hu,by rw[e]⟩
theorem found_p {G:Glob} (p:Prg) (hp:Good p) (m:Int) (V:List Vis) (hV:∀u∈V,Fits p m u.cfg) (hVl:V.length≤20000) (v:Vis) (hv:Fits p m v.cfg) {tm tp ty mid sid ia y:Nat} (st:St)
  (f1:st[tm]? =some (some (.cells [.mapr mid]))) (f2:st[tp]? =some (some (.cells [.ref sid 0]))) (f3:st[ty]? =some (some (.cells [.fn (.yield y) [] []])))
  (f4:st[mid]? =some (some (.map (u2 (qh V))))) (f5:st[sid]? =some (tu p m (.rs ia 7 0 V.length (some 126)))) (f6:st[ia]? =some (lO V))
  (hne:mid≠sid∧mid≠ia∧sid≠ia∧tm≠mid∧tp≠mid∧ty≠mid∧tp≠ia∧ty≠ia∧tp≠sid∧ty≠sid)
  (R:A→St→Prop) (h1:v.cfg∈V.map Vis.cfg→∀l,R (db true) (st++l))
  (h2:v.cfg∉V.map Vis.cfg→∀(ia':Nat) (st2:St),(∀k,k<st.length→k≠mid→k≠sid→k≠ia→st2[k]? =st[k]?)→st2[mid]? =some (some (.map (u2 (qh (V++[v])))))→st2[sid]? =some (tu p m (.rs ia' 7 0 (V.length+1) (some 126)))→st2[ia']? =some (lO (V++[v]))→st.length≤ia'→st.length≤st2.length→YC Tryz.prog G y [dn V.length] st2 λ r st'=>∃b:Bool,r=db b∧R (db b) st'):
  AC Tryz.prog G 117 [.d (jv v),.ref tm 0,.ref tp 0,.ref ty 0] st R:=by
 have hk:=keys_mem hp.ok hp.sm hV hv
 have ky:=keyU (G:=G) p hp m v.cfg hv
 unfold jv
 unfold bX at ky
 refine bM a9 Tryz.func117 rfl Tryz.ntmps117 (by simp only[go_sem]) λ hbd=> ?_
 simp only[ae,aj,Nat.reduceAdd,Nat.reduceSub,af,ag,ah,ak]
 try simp only[go_sem]
 refine bH (ky _ _ ?_)
 simp only[go_sem,iY f1,gU f1]
 obtain⟨s1,hs1⟩:∃s1,st++[some (Ob.cells [A.d (bu v.cfg.mem),A.d (bu v.cfg.pos),A.d (D.sl 1 (List.map cu v.cfg.buf)),A.d (iD v.frm),A.d (iD v.cho.thread),A.d (iD v.cho.step),A.d (iD v.cho.cell)])]=s1:=⟨_,rfl⟩
 have app:∀{k:Nat} {o:Option Ob},st[k]? =some o→s1[k]? =some o:=λ hk=>by rw[←hs1,aq (aL hk)];exact hk
 have hbx:s1[st.length]? =some (some (Ob.cells [A.d (bu v.cfg.mem),A.d (bu v.cfg.pos),A.d (D.sl 1 (List.map cu v.cfg.buf)),A.d (iD v.frm),A.d (iD v.cho.thread),A.d (iD v.cho.step),A.d (iD v.cho.cell)])):=by rw[←hs1];simp
 have l1:s1.length=st.length+1:=by rw[←hs1];simp
 have b1:=app f1
 have b2:=app f2
 have b3:=app f3
 have b4:=app f4
 have b5:=app f5
 have b6:=app f6
 have hpl:gP Tryz.prog 9 (D.str (sw v.cfg))=true:=rfl
 rw[hs1]
 by_cases hin:v.cfg∈V.map Vis.cfg
 ·have hkin:=hk.2 hin
  simp only[go_sem,sJ b4,rZ,pB,if_pos hkin,hpl]
  rw[←hs1]
  exact⟨_,_,bw.refl _ _ _ _,h1 hin _⟩
 ·have hkin:sw v.cfg∉qh V:=λ q=>hin (hk.1 q)
  have e1:¬(st.length=mid):=by have:=aL f4;omega
  obtain⟨n1,n2,n3,n4,n5,n6,n7,n8,n9,n10⟩:=hne
  obtain⟨s2,hs2⟩:∃s2,s1.set mid (some (.map (u2 (qh V++[sw v.cfg]))))=s2:=⟨_,rfl⟩
  have old2:∀k,k≠mid→s2[k]? =s1[k]? :=λ k hn=>by rw[←hs2,aD (Ne.symm hn)]
  have c2:s2[tp]? =_:=(old2 _ n5).trans b2
  have c3:s2[ty]? =_:=(old2 _ n6).trans b3
  have c5:s2[sid]? =_:=(old2 _ (Ne.symm n1)).trans b5
  have c6:s2[ia]? =_:=(old2 _ (Ne.symm n2)).trans b6
  have cb:s2[st.length]? =_:=(old2 _ e1).trans hbx
  have c4:s2[mid]? =some (some (.map (u2 (qh V++[sw v.cfg])))):=by rw[←hs2];exact aT (aL b4)
  have l2:s2.length=st.length+1:=by rw[←hs2,aH,l1]
  simp only[go_sem,sJ b4,aO b4,rZ,pB,vF,if_neg hkin,hpl,eF,hs2,aO b1,aX b1]
  refine bb (.tk 5 1<| .alt 0 (.tk 5 6<| .done)<| .alt 6 (.alt 0 (.tk 4 7<| .done)<| .alt 7 (.take 0<| .tk 3 8<| .done)<| .stop)<| .stop) (by kernel_rfl) ?_
  have hfl:=fD V
  unfold lO at c6
  simp only[go_sem,aO c2,aX c2,aO c5,aX c5,aO cb,aX cb,aO c6,aX c6,gU c6,fC]
  obtain⟨s3,hs3⟩:∃s3,(List.set (s2++[some (Ob.cells [A.d (bu v.cfg.mem),A.d (bu v.cfg.pos),A.d (D.sl 1 (List.map cu v.cfg.buf)),A.d (iD v.frm),A.d (iD v.cho.thread),A.d (iD v.cho.step),A.d (iD v.cho.cell)])]) ia none++[some (Ob.cells (bU (List.map jv V)++[A.d (bu v.cfg.mem),A.d (bu v.cfg.pos),A.d (D.sl 1 (List.map cu v.cfg.buf)),A.d (iD v.frm),A.d (iD v.cho.thread),A.d (iD v.cho.step),A.d (iD v.cho.cell)]))])=s3:=⟨_,rfl⟩
  rw[hs3]
  have g3:∀k,k<s2.length→k≠ia→s3[k]? =s2[k]? :=λ k hk hne=>by
   rw[←hs3,aq (by simp;omega),aD (Ne.symm hne),aq hk]
  have l3:s3.length=s2.length+2:=by rw[←hs3];simp
  have d2:s3[tp]? =_:=(g3 _ (aL c2) n7).trans c2
  have d3:s3[ty]? =_:=(g3 _ (aL c3) n8).trans c3
  have d5:s3[sid]? =_:=(g3 _ (aL c5) n3).trans c5
  have dn1:s3[s2.length+1]? =some (some (.cells (bU (List.map jv V)++[A.d (bu v.cfg.mem),A.d (bu v.cfg.pos),A.d (D.sl 1 (List.map cu v.cfg.buf)),A.d (iD v.frm),A.d (iD v.cho.thread),A.d (iD v.cho.step),A.d (iD v.cho.cell)]))):=by
   rw[←hs3,az (by simp)]
   simp
  have hsl:=aL d5
  simp only[go_sem,iY c2,gU c2,aO d2,aX d2,aO d5,aX d5,aO dn1,ac]
  refine⟨⟨hfl,by simp only[maxLen];omega,by omega⟩,?_⟩
  obtain⟨s4,hs4⟩:∃s4,s3.set sid (tu p m (.rs (s2.length+1) 7 0 (V.length+1) (some 126)))=s4:=⟨_,rfl⟩
  rw[hs4]
  have g4:∀k,k≠sid→s4[k]? =s3[k]? :=λ k hn=>by rw[←hs4,aD (Ne.symm hn)]
  have q2:s4[tp]? =_:=(g4 _ n9).trans d2
  have q3:s4[ty]? =_:=(g4 _ n10).trans d3
  have q5:s4[sid]? =some (tu p m (.rs (s2.length+1) 7 0 (V.length+1) (some 126))):=by rw[←hs4];exact aT hsl
  have wv:IntKind.i64.wrap (((V.length+1:Nat):Int) - 1)=(V.length:Int):=by rw[cq _ (by omega) (by omega)];omega
  refine bb (.tk 9 0<| .done) (by kernel_rfl) ?_
  have qn:s4[s2.length+1]? =_:=(g4 _ (by have:=aL f5;omega)).trans dn1
  have hlm:=aL f4
  have hli:=aL f6
  have hlsd:=aL f5
  have H:=h2 hin (s2.length+1) s4 (λ k hk k1 k2 k3=>by
   rw[g4 k k2,g3 k (by omega) k3,old2 k k1,←hs1,aq hk]) (by
   rw[g4 _ n1,g3 _ (by omega) n2,c4];simp [qh]) q5 (by
   rw[g4 _ (by omega),dn1,lO,flat_vis]) (by omega) (by rw[←hs4,aH];omega)
  simp only[go_sem,aO q2,aX q2,aO q3,aX q3,aO q5,aX q5,aO qn,wv]
  refine yc' (H.mono λ r st' hr=> ?_)
  obtain⟨b,rfl,hR⟩:=hr
  exact⟨_,_,bw.refl _ _ _ _,hR⟩
end
end Go.Proofs.YtdpdbokicanpoaaGreatDoor
