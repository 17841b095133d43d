import Derived.Test.YtdpdbokicanpoaaGreatDoorZ34
set_option linter.unusedSimpArgs false
set_option linter.unusedVariables false
set_option maxHeartbeats 64000000
set_option maxRecDepth 100000
namespace Go.Proofs.YtdpdbokicanpoaaGreatDoor
section
open Go Go.Ab
theorem Good.cell{p:Prg}(hp:Good p){j:Nat}(h:j<p.cells.length):CelOk p (p.cells.getD j fU):=hp.ok.cells _ (bv _ h)
theorem Good.thr{p:Prg}(hp:Good p){j:Nat}(h:j<p.threads.length):ThrOk p j (p.threads.getD j fg):=hp.ok.threads j _ (by rw[au,ap h];rfl)
theorem Good.thrS{p:Prg}(hp:Good p){j:Nat}(h:j<p.threads.length):ThrSm (p.threads.getD j fg):=hp.sm.threads _ (bv _ h)
theorem pow8{w:Int}(h:1≤w∧w≤8):((2:Int)^w.toNat)=((2^w.toNat:Nat):Int):=by simp
theorem cU{α:Type}{l:List α}{j:Nat}(d:α)(h:j<l.length):l[j]? =some (l.getD j d):=by
 rw[au,ap h];rfl
theorem fits11_r(p:Prg)(hp:Good p)(m:Int)(c:Cfg)(hf:Fits p m c)(Z:St)(G:Glob)(R:A→St→Prop)(h:R (db true) Z):AC Tryz.prog G 77 [.d (bK p),.d (bu c.mem),.d (bu c.pos)] Z R:=by
 have hcn:=hp.sm.ncel
 have htn:=hp.sm.nthr
 have l1:=hf.mem.len
 have l2:=hf.npos
 have n1:((c.mem.length:Int)!=(p.cells.length:Int))=false:=by simp;omega
 have n2:((c.pos.length:Int)!=(p.threads.length:Int))=false:=by simp;omega
 unfold bK
 refine bD [3,8,13] a9 Tryz.func77 rfl Tryz.ntmps77 (by simp only[go_sem]) λ hbd=> ?_
 simp only[ae,aj,Nat.reduceAdd,Nat.reduceSub,af,ag,ah,ak]
 simp only[aY,bu,go_sem,n1,n2,ac]
 refine bc (λ fr st=>fr=%[.o,.d (bu c.mem),.d (bu c.pos),.ref Z.length 0|D7 (D5 [.o,.o,.o,.o])]∧st=Z++[bN p]) ?_ ?_
 ·simp only[aY,bu,go_sem,n1,n2,ac]
  exact Wk.mask [1,2,3] ⟨rfl,rfl⟩
 rintro fr st ⟨rfl,rfl⟩
 refine bc (λ fr st=>fr=%[.o,.d (bu c.mem),.d (bu c.pos),.ref Z.length 0|D7 (D5 [.o,.o,.o,.o])]∧st=Z++[bN p]) ?_ ?_
 ·simp only[aY,bu,go_sem,ac]
  refine aS (λ k fr st=>∃j:Nat,j≤c.mem.length∧k=c.mem.length - j∧fr=%[.o,.d (bu c.mem),.d (bu c.pos),.ref Z.length 0,.o,.o,.o,dn j|D7 (D5 [])]∧st=Z++[bN p]) c.mem.length _ (Wk.mask [1,2,3,7] ⟨0,by omega,by omega,rfl,rfl⟩) ?_
  rintro k fr st ⟨j,hj,hk,rfl,rfl⟩
  rcases aC j c.mem.length with hlt|hge
  ·have hd:decide ((j:Int)<(c.mem.length:Int))=true:=by simp;omega
   have w2:=bC j (by omega)
   have e1:=bW (l:=c.mem) hlt
   have e2:=iM (l:=p.cells) (j:=j) (by omega)
   have hv:=hf.mem.val j _ (cU 0 hlt)
   have hc:=(hp.cell (j:=j) (by omega)).w
   have hpc:p.cell j=p.cells.getD j fU:=by simp [Prg.cell]
   rw[hpc]at hv
   generalize p.cells.getD j fU=C at e2 hv hc
   rw[pow8 hc]at hv
   generalize c.mem.getD j 0=v at e1 hv
   simp only[fb]at e2
   have d1:decide (v<0)=false:=by simp;omega
   have d2:decide (v≥((2^C.w.toNat:Nat):Int))=false:=by rw[ay];omega
   have d3:decide (((2^C.w.toNat:Nat):Int)≤v)=false:=by rw[ay];omega
   simp only[aY,bu,go_sem,hd,ac]
   refine bb (.tk 8 0<| .tk 6 10<| .pure 16<| .tk 2 8<| .tk 2 17<| .done) (by kernel_rfl) ?_
   simp only[aY,bu,go_sem,e1,e2,d1,ac,ad]
   refine⟨⟨by omega,by omega⟩,⟨by omega,by omega⟩,Go.Ab.exQ (iD ((2^C.w.toNat:Nat):Int)) ⟨?_,?_⟩⟩
   ·simp only[go_sem]
    exactλ Z'=>bH (yX C.w (by omega) _ _ _ ⟨rfl,rfl⟩)
   simp only[aY,bu,go_sem,e1,e2,d1,d2,d3,w2,ac,ad]
   exact⟨⟨by omega,by omega⟩,Wk.mask [1,2,3,7] ⟨c.mem.length - (j+1),by omega,j+1,by omega,rfl,rfl,rfl⟩⟩
  ·have hd:decide ((j:Int)<(c.mem.length:Int))=false:=by simp;omega
   simp only[aY,bu,go_sem,hd,ac]
   exact Wk.mask [1,2,3] ⟨rfl,rfl⟩
 rintro fr st ⟨rfl,rfl⟩
 refine bc (λ fr st=>fr=D7 (D5 (D4 []))∧st=Z) ?_ ?_
 ·simp only[aY,bu,go_sem,ac]
  refine aS (λ k fr st=>∃j:Nat,j≤c.pos.length∧k=c.pos.length - j∧fr=%[.o,.d (bu c.mem),.d (bu c.pos),.ref Z.length 0,.o,.o,.o,.o,dn j|D7 (D4 [.o,.o,.o,.o,.o,.o,.o])]∧st=Z++[bN p]) c.pos.length _ (Wk.mask [1,2,3,8] ⟨0,by omega,by omega,rfl,rfl⟩) ?_
  rintro k fr st ⟨j,hj,hk,rfl,rfl⟩
  rcases aC j c.pos.length with hlt|hge
  ·have hd:decide ((j:Int)<(c.pos.length:Int))=true:=by simp;omega
   have w2:=bC j (by omega)
   have e1:=bW (l:=c.pos) hlt
   have e2:=fe (l:=p.threads) (j:=j) (by omega)
   obtain⟨v1,v2,v3⟩:=hf.pos j _ (cU 0 hlt)
   change _<(p.threads.getD j fg).points at v2
   change _→(p.threads.getD j fg).asleep=true∧_ at v3
   generalize p.threads.getD j fg=x at e2 v2 v3
   generalize c.pos.getD j 0=v at e1 v1 v2 v3
   have d1:decide (v< -1)=false:=by simp;omega
   have d3:decide (x.points≤v)=false:=by rw[ay];omega
   have d2:decide (v≥x.points)=false:=by rw[ay];omega
   simp only[bu,go_sem,hd,ac]
   refine bb (.tk 34 0<| .done) (by kernel_rfl) ?_
   rcases Bool.eq_false_or_eq_true (v== -1)with v4|v4
   ·have v5:=(v3 (eq_of_beq v4)).1
    simp only[bu,go_sem,c8,e1,e2,d1,d2,d3,v4,v5,w2,ac,ad]
    exact⟨⟨by omega,by omega⟩,⟨by omega,by omega⟩,⟨by omega,by omega⟩,⟨by omega,by omega⟩,⟨by omega,by omega⟩,Wk.mask [1,2,3,8] ⟨c.pos.length - (j+1),by omega,j+1,by omega,rfl,rfl,rfl⟩⟩
   ·simp only[bu,go_sem,c8,e1,e2,d1,d2,d3,v4,w2,ac,ad]
    exact⟨⟨by omega,by omega⟩,⟨by omega,by omega⟩,⟨by omega,by omega⟩,⟨by omega,by omega⟩,Wk.mask [1,2,3,8] ⟨c.pos.length - (j+1),by omega,j+1,by omega,rfl,rfl,rfl⟩⟩
  ·have hd:decide ((j:Int)<(c.pos.length:Int))=false:=by simp;omega
   simp only[aY,bu,go_sem,hd,ac]
   exact Wk.keep [] [] (by decide) (aE _) hbd ⟨by simp only[go_sem],by simp only[go_sem,bt]⟩
 rintro fr st ⟨rfl,rfl⟩
 try simp only[go_sem]
 exact cw h
theorem EntOk.few{p:Prg}{e:Ent}(he:EntOk p e):e.cells.length≤p.cells.length:=by
 refine v7 he.nodup λ c hc=> ?_
 obtain⟨i,hi⟩:=fT.1 hc
 have:=(he.cell i c hi).1
 simp only[Prg.shB,kj,aB,av]at this
 exact this.1
theorem entry_r(p:Prg)(hp:Good p)(e:Ent)(he:EntOk p e)(Z:St)(G:Glob)(R:A→St→Prop)(h:R (db true) Z):AC Tryz.prog G 78 [.d (bK p),.d (bO e)] Z R:=by
 have hcn:=hp.sm.ncel
 have hfew:=he.few
 have hl:=he.len
 have hpos:0<e.cells.length:=by have:=he.pos;rcases h0:e.cells with _|⟨a,r⟩;exact absurd h0 this;simp
 have n1:((e.cells.length:Int)==0)=false:=by rw[ck];omega
 have n2:((e.cells.length:Int)!=(e.vals.length:Int))=false:=by rw[bne_eq_false_iff_eq];omega
 unfold bK bO
 refine bD [3,14] a9 Tryz.func78 rfl Tryz.ntmps78 (by simp only[go_sem]) λ hbd=> ?_
 simp only[ae,aj,Nat.reduceAdd,Nat.reduceSub,af,ag,ah,ak]
 simp only[aY,bu,go_sem,n1,n2,ac]
 refine bc (λ fr st=>fr=%[.o,.o,.ref Z.length 0,.ref (Z.length+1) 0|D7 (D5 [.o,.o,.o])]∧st=Z++[bN p,some (.cells [.d (bu e.cells),.d (bu e.vals)])]) ?_ ?_
 ·simp only[aY,bu,go_sem,n1,n2,ac]
  exact Wk.mask [2,3] ⟨rfl,rfl⟩
 rintro fr st ⟨rfl,rfl⟩
 refine bc (λ fr st=>fr=D7 (D5 [.o,.o,.o,.o,.o,.o,.o])∧st=Z) ?_ ?_
 ·simp only[aY,bu,go_sem,ac]
  refine aS (λ k fr st=>∃j:Nat,j≤e.cells.length∧k=e.cells.length - j∧fr=%[.o,.o,.ref Z.length 0,.ref (Z.length+1) 0,.o,dn j|D7 (D5 [.o])]∧st=Z++[bN p,some (.cells [.d (bu e.cells),.d (bu e.vals)])]) e.cells.length _ (Wk.mask [2,3,5] ⟨0,by omega,by omega,rfl,rfl⟩) ?_
  rintro k fr st ⟨j,hj,hk,rfl,rfl⟩
  rcases aC j e.cells.length with hlt|hge
  ·have hd:decide ((j:Int)<(e.cells.length:Int))=true:=by simp;omega
   have w2:=bC j (by omega)
   have e1:=bW (l:=e.cells) hlt
   have e3:=bW (l:=e.vals) (j:=j) (by omega)
   obtain⟨hsh,hgh⟩:=he.cell j _ (cU 0 hlt)
   have hv:=he.val j _ _ (cU 0 hlt) (cU 0 (by omega))
   have hne:∀i,i<j→e.cells.getD i 0≠e.cells.getD j 0:=λ i hi q=>by
    have:=(dO.1 he.nodup) i j (by omega) hlt hi
    rw[au,au,ap hlt,ap (show i<e.cells.length by omega)]at q
    exact this q
   generalize hcj:e.cells.getD j 0=cj at e1 hsh hgh hv hne
   obtain⟨c01,hth⟩:=eJ.1 hsh
   obtain⟨c0,c1⟩:=c01
   unfold Prg.cell at hgh hv hth
   have e2:=iM (l:=p.cells) (j:=cj.toNat) (by omega)
   have hc:=(hp.cell (j:=cj.toNat) (by omega)).w
   obtain⟨C,hC⟩:∃C,p.cells.getD cj.toNat fU=C:=⟨_,rfl⟩
   rw[hC]at e2 hv hc hgh hth
   rw[pow8 hc]at hv
   generalize e.vals.getD j 0=v at e3 hv
   simp only[fb]at e2
   have d1:kj cj p.cells.length=true:=by simp [kj];omega
   have d2:kj v ((2^C.w.toNat:Nat):Int)=true:=by simp only[kj,av];exact hv
   have d3:(C.thread != -1)=false:=by rw[hth];rfl
   have d4:(decide (0<j)==decide ((0:Int)<(j:Int)))=true:=by
    rw[show decide ((0:Int)<(j:Int))=decide (0<j)by apply decide_eq_decide.2;omega];simp
   simp only[aY,bu,go_sem,hd,e1,ac,ad]
   refine⟨⟨by omega,by omega⟩,?_⟩
   refine bb (.tk 4 0<| .pure 4<| .tk 22 5<| .take 29<| .tk 6 32<| .pure 38<| .tk 2 27<| .tk 2 30<| .pure 39<| .tk 2 40<| .done) (by kernel_rfl) ?_
   simp only[aY,bu,go_sem,ac]
   refine mN (db true) ⟨λ Z'=>bH (k8 _ _ _ _ _ ⟨by rw[d1],rfl⟩),?_⟩
   simp only[aY,bu,go_sem,e2,e3,d3,hgh,d4,ac,ad]
   refine⟨⟨by omega,by omega⟩,⟨by omega,by omega⟩,⟨by omega,by omega⟩,Go.Ab.exQ (iD ((2^C.w.toNat:Nat):Int)) ⟨?_,?_⟩⟩
   ·simp only[go_sem]
    exactλ Z'=>bH (yX C.w (by omega) _ _ _ ⟨rfl,rfl⟩)
   simp only[aY,bu,go_sem,e2,e3,d3,hgh,d4,ac,ad]
   refine⟨⟨by omega,by omega⟩,Go.Ab.exQ (.bool true) ⟨?_,?_⟩⟩
   ·simp only[go_sem]
    exactλ Z'=>bH (k8 _ _ _ _ _ ⟨by rw[d2],rfl⟩)
   simp only[aY,bu,go_sem,e2,e3,d3,hgh,d4,ac,ad]
   refine aS (λ k fr st=>∃i:Nat,i≤j∧k=j - i∧fr=%[.o,.o,.ref Z.length 0,.ref (Z.length+1) 0,.o,dn j,di cj,dn i|D7 (D4 [.o,.o,.o,.o,.o,.o,.o])]∧st=Z++[bN p,some (.cells [.d (bu e.cells),.d (bu e.vals)])]) j _ (Wk.mask [2,3,5,6,7] ⟨0,by omega,by omega,rfl,rfl⟩) ?_
   rintro k2 fr st ⟨i,hi,hk2,rfl,rfl⟩
   rcases aC i j with hl2|hg2
   ·have hd2:decide ((i:Int)<(j:Int))=true:=by simp;omega
    have w3:=bC i (by omega)
    have e4:=bW (l:=e.cells) (j:=i) (by omega)
    have hq:(e.cells.getD i 0==cj)=false:=by rw[ck];exact hne i hl2
    simp only[aY,bu,go_sem,hd2,w3,e4,hq,ac,ad]
    exact⟨⟨by omega,by omega⟩,Wk.mask [2,3,5,6,7] ⟨j - (i+1),by omega,i+1,by omega,rfl,rfl,rfl⟩⟩
   ·have hd2:decide ((i:Int)<(j:Int))=false:=by simp;omega
    simp only[aY,bu,go_sem,hd2,w2,ac,ad]
    exact Wk.mask [2,3,5] ⟨e.cells.length - (j+1),by omega,j+1,by omega,rfl,rfl,rfl⟩
  ·have hd:decide ((j:Int)<(e.cells.length:Int))=false:=by simp;omega
   simp only[aY,bu,go_sem,hd,ac]
   exact Wk.keep [] [] (by decide) (aE _) hbd ⟨by simp only[go_sem],by simp only[go_sem,bt]⟩
 rintro fr st ⟨rfl,rfl⟩
 try simp only[go_sem]
 exact cw h
theorem qT(c:Cfg):fO c=true↔∀l∈c.buf,l=[]:=by
 simp [fO]
theorem quiet_r(c:Cfg)(hn:c.buf.length≤1000)(Z:St)(G:Glob)(R:A→St→Prop)(h:R (db (fO c)) Z):AC Tryz.prog G 36 [.d (bX c)] Z R:=by
 unfold bX
 refine bg a9 Tryz.func36 rfl Tryz.ntmps36 (by simp only[go_sem]) λ hbd=> ?_
 simp only[ae,aj,Nat.reduceAdd,Nat.reduceSub,af,ag,ah,ak]
 simp only[go_sem,ac]
 refine aS (λ k fr st=>∃j:Nat,j≤c.buf.length∧k=c.buf.length - j∧(∀l∈c.buf.take j,l=[])∧fr=%[.o,.ref Z.length 0,.o,dn j|D4 [.o,.o,.o,.o,.o,.o]]∧st=Z++[some (.cells [.d (bu c.mem),.d (bu c.pos),.d (.sl 1 (c.buf.map cu))])]) c.buf.length _ (Wk.mask [1,3] ⟨0,by omega,by omega,by simp,rfl,rfl⟩) ?_
 rintro k fr st ⟨j,hj,hk,hno,rfl,rfl⟩
 rcases aC j c.buf.length with hlt|hge
 ·have hd:decide ((j:Int)<(c.buf.length:Int))=true:=by simp;omega
  have w2:=bC j (by omega)
  have eb:List.getD (c.buf.map cu) j default= .sl 2 ((c.buf.getD j []).map bO):=gH (l:=c.buf) hlt
  have ht:∀o∈c.buf.take (j+1),o∈c.buf.take j∨o=c.buf.getD j []:=λ o ho=>gz [] hlt ho
  have hm:=bv ([]:List Ent) hlt
  generalize c.buf.getD j []=B at eb ht hm
  simp only[go_sem,hd,w2,eb,ac,ad]
  refine⟨⟨by omega,by omega⟩,λ q=>aQ hbd ?_,λ q=>Wk.mask [1,3] ⟨c.buf.length - (j+1),by omega,j+1,by omega,rfl,λ l hl=> ?_,rfl,rfl⟩⟩
  ·have:fO c=false:=by
    rw[fw];intro z
    have:=(qT c).1 z B hm
    subst this
    simp at q
   rw[this]at h;exact h
  ·rcases ht l hl with z|z
   ·exact hno l z
   ·rw[z]
    have:B.length=0:=by simpa using q
    exact cM.1 this
 ·have hd:decide ((j:Int)<(c.buf.length:Int))=false:=by simp;omega
  rw[aK hge]at hno
  rw[(qT c).2 hno]at h
  simp only[go_sem,hd,ac]
  exact aQ hbd h
theorem is_r(p:Prg)(hp:Good p)(m:Int)(c:Cfg)(hf:Fits p m c)(Z:St)(G:Glob)(R:A→St→Prop)(h:R (db true) Z):AC Tryz.prog G 35 [.d (bK p),.d (bX c)] Z R:=by
 have hcn:=hp.sm.ncel
 have htn:=hp.sm.nthr
 have hnb:=hf.nbuf
 have hnp:=hf.npos
 have f11:=fits11_r p hp m c hf
 have en:=entry_r p hp
 have n1:((c.buf.length:Int)!=(p.threads.length:Int))=false:=by rw[bne_eq_false_iff_eq];omega
 unfold bK bX at*
 refine bD [3,13] a9 Tryz.func35 rfl Tryz.ntmps35 (by simp only[go_sem]) λ hbd=> ?_
 simp only[ae,aj,Nat.reduceAdd,Nat.reduceSub,af,ag,ah,ak]
 simp only[go_sem,ac]
 refine bc (λ fr st=>fr=%[.o,.o,.ref Z.length 0,.ref (Z.length+1) 0|D7 [.o,.o,.o,.o,.o,.o,.o]]∧st=Z++[bN p,some (.cells [.d (bu c.mem),.d (bu c.pos),.d (.sl 1 (c.buf.map cu))])]) ?_ ?_
 ·simp only[go_sem,n1,ac]
  refine bH (f11 _ _ _ ?_)
  simp only[go_sem,n1,ac]
  exact Wk.mask [2,3] ⟨rfl,rfl⟩
 rintro fr st ⟨rfl,rfl⟩
 refine bc (λ fr st=>fr=D7 (D4 [.o,.o,.o])∧st=Z) ?_ ?_
 ·simp only[go_sem,ac]
  refine aS (λ k fr st=>∃j:Nat,j≤c.buf.length∧k=c.buf.length - j∧fr=%[.o,.o,.ref Z.length 0,.ref (Z.length+1) 0,.o,dn j|D7 [.o,.o,.o,.o,.o]]∧st=Z++[bN p,some (.cells [.d (bu c.mem),.d (bu c.pos),.d (.sl 1 (c.buf.map cu))])]) c.buf.length _ (Wk.mask [2,3,5] ⟨0,by omega,by omega,rfl,rfl⟩) ?_
  rintro k fr st ⟨j,hj,hk,rfl,rfl⟩
  rcases aC j c.buf.length with hlt|hge
  ·have hd:decide ((j:Int)<(c.buf.length:Int))=true:=by simp;omega
   have w2:=bC j (by omega)
   have eb:List.getD (c.buf.map cu) j default= .sl 2 ((c.buf.getD j []).map bO):=gH (l:=c.buf) hlt
   have ep:=bW (l:=c.pos) (j:=j) (by omega)
   obtain⟨hfw,hok⟩:=hf.few j _ (cU [] hlt)
   have hps:=(hf.pos j _ (cU 0 (by omega))).2.2
   change _→_∧c.buf.getD j []=[]at hps
   generalize c.buf.getD j []=B at eb hfw hok hps
   generalize c.pos.getD j 0=v at ep hps
   have d1:decide ((B.length:Int) > 3)=false:=by simp;omega
   have d2:decide ((3:Int)<(B.length:Int))=false:=by simp;omega
   simp only[bu,go_sem,hd,w2,d1,d2,eb,ep,ac,ad]
   refine⟨⟨by omega,by omega⟩,⟨by omega,by omega⟩,λ q=>⟨q,by omega,by omega⟩,λ q=> ?_,λ _=> ?_⟩
   ·exfalso
    simp only[aB,av]at q
    have:=(hps (eq_of_beq q.2)).2
    subst this
    simp at q
   refine aS (λ k fr st=>∃i:Nat,i≤B.length∧k=B.length - i∧fr=%[.o,.o,.ref Z.length 0,.ref (Z.length+1) 0,.o,dn j,dn i|D7 [.o,.o,.o,.o]]∧st=Z++[bN p,some (.cells [.d (bu c.mem),.d (bu c.pos),.d (.sl 1 (c.buf.map cu))])]) B.length _ (Wk.mask [2,3,5,6] ⟨0,by omega,by omega,rfl,rfl⟩) ?_
   rintro k2 fr st ⟨i,hi,hk2,rfl,rfl⟩
   rcases aC i B.length with hl2|hg2
   ·have hd2:decide ((i:Int)<(B.length:Int))=true:=by simp;omega
    have w3:=bC i (by omega)
    have ei:=gG (l:=B) hl2
    have hi:=en _ (hok _ (bv cD hl2))
    generalize B.getD i cD=E at ei hi
    unfold bO at hi
    simp only[bu,go_sem,hd2,w3,eb,ac,ad]
    refine⟨⟨by omega,by omega⟩,?_⟩
    refine bb (.tk 9 0<| .pure 9<| .take 10<| .done) (by kernel_rfl) ?_
    simp only[bu,go_sem,hd2,w3,eb,ei,bO,ac,ad]
    refine⟨⟨by omega,by omega⟩,⟨by omega,by omega⟩,mN (db true) ⟨λ Z'=> ?_,?_⟩⟩
    ·exact bH (hi _ _ _ ⟨rfl,rfl⟩)
    simp only[go_sem,w3]
    exact Wk.mask [2,3,5,6] ⟨B.length - (i+1),by omega,i+1,by omega,rfl,rfl,rfl⟩
   ·have hd2:decide ((i:Int)<(B.length:Int))=false:=by simp;omega
    simp only[bu,go_sem,hd2,w2,eb,ac,ad]
    exact⟨⟨by omega,by omega⟩,Wk.mask [2,3,5] ⟨c.buf.length - (j+1),by omega,j+1,by omega,rfl,rfl,rfl⟩⟩
  ·have hd:decide ((j:Int)<(c.buf.length:Int))=false:=by simp;omega
   simp only[bu,go_sem,hd,ac]
   exact Wk.keep [] [] (by decide) (aE _) hbd ⟨by simp only[go_sem],by simp only[go_sem,bt]⟩
 rintro fr st ⟨rfl,rfl⟩
 try simp only[go_sem]
 exact cw h
theorem Bh(p:Prg)(hp:Good p)(m:Int)(hm:0≤m∧m≤2)(c:Cfg)(hf:Fits p m c)(Z:St)(G:Glob)(R:A→St→Prop)(h:R (db true) Z):AC Tryz.prog G 14 [.d (bK p),di m,.d (bX c)] Z R:=by
 have htn:=hp.sm.nthr
 have hnb:=hf.nbuf
 have isr:=is_r p hp m c hf
 have okr:=ok_r p hp.sm hp.nm
 have qr:=quiet_r c (by omega)
 have d1:decide (m<0)=false:=by simp;omega
 have d2:decide (m > 2)=false:=by simp;omega
 have d3:decide ((2:Int)<m)=false:=by simp;omega
 unfold bK bX at*
 refine bD [3] a9 Tryz.func14 rfl Tryz.ntmps14 (by simp only[go_sem]) λ hbd=> ?_
 simp only[ae,aj,Nat.reduceAdd,Nat.reduceSub,af,ag,ah,ak]
 simp only[go_sem,d1,d2,d3]
 refine bc (λ fr st=>fr=%[.o,di m,.o,.o,.o,.ref (Z.length+1) 0|D5 (D4 [])]∧st=Z++[bN p,some (.cells [.d (bu c.mem),.d (bu c.pos),.d (.sl 1 (c.buf.map cu))])]) ?_ ?_
 ·simp only[go_sem,d1,d2,d3]
  refine exs ⟨λ _=> ?_,λ q=>Bool.noConfusion q⟩
  refine bH (okr _ _ _ λ b hb=> ?_)
  rw[hb.2 hp.ok]
  simp only[go_sem,d3]
  refine exs ⟨λ _=> ?_,λ q=>Bool.noConfusion q⟩
  simp only[go_sem,d3]
  refine bH (isr _ _ _ ?_)
  try simp only[go_sem]
  exact Wk.mask [1,5] ⟨rfl,rfl⟩
 rintro fr st ⟨rfl,rfl⟩
 try simp only[go_sem]
 refine gO (.bool (fO c)) ⟨λ hg=> ?_,?_⟩
 ·simp only[go_sem]
  exact⟨hg,bH (qr _ _ _ ⟨rfl,rfl⟩)⟩
 try simp only[go_sem]
 have hq:(m !=0||fO c)=true:=by
  rcases Decidable.em (m=0)with z|z
  ·rw[(qT c).2 (hf.quiet z)];simp
  ·rw[show(m !=0)=true by simp [z]];rfl
 rw[hq]
 exact aQ hbd h
theorem sT{G:Glob}(hG:G.g 0=some cB)(p:Prg)(hp:Good p)(Z:St)(R:A→St→Prop)(h:R (.tup [di 0,di (-1),di (-1)]) Z):AC Tryz.prog G 60 [.d (bK p)] Z R:=by
 have htn:=hp.sm.nthr
 have li:=limits_p p hp.sm
 have ce:=cells_p p hp.sm hp.ok hp.nm
 have mo:=Dh hG p hp.sm hp.ok hp.nm
 have lo:=locks_p hG p hp.sm hp.ok
 have z0:((0:Int)!=0)=false:=rfl
 unfold bK at*
 refine iN [5,12] a9 Tryz.func60 rfl Tryz.ntmps60 (by simp only[go_sem]) λ hbd=> ?_
 simp only[ae,aj,Nat.reduceAdd,Nat.reduceSub,af,ag,ah,ak]
 try simp only[go_sem]
 refine bc (λ fr st=>fr=%[.o,.ref Z.length 0,.o,.o,.o,.ref (Z.length+1) 0|D6 (D5 (D4 [.o,.o,.o,.o]))]∧st=Z++[bN p,bN p]) ?_ ?_
 ·try simp only[go_sem]
  refine bH (li _ _ _ ?_)
  simp only[go_sem,z0]
  exact Wk.mask [1,5] ⟨rfl,rfl⟩
 rintro fr st ⟨rfl,rfl⟩
 refine bc (λ fr st=>fr=%[.o,.ref Z.length 0,.o,.o,.o,.ref (Z.length+1) 0|D6 (D5 (D4 [.o,.o,.o,.o]))]∧st=Z++[bN p,bN p]) ?_ ?_
 ·try simp only[go_sem]
  refine aS (λ k fr st=>∃j:Nat,j≤3∧k=3 - j∧fr=%[.o,.ref Z.length 0,.o,.o,.o,.ref (Z.length+1) 0|D5 (D4 %[.o,.o,.o,.agg [.fn (.func 95) [.d (D.agg [aY p.cells,D.sl 11 (List.map iH p.modules),D.sl 6 (List.map iZ p.locks),D.sl 7 (List.map c8 p.threads)])] [],.fn (.func 96) [.d (D.agg [aY p.cells,D.sl 11 (List.map iH p.modules),D.sl 6 (List.map iZ p.locks),D.sl 7 (List.map c8 p.threads)])] [],.fn (.func 97) [.d (D.agg [aY p.cells,D.sl 11 (List.map iH p.modules),D.sl 6 (List.map iZ p.locks),D.sl 7 (List.map c8 p.threads)])] []],dn j|D5 (D4 [.o,.o,.o,.o,.o,.o,.o])])]∧st=Z++[bN p,bN p]) 3 _ (Wk.mask [1,5,33,34] ⟨0,by omega,by omega,rfl,rfl⟩) ?_
  rintro k fr st ⟨j,hj,hk,rfl,rfl⟩
  have hj':j=0∨j=1∨j=2∨j=3:=by omega
  have n0:((0:Nat):Int)=0:=rfl
  have n1:((1:Nat):Int)=1:=rfl
  have n2:((2:Nat):Int)=2:=rfl
  have n3:((3:Nat):Int)=3:=rfl
  rcases hj' with rfl|rfl|rfl|rfl
  ·have dd:decide ((0:Int)<3)=true:=rfl
   have w:IntKind.i64.wrap ((0:Int)+1)=((1:Nat):Int):=rfl
   have wz:IntKind.i64.wrap 1=((1:Nat):Int):=rfl
   have i1:Int.toNat 1=1:=rfl
   have i2:Int.toNat 2=2:=rfl
   simp only[go_sem,n0,dd,i1,i2,bZ]
   refine⟨⟨by omega,by omega⟩,bH (ce _ _ _ ?_)⟩
   simp only[go_sem,n0,z0,w]
   exact Wk.mask [1,5,33,34] ⟨3 - 1,by omega,1,by omega,rfl,rfl,rfl⟩
  ·have dd:decide ((1:Int)<3)=true:=rfl
   have w:IntKind.i64.wrap ((1:Int)+1)=((2:Nat):Int):=rfl
   have wz:IntKind.i64.wrap 1=((1:Nat):Int):=rfl
   have i1:Int.toNat 1=1:=rfl
   have i2:Int.toNat 2=2:=rfl
   simp only[go_sem,n1,dd,i1,i2,bZ]
   refine⟨⟨by omega,by omega⟩,bH (mo _ _ ?_)⟩
   simp only[go_sem,n1,z0,w]
   exact Wk.mask [1,5,33,34] ⟨3 - 2,by omega,2,by omega,rfl,rfl,rfl⟩
  ·have dd:decide ((2:Int)<3)=true:=rfl
   have w:IntKind.i64.wrap ((2:Int)+1)=((3:Nat):Int):=rfl
   have wz:IntKind.i64.wrap 1=((1:Nat):Int):=rfl
   have i1:Int.toNat 1=1:=rfl
   have i2:Int.toNat 2=2:=rfl
   simp only[go_sem,n2,dd,i1,i2,bZ]
   refine⟨⟨by omega,by omega⟩,bH (lo _ _ ?_)⟩
   simp only[go_sem,n2,z0,w]
   exact Wk.mask [1,5,33,34] ⟨3 - 3,by omega,3,by omega,rfl,rfl,rfl⟩
  ·have dd:decide ((3:Int)<3)=false:=rfl
   simp only[go_sem,n3,dd]
   exact Wk.mask [1,5] ⟨rfl,rfl⟩
 rintro fr st ⟨rfl,rfl⟩
 simp only[go_sem,ac]
 refine aS (λ k fr st=>∃j:Nat,j≤p.threads.length∧k=p.threads.length - j∧fr=%[.o,.o,.o,.o,.o,.ref (Z.length+1) 0,.o,.o,.o,.o,.o,.mapr (Z.length+2)|D6 %[.o,.d (.sl 7 (p.threads.map c8)),dn p.threads.length,dn j|D5 [.o,.o]]]∧st=Z++[bN p,bN p,some (.map (lj ((p.threads.take j).map Thr.name)))]) p.threads.length _ (Wk.mask [5,11,45,46,47] ⟨0,by omega,by omega,rfl,rfl⟩) ?_
 rintro k fr st ⟨j,hj,hk,rfl,rfl⟩
 rcases aC j p.threads.length with hlt|hge
 ·have hd:decide ((j:Int)<(p.threads.length:Int))=true:=by simp;omega
  have w2:=bC j (by omega)
  have e1:=fe (l:=p.threads) hlt
  have hx:=hp.thr hlt
  have hs:=hp.thrS hlt
  have hnn:=hp.nm.threads _ (bv fg hlt)
  have hfr:(p.threads.getD j fg).name∉(p.threads.take j).map Thr.name:=nB fg hlt hp.ok.tnames
  have hsn:(p.threads.take (j+1)).map Thr.name=(p.threads.take j).map Thr.name++[(p.threads.getD j fg).name]:=by rw[bG fg hlt,aJ];rfl
  generalize p.threads.getD j fg=x at e1 hx hs hnn hfr hsn
  have th:=thread_p hG p hp.sm j x hx hs hnn _ hfr
  unfold bK at th
  simp only[c8]at th
  simp only[go_sem,c8,hd,w2,e1,ac,ad]
  refine⟨⟨by omega,by omega⟩,bH (th _ _ (by simp) _ ?_)⟩
  simp only[go_sem,z0,w2,←hsn,ac,ad]
  refine Wk.keep [5,11,45,46,47] [0,1,2] (by decide) (aE _) hbd ⟨p.threads.length - (j+1),by omega,j+1,by omega,rfl,by simp only[go_sem],by simp only[go_sem,nq]⟩
 ·have hd:decide ((j:Int)<(p.threads.length:Int))=false:=by simp;omega
  simp only[go_sem,hd,ac]
  exact dq hbd rfl h
theorem EntOk.isIn{p:Prg}{m:Int}{c:Cfg}(hp:Good p)(hf:Fits p m c){e:Ent}(he:EntOk p e):EntIn c.mem.length e:=by
 refine⟨he.len,?_,λ x hx=> ?_⟩
 ·have:=he.few;have:=hp.sm.ncel;omega
 ·obtain⟨i,hi⟩:=fT.1 hx
  have:=(eJ.1 (he.cell i x hi).1).1
  rw[hf.mem.len];exact this
theorem yj(p:Prg)(hp:Good p)(m:Int)(c:Cfg)(hf:Fits p m c)(t:Nat)(ht:t<p.threads.length)(Z:St)(G:Glob)(R:A→St→Prop)(h:R (.d (bu (cT c t))) Z):AC Tryz.prog G 74 [.d (bX c),dn t] Z R:=by
 have:=hp.sm.ncel
 have hb:=hf.bufOk t
 exact view_r c t (by rw[hf.nbuf];exact ht) (by rw[hf.mem.len];omega) (by omega) (λ e he=>EntOk.isIn hp hf (hb.2 e he)) Z G R h
theorem exit_r(p:Prg)(hp:Good p)(m:Int)(c:Cfg)(hf:Fits p m c)(t:Nat)(ht:t<p.threads.length)(Z:St)(G:Glob)(R:A→St→Prop)(h:R (db (c.pos.getD t 0==(p.thr t).points - 1)) Z):AC Tryz.prog G 110 [.d (bK p),.d (bX c),dn t] Z R:=by
 have hn:=hf.npos
 have ep:=bW (l:=c.pos) (j:=t) (by omega)
 have e2:=fe (l:=p.threads) ht
 have h1:=(hp.thr ht).points
 have h8:=(hp.thrS ht).points
 unfold Prg.thr at h
 generalize p.threads.getD t fg=x at e2 h1 h8 h
 generalize c.pos.getD t 0=v at ep h
 have ws:IntKind.i64.wrap (x.points - 1)=x.points - 1:=cq _ (by omega) (by omega)
 unfold bK bX
 refine bM a9 Tryz.func110 rfl Tryz.ntmps110 (by simp only[go_sem]) λ hbd=> ?_
 simp only[ae,aj,Nat.reduceAdd,Nat.reduceSub,af,ag,ah,ak]
 try simp only[go_sem]
 refine bb (.tk 14 0<| .done) (by kernel_rfl) ?_
 simp only[go_sem,bu,c8,ep,e2,ws,ac,ad]
 exact⟨⟨by omega,by omega⟩,⟨by omega,by omega⟩,aQ hbd h⟩
theorem exitZ_r(p:Prg)(hp:Good p)(m:Int)(c:Cfg)(hf:Fits p m c)(t:Int)(h0:0≤t)(ht:t<p.threads.length)(Z:St)(G:Glob)(R:A→St→Prop)(h:R (db (c.pos.getD t.toNat 0==(p.thr t.toNat).points - 1)) Z):AC Tryz.prog G 110 [.d (bK p),.d (bX c),di t] Z R:=by
 have hq:=exit_r p hp m c hf t.toNat (by omega) Z G R h
 unfold dn at hq
 rw[show((t.toNat:Nat):Int)=t by omega]at hq
 exact hq
theorem DB(p:Prg)(hp:Good p)(m:Int)(c:Cfg)(hf:Fits p m c)(t:Nat)(ht:t<p.threads.length)(s:Stp)(hs:s∈(p.thr t).steps)(Z:St)(G:Glob)(R:A→St→Prop)(h:R (db (qt p m c t s)) Z):AC Tryz.prog G 69 [.d (bK p),di m,.d (bX c),dn t,.d (eP s)] Z R:=by
 have hnp:=hf.npos
 have hnb:=hf.nbuf
 have hml:=hf.mem.len
 have hcn:=hp.sm.ncel
 have hso:=(hp.thr ht).steps s hs
 have hfew:=(hf.few t _ (cU [] (by omega:t<c.buf.length))).1
 have ep:=bW (l:=c.pos) (j:=t) (by omega)
 have eb:List.getD (c.buf.map cu) t default= .sl 2 ((c.bufAt t).map bO):=gH (l:=c.buf) (by omega)
 change (c.bufAt t).length≤3 at hfew
 have hvw:=yj p hp m c hf t ht
 have hvl:=(wT hf t).len
 have hgo:s.guard.Ok:=lF ((hp.thrS ht).steps s hs).guard
 have hgf:s.guard.formed=true:=by
  have:=hso.guard
  simp only[Ex.valid,aB]at this
  exact this.1
 have hev:=uu s.guard hgo hgf (cT c t) (cT c t) (by rw[hvl];simp only[reachBytes];omega) (by rw[hvl];simp only[reachBytes];omega)
 obtain⟨V,hV⟩:∃V,cT c t=V:=⟨_,rfl⟩
 rw[hV]at hvw hev
 obtain⟨B,hB⟩:∃B,c.bufAt t=B:=⟨_,rfl⟩
 rw[hB]at eb hfew
 obtain⟨v,hv⟩:∃v,c.pos.getD t 0=v:=⟨_,rfl⟩
 rw[hv]at ep
 have hen:qt p m c t s=(v==s.src&&mu V s.guard==1&&mX p m c t s):=by unfold qt;rw[hv,hV]
 rw[hen]at h
 unfold bK bX eD at*
 refine bD [4,15] a9 Tryz.func69 rfl Tryz.ntmps69 (by simp only[go_sem]) λ hbd=> ?_
 simp only[ae,aj,Nat.reduceAdd,Nat.reduceSub,af,ag,ah,ak]
 simp only[go_sem,eP]
 refine bH (hvw _ _ _ ?_)
 try simp only[go_sem]
 refine bc (λ fr st=>v=s.src∧mu V s.guard=1∧fr=%[.o,di m,.o,dn t,.o,.ref Z.length 0,.o,.ref (Z.length+1) 0,.o,.ref (Z.length+2) 0|D7 (D5 [.o,.o,.o,.o,.o,.o])]∧st=Z++[bN p,some (.cells [.d (bu c.mem),.d (bu c.pos),.d (.sl 1 (c.buf.map cu))]),gS s]) ?_ ?_
 ·try simp only[go_sem]
  refine bb (.tk 13 0<| .pure 13<| .tk 2 14<| .done) (by kernel_rfl) ?_
  simp only[go_sem,bu,ep,ac,ad]
  refine⟨⟨by omega,by omega⟩,Go.Ab.exQ (iD (mu V s.guard)) ⟨λ hg=> ?_,?_⟩⟩
  ·simp only[go_sem]
   exact⟨hg,λ Z'=>bH (hev _ _ _ ⟨rfl,rfl⟩)⟩
  try simp only[go_sem]
  refine⟨λ q=>aQ hbd ?_,λ q=>Wk.mask [1,3,5,7,9] ⟨?_,?_,rfl,rfl⟩⟩
  ·rw[show(v==s.src&&mu V s.guard==1&&mX p m c t s)=false by
    simp only[cd,bne_iff_ne]at q
    rw[fw]
    intro z
    simp only[aB,cg]at z
    rcases q with q|q
    ·exact q z.1.1
    ·exact q z.1.2]at h
   exact h
  ·simp only[bA,bne_eq_false_iff_eq]at q
   exact q.1
  ·simp only[bA,bne_eq_false_iff_eq]at q
   exact q.2
 rintro fr st ⟨h1,h2,rfl,rfl⟩
 rw[show(v==s.src&&mu V s.guard==1&&mX p m c t s)=mX p m c t s by rw[h1,h2];simp]at h
 unfold mX at h
 rw[hB]at h
 simp only[go_sem,bu,eb,ac,ad]
 refine⟨⟨by omega,by omega⟩,?_⟩
 have hq:((B.length:Int)==0)=B.isEmpty:=by cases B<;> simp;omega
 have htg:s.kind=6∨s.kind=7→kj s.target p.threads.length=true:=λ z=>by
  rcases hso.kind with q|q|q|q|q|q|q
  ·have:=q.1;omega
  ·have:=q.1;omega
  ·have:=q.1;omega
  ·have:=q.1;omega
  ·have:=q.1;omega
  ·exact q.2.2.2.1
  ·exact q.2.2.2.1
 refine bc (λ fr st=>(s.kind=4∨s.kind=5)∧fr=D4 %[.o,.o,.o,.o,dn B.length|D7 (D5 [.o,.o,.o])]∧st=Z) ?_ ?_
 ·have hk:s.kind=1∨s.kind=2∨s.kind=3∨s.kind=4∨s.kind=5∨s.kind=6∨s.kind=7:=by
   rcases hso.kind with q|q|q|q|q|q|q<;> have:=q.1<;> omega
  rcases hk with o|o|o|o|o|o|o<;> simp only[go_sem,o,Int.reduceBEq]<;> simp only[o,Int.reduceEq,if_true,if_false,false_or,or_false,or_self]at h
  ·exact aQ hbd h
  ·exact aQ hbd h
  ·refine⟨?_,?_,aQ hbd ?_⟩
   ·cases (m==0)<;> cases decide ((B.length:Int)<3)<;> cases s.rel<;> simp
   ·cases (m==0)<;> cases decide ((B.length:Int)<3)<;> simp
   ·rw[hq]
    have:(m==0||decide ((B.length:Int)<3)&&(!s.rel||B.isEmpty))=(m==0||if s.rel=true then B.isEmpty else decide (B.length<3)):=by
     rw[show decide ((B.length:Int)<3)=decide (B.length<3)by apply decide_eq_decide.2;omega]
     cases s.rel
     ·simp
     ·cases B<;> simp
    rw[this];exact h
  ·exact Wk.keep [12] [] (by decide) (aE _) hbd ⟨by trivial,by simp only[go_sem],by simp only[go_sem,bt]⟩
  ·exact Wk.keep [12] [] (by decide) (aE _) hbd ⟨by trivial,by simp only[go_sem],by simp only[go_sem,bt]⟩
  ·obtain⟨z1,z2⟩:0≤s.target∧s.target<p.threads.length:=by
    have:=htg (.inl o)
    simpa [kj]using this
   have et:=bW (l:=c.pos) (j:=s.target.toNat) (by omega)
   simp only[go_sem,et,hq,ac]
   exact⟨λ q=>⟨q,by omega,by omega⟩,aQ hbd h⟩
  ·obtain⟨z1,z2⟩:0≤s.target∧s.target<p.threads.length:=by
    have:=htg (.inr o)
    simpa [kj]using this
   have et:List.getD (c.buf.map cu) s.target.toNat default= .sl 2 ((c.bufAt s.target.toNat).map bO):=gH (l:=c.buf) (by omega)
   have ex:=exitZ_r p hp m c hf s.target z1 z2
   unfold bK bX at ex
   have hq2:(((c.bufAt s.target.toNat).length:Int)==0)=(c.bufAt s.target.toNat).isEmpty:=by cases c.bufAt s.target.toNat<;> simp;omega
   refine gO (.bool (c.pos.getD s.target.toNat 0==(p.thr s.target.toNat).points - 1)) ⟨λ hg=> ?_,?_⟩
   ·simp only[go_sem]
    exact⟨hg,bH (ex _ _ _ ⟨rfl,rfl⟩)⟩
   simp only[go_sem,et,hq,hq2,ac]
   exact⟨λ q=>⟨q,by omega,by omega⟩,aQ hbd h⟩
 rintro fr st ⟨o,rfl,rfl⟩
 rw[if_neg (by omega),if_pos o]at h
 simp only[go_sem,hq]
 exact cw h
theorem xg(n:Nat)(p:List Nat)(ds:List D):Go.Ab.ix n p (ds.map A.d)=ds.map A.d:=by
 induction ds with
 |nil=>rfl
 |cons x l ih=>simp only[aM,go_sem,ih]
theorem flat_ds(xs:List D):bU xs=(xs.flatMap D.cells).map A.d:=by
 induction xs with
 |nil=>rfl
 |cons x l ih=>simp [bU,cP,List.map_flatMap]
theorem cG(n:Nat)(p:List Nat)(xs:List D):Go.Ab.ix n p (bU xs)=bU xs:=by rw[flat_ds,xg]
theorem kZ(l:List Cho):mQ (bU (l.map c7)) 3 0 (l.map c7):=lx λ x hx=>by
 obtain⟨y,_,rfl⟩:=aI.1 hx
 refine⟨rfl,λ z hz=> ?_⟩
 simp only[c7,D.cells,aV,bi,or_false]at hz
 rcases hz with rfl|rfl|rfl<;> rfl
theorem lc(l:List Cho)(x:Cho):bU ((l++[x]).map c7)=bU (l.map c7)++[.d (iD x.thread),.d (iD x.step),.d (iD x.cell)]:=by
 rw[aJ,cZ];rfl
theorem fh(l:List Cho):(bU (l.map c7)).length=l.length*3:=by
 rw[mg (sz:=3),ac]
 intro x hx
 obtain⟨y,_,rfl⟩:=aI.1 hx
 rfl
theorem choT_len{p:Prg}(hp:Good p){m:Int}{c:Cfg}(hf:Fits p m c){t:Nat}(ht:t<p.threads.length):(lH p m c t).length≤13:=by
 have h1:=(hp.thrS ht).nst
 have h2:=(hf.bufOk t).1
 unfold lH ti z7
 rw[aF,ac,ac]
 have a:=ez (λ i=>qt p m c t (p.stp t i)) (List.range (p.thr t).steps.length)
 have b:=ez (eL m (c.bufAt t)) (List.range (c.bufAt t).length)
 rw[List.length_range]at a b
 change (p.thr t).steps.length≤10 at h1
 omega
theorem qa{p:Prg}(hp:Good p){m:Int}{c:Cfg}(hf:Fits p m c):∀{t:Nat},t≤p.threads.length→((List.range t).flatMap (lH p m c)).length≤t*13
 |0,_=>by simp
 |t+1,h=>by
  rw[eY,dB,aF]
  have:=qa hp hf (t:=t) (by omega)
  have:=choT_len hp hf (t:=t) (by omega)
  simp only[cP,List.flatMap_nil,bt]
  omega
def jx(L:List Cho)(f:Nat→Bool)(t i:Nat):List Cho:=L++((List.range i).filter f).map λ i:Nat=>(⟨(t:Int),(i:Int),0⟩:Cho)
def nQ(L:List Cho)(f:Nat→Bool)(B:List Ent)(t j:Nat):List Cho:=L++((List.range j).filter f).map λ i:Nat=>(⟨(t:Int),-1,(B.getD i cD).cells.getD 0 0⟩:Cho)
theorem mr(L:List Cho)(f:Nat→Bool)(t:Nat):jx L f t 0=L:=by simp [jx]
theorem oD(L:List Cho)(f:Nat→Bool)(B:List Ent)(t:Nat):nQ L f B t 0=L:=by simp [nQ]
theorem rJ(L:List Cho)(f:Nat→Bool)(t i:Nat):jx L f t (i+1)=if f i=true then jx L f t i++[(⟨(t:Int),(i:Int),0⟩:Cho)]else jx L f t i:=by
 unfold jx
 rw[eY,du,aJ,←aU]
 cases h:f i<;> simp [h]
theorem rK(L:List Cho)(f:Nat→Bool)(B:List Ent)(t i:Nat):nQ L f B t (i+1)=if f i=true then nQ L f B t i++[(⟨(t:Int),-1,(B.getD i cD).cells.getD 0 0⟩:Cho)]else nQ L f B t i:=by
 unfold nQ
 rw[eY,du,aJ,←aU]
 cases h:f i<;> simp [h]
theorem nP(L:List Cho)(f:Nat→Bool)(t i:Nat):(jx L f t i).length≤L.length+i:=by
 unfold jx
 rw[aF,ac]
 have:=ez f (List.range i)
 rw[List.length_range]at this
 omega
theorem Aq(L:List Cho)(f:Nat→Bool)(B:List Ent)(t i:Nat):(nQ L f B t i).length≤L.length+i:=by
 unfold nQ
 rw[aF,ac]
 have:=ez f (List.range i)
 rw[List.length_range]at this
 omega
theorem Aa(p:Prg)(m:Int)(c:Cfg)(t:Nat)(L:List Cho):L++lH p m c t=nQ (jx L (λ i=>qt p m c t (p.stp t i)) t (p.thr t).steps.length) (eL m (c.bufAt t)) (c.bufAt t) t (c.bufAt t).length:=by
 unfold nQ jx lH ti z7
 rw[aU]
abbrev jE(l:List Cho):Option Ob:=some (.cells (bU (l.map c7)))
abbrev dy(c:Cfg):Option Ob:=some (.cells [.d (bu c.mem),.d (bu c.pos),.d (.sl 1 (c.buf.map cu))])
theorem rO(p:Prg)(hp:Good p)(m:Int)(hm:0≤m∧m≤2)(c:Cfg)(hf:Fits p m c)(Z:St)(G:Glob)(R:A→St→Prop)(h:R (.d (.sl 3 ((fY p m c).map c7))) Z):AC Tryz.prog G 33 [.d (bK p),di m,.d (bX c)] Z R:=by
 have fi:=Bh p hp m hm c hf
 have htn:=hp.sm.nthr
 have en:=λ t ht s hs=>DB p hp m c hf t ht s hs
 have hpl:=λ t (ht:t≤p.threads.length)=>qa hp hf (t:=t) ht
 unfold fY at h
 unfold bK bX at*
 refine bD [3,12] a9 Tryz.func33 rfl Tryz.ntmps33 (by simp only[go_sem]) λ hbd=> ?_
 simp only[ae,aj,Nat.reduceAdd,Nat.reduceSub,af,ag,ah,ak]
 try simp only[go_sem]
 refine bc (λ fr st=>fr=%[.o,di m,.o,.ref Z.length 0,.o,.ref (Z.length+1) 0|D7 (D5 [.o,.o,.o])]∧st=Z++[bN p,dy c]) ?_ ?_
 ·try simp only[go_sem]
  refine bH (fi _ _ _ ?_)
  try simp only[go_sem]
  exact Wk.mask [1,3,5] ⟨rfl,rfl⟩
 rintro fr st ⟨rfl,rfl⟩
 simp only[go_sem,ac]
 refine aS (λ k fr st=>∃t:Nat,t≤p.threads.length∧k=p.threads.length - t∧fr=%[.o,di m,.o,.ref Z.length 0,.o,.ref (Z.length+1) 0,.o,.rs (Z.length+2) 3 0 ((List.range t).flatMap (lH p m c)).length (some 37),dn t|D7 (D5 [])]∧st=Z++[bN p,dy c,jE ((List.range t).flatMap (lH p m c))]) p.threads.length _ ?_ ?_
 ·exact⟨_,_,(bw.mask [1,3,5,7,8]).trans (bw.empty 7 3 (some 37) rfl),0,by omega,by omega,by rw[aF];rfl,by simp [bU]⟩
 rintro k fr st ⟨t,ht,hk,rfl,rfl⟩
 obtain⟨L0,hL0⟩:∃L0,(List.range t).flatMap (lH p m c)=L0:=⟨_,rfl⟩
 have hl0:=hpl t ht
 rw[hL0]at hl0
 rw[hL0]
 rcases aC t p.threads.length with hlt|hge
 ·have hd:decide ((t:Int)<(p.threads.length:Int))=true:=by simp;omega
  have w2:=bC t (by omega)
  have e2:=fe (l:=p.threads) hlt
  have hsz:=(hp.thrS hlt).nst
  have hL1:(List.range (t+1)).flatMap (lH p m c)=nQ (jx L0 (λ i=>qt p m c t (p.stp t i)) t (p.thr t).steps.length) (eL m (c.bufAt t)) (c.bufAt t) t (c.bufAt t).length:=by rw[eY,dB,hL0,←Aa];simp
  have en:=en t hlt
  have hxs:p.thr t=p.threads.getD t fg:=rfl
  rw[hxs]at en
  have hst:(λ i=>qt p m c t (p.stp t i))=λ i=>qt p m c t ((p.threads.getD t fg).steps.getD i jY):=rfl
  rw[hxs,hst]at hL1
  generalize p.threads.getD t fg=x at e2 hsz en hL1
  obtain⟨f,hfd⟩:∃f:Nat→Bool,(λ i=>qt p m c t (x.steps.getD i jY))=f:=⟨_,rfl⟩
  have hfa:∀i,qt p m c t (x.steps.getD i jY)=f i:=λ i=>congrFun hfd i
  rw[hfd]at hL1
  simp only[go_sem,hd,ac]
  refine bc (λ fr st=>fr=%[.o,di m,.o,.ref Z.length 0,.o,.ref (Z.length+1) 0,.o,.rs (Z.length+2) 3 0 (jx L0 f t x.steps.length).length (some 37),dn t|D7 (D5 [])]∧st=Z++[bN p,dy c,jE (jx L0 f t x.steps.length)]) ?_ ?_
  ·simp only[go_sem,c8,e2,ac,ad]
   refine aS (λ k fr st=>∃i:Nat,i≤x.steps.length∧k=x.steps.length - i∧fr=%[.o,di m,.o,.ref Z.length 0,.o,.ref (Z.length+1) 0,.o,.rs (Z.length+2) 3 0 (jx L0 f t i).length (some 37),dn t,dn i|D7 (D4 [.o,.o,.o,.o,.o,.o,.o])]∧st=Z++[bN p,dy c,jE (jx L0 f t i)]) x.steps.length _ (Wk.mask [1,3,5,7,8,9] ⟨0,by omega,by omega,by rw[mr];rfl,by rw[mr]⟩) ?_
   rintro k2 fr st ⟨i,hi,hk2,rfl,rfl⟩
   have hsnoc:=rJ L0 f t i
   have hl1:=nP L0 f t i
   rcases aC i x.steps.length with hl2|hg2
   ·have hd2:decide ((i:Int)<(x.steps.length:Int))=true:=by simp;omega
    have w3:=bC i (by omega)
    have e3:=mw (l:=x.steps) hl2
    have hen:=en _ (bv jY hl2)
    rw[hfa i]at hen
    generalize x.steps.getD i jY=s at e3 hen
    unfold eP at hen
    have hfl:=fh (jx L0 f t i)
    simp only[go_sem,c8,e2,hd2,ac,ad]
    refine⟨⟨by omega,by omega⟩,?_⟩
    refine bb (.tk 14 0<| .done) (by kernel_rfl) ?_
    simp only[go_sem,c8,e2,e3,eP,hd2,ac,ad]
    refine⟨⟨by omega,by omega⟩,⟨by omega,by omega⟩,bH (hen _ _ _ ?_)⟩
    simp only[go_sem,w3]
    refine⟨λ q=> ?_,λ q=> ?_⟩
    ·rw[if_pos q]at hsnoc
     refine⟨⟨hfl,by simp only[maxLen];omega,by omega⟩,Wk.keep [1,3,5,7,8,9] [0,1,4] (by decide) (aE _) hbd ⟨x.steps.length - (i+1),by omega,i+1,by omega,rfl,?_,?_⟩⟩
     ·rw[hsnoc];simp only[go_sem,aF,ae,aj]
     ·rw[hsnoc,jE,lc];simp only[go_sem,dj,cG]
    ·rw[q,if_neg cX]at hsnoc
     exact Wk.mask [1,3,5,7,8,9] ⟨x.steps.length - (i+1),by omega,i+1,by omega,rfl,by rw[hsnoc];rfl,by rw[hsnoc]⟩
   ·have hd2:decide ((i:Int)<(x.steps.length:Int))=false:=by simp;omega
    simp only[go_sem,c8,e2,hd2,ac,ad]
    have:i=x.steps.length:=by omega
    subst this
    exact⟨⟨by omega,by omega⟩,Wk.mask [1,3,5,7,8] ⟨rfl,rfl⟩⟩
  rintro fr st ⟨rfl,rfl⟩
  obtain⟨L1,hL1e⟩:∃L1,jx L0 f t x.steps.length=L1:=⟨_,rfl⟩
  have hl1:=nP L0 f t x.steps.length
  rw[hL1e]at hl1 hL1
  rw[hL1e]
  have eb:List.getD (c.buf.map cu) t default= .sl 2 ((c.bufAt t).map bO):=gH (l:=c.buf) (by rw[hf.nbuf];exact hlt)
  have hB3:=hf.bufOk t
  have hnb:=hf.nbuf
  have hcn:=hp.sm.ncel
  obtain⟨B,hB⟩:∃B,c.bufAt t=B:=⟨_,rfl⟩
  rw[hB]at eb hB3 hL1
  have hrd:=λ i (hi:i<B.length)=>ready_r m B (by omega) (λ e he=>by have:=(hB3.2 e he).few;omega) i hi
  unfold cu at hrd
  simp only[go_sem,eb,ac,ad]
  refine aS (λ k fr st=>∃j:Nat,j≤B.length∧k=B.length - j∧fr=%[.o,di m,.o,.ref Z.length 0,.o,.ref (Z.length+1) 0,.o,.rs (Z.length+2) 3 0 (nQ L1 (eL m B) B t j).length (some 37),dn t,.o,dn j|D7 (D4 [.o,.o,.o,.o,.o,.o])]∧st=Z++[bN p,dy c,jE (nQ L1 (eL m B) B t j)]) B.length _ (Wk.mask [1,3,5,7,8,10] ⟨0,by omega,by omega,by rw[oD];rfl,by rw[oD]⟩) ?_
  rintro k2 fr st ⟨j,hj,hk2,rfl,rfl⟩
  have hsnoc:=rK L1 (eL m B) B t j
  have hl2:=Aq L1 (eL m B) B t j
  rcases aC j B.length with hlj|hgj
  ·have hd2:decide ((j:Int)<(B.length:Int))=true:=by simp;omega
   have w3:=bC j (by omega)
   have e3:=gG (l:=B) hlj
   have hrj:=hrd j hlj
   have hep:=(hB3.2 _ (bv cD hlj)).pos
   generalize B.getD j cD=E at e3 hsnoc hep
   have hE:0<E.cells.length:=List.length_pos_iff.2 hep
   have e4:=bW (l:=E.cells) hE
   have hfl:=fh (nQ L1 (eL m B) B t j)
   simp only[go_sem,eb,hd2,ac,ad]
   refine⟨⟨by omega,by omega⟩,⟨by omega,by omega⟩,bH (hrj _ _ _ ?_)⟩
   simp only[go_sem,w3,bu,eb,e3,bO,e4,ac,ad,bZ]
   refine⟨λ q=> ?_,λ q=> ?_⟩
   ·rw[if_pos q]at hsnoc
    refine⟨⟨by omega,by omega⟩,⟨by omega,by omega⟩,⟨by omega,by omega⟩,?_⟩
    refine⟨⟨hfl,by simp only[maxLen];omega,by omega⟩,Wk.keep [1,3,5,7,8,10] [0,1,4] (by decide) (aE _) hbd ⟨B.length - (j+1),by omega,j+1,by omega,rfl,?_,?_⟩⟩
    ·rw[hsnoc];simp only[go_sem,aF,ae,aj]
    ·rw[hsnoc,jE,lc];simp only[go_sem,dj,cG]
   ·rw[q,if_neg cX]at hsnoc
    exact Wk.mask [1,3,5,7,8,10] ⟨B.length - (j+1),by omega,j+1,by omega,rfl,by rw[hsnoc];rfl,by rw[hsnoc]⟩
  ·have hd2:decide ((j:Int)<(B.length:Int))=false:=by simp;omega
   simp only[go_sem,eb,hd2,w2,ac,ad]
   have:j=B.length:=by omega
   subst this
   exact⟨⟨by omega,by omega⟩,Wk.mask [1,3,5,7,8] ⟨p.threads.length - (t+1),by omega,t+1,by omega,rfl,by rw[hL1];rfl,by rw[hL1]⟩⟩
 ·have hd:decide ((t:Int)<(p.threads.length:Int))=false:=by simp;omega
  have:t=p.threads.length:=by omega
  subst this
  rw[hL0]at h
  simp only[go_sem,hd,ac]
  refine de 2 3 0 (L0.map c7) rfl (kZ L0) ?_
  simp only[go_sem,ac]
  exact aQ hbd h
theorem eq_cho(a b c d e f:Int):jg [PK.int,PK.int,PK.int] [iD a,iD b,iD c] [iD d,iD e,iD f]=some ((a==d)&&((b==e)&&((c==f)&&true))):=by
 simp [jg,eqD1]
theorem has_r(l:List Cho)(hl:l.length≤1000)(x:Cho)(hx:x∈l)(Z:St)(G:Glob)(R:A→St→Prop)(h:R (db true) Z):AC Tryz.prog G 71 [.d (.sl 3 (l.map c7)),.d (c7 x)] Z R:=by
 unfold c7
 refine bg a9 Tryz.func71 rfl Tryz.ntmps71 (by simp only[go_sem]) λ hbd=> ?_
 simp only[ae,aj,Nat.reduceAdd,Nat.reduceSub,af,ag,ah,ak]
 simp only[go_sem,ac]
 refine aS (λ k fr st=>∃j:Nat,j≤l.length∧k=l.length - j∧(x∉l.take j)∧fr=%[.d (.sl 3 (l.map c7)),.o,.o,.ref Z.length 0,.o,dn j|D4 [.o,.o,.o,.o]]∧st=Z++[some (.cells [.d (iD x.thread),.d (iD x.step),.d (iD x.cell)])]) l.length _ (Wk.mask [0,3,5] ⟨0,by omega,by omega,by simp,rfl,rfl⟩) ?_
 rintro k fr st ⟨j,hj,hk,hno,rfl,rfl⟩
 rcases aC j l.length with hlt|hge
 ·have hd:decide ((j:Int)<(l.length:Int))=true:=by simp;omega
  have w2:=bC j (by omega)
  have e1:=uF (l:=l) hlt
  have ht:x∈l.take (j+1)→x∈l.take j∨x=l.getD j fE:=λ ho=>gz fE hlt ho
  generalize l.getD j fE=y at e1 ht
  simp only[go_sem,hd,w2,e1,c7,ac,ad]
  simp only[eq_cho,go_sem]
  refine⟨⟨by omega,by omega⟩,λ q=>aQ hbd h,λ q=>Wk.mask [0,3,5] ⟨l.length - (j+1),by omega,j+1,by omega,rfl,λ z=> ?_,rfl,rfl⟩⟩
  rcases ht z with z|z
  ·exact hno z
  ·subst z
   simp at q
 ·rw[aK hge]at hno
  exact absurd hx hno
theorem vD(v m:List Int)(l:List Asg)(j:Nat)(h:j<l.length):gT v m (l.take (j+1))=(gT v m (l.take j)).set (l.getD j dt).cell.toNat (mu v (l.getD j dt).to):=by
 rw[bG dt h]
 unfold gT
 rw[dG];rfl
theorem j0(v m:List Int)(l:List Asg):(gT v m l).length=m.length:=by
 unfold gT
 induction l generalizing m with
 |nil=>rfl
 |cons q l ih=>rw[cc,ih,aH]
structure AsgIn (n:Nat) (a:Asg):Prop where
 cell:0≤a.cell∧a.cell<n
 ok:a.to.Ok
 formed:a.to.formed=true
theorem write_r(m v:List Int)(hm:m.length≤1000)(hv:v.length≤1000)(l:List Asg)(hl:l.length≤100)(ha:∀a∈l,AsgIn m.length a)(Z:St)(G:Glob)(R:A→St→Prop)(h:R (.d (bu (gT v m l))) Z):AC Tryz.prog G 75 [.d (bu m),.d (bu v),.d (.sl 5 (l.map dM))] Z R:=by
 refine bM a9 Tryz.func75 rfl Tryz.ntmps75 (by simp only[go_sem]) λ hbd=> ?_
 simp only[ae,aj,Nat.reduceAdd,Nat.reduceSub,af,ag,ah,ak]
 try simp only[go_sem]
 refine bH (ml m hm _ _ _ ?_)
 simp only[go_sem,ac]
 refine aS (λ k fr st=>∃j:Nat,j≤l.length∧k=l.length - j∧fr=%[.o,.d (bu v),.d (.sl 5 (l.map dM)),.o,.o,.o,.o,.rs Z.length 1 0 m.length (some 3),dn j|D5 (D4 [])]∧st=Z++[bY (gT v m (l.take j))]) l.length _ (Wk.mask [1,2,7,8] ⟨0,by omega,by omega,rfl,rfl⟩) ?_
 rintro k fr st ⟨j,hj,hk,rfl,rfl⟩
 have hsl:=j0 v m (l.take j)
 rcases aC j l.length with hlt|hge
 ·have hd:decide ((j:Int)<(l.length:Int))=true:=by simp;omega
  have w2:=bC j (by omega)
  have e1:=iP (l:=l) hlt
  obtain⟨hc,hok,hfo⟩:=ha _ (bv dt hlt)
  have hs:=vD v m l j hlt
  generalize l.getD j dt=a at e1 hc hok hfo hs
  have hset:=kH (l:=gT v m (l.take j)) (j:=a.cell.toNat) (mu v a.to) (by omega)
  rw[←hs]at hset
  have hev:=uu a.to hok hfo v v (by simp only[reachBytes];omega) (by simp only[reachBytes];omega)
  unfold eD at hev
  simp only[go_sem,hd,ac,ad]
  refine bb (.tk 3 0<| .tk 7 6<| .pure 13<| .tk 3 3<| .tk 2 14<| .done) (by kernel_rfl) ?_
  simp only[go_sem,e1,dM,ac,ad]
  refine⟨⟨by omega,by omega⟩,mN (di (mu v a.to)) ⟨λ Z'=>bH (hev _ _ _ ⟨rfl,rfl⟩),?_⟩⟩
  simp only[bY,go_sem,e1,dM,w2,ac,hsl,hset,ad,br,ci]
  exact⟨⟨by omega,by omega⟩,⟨by omega,by omega⟩,by omega,Wk.mask [1,2,7,8] ⟨l.length - (j+1),by omega,j+1,by omega,rfl,rfl,rfl⟩⟩
 ·have hd:decide ((j:Int)<(l.length:Int))=false:=by simp;omega
  rw[aK hge]at hsl ⊢
  simp only[go_sem,hd,ac]
  refine de 0 1 0 ((gT v m l).map iD) rfl (cJ _) ?_
  simp only[go_sem,ac]
  rw[if_pos (j0 v m l).symm]
  exact aQ hbd h
def fB(l:List (List Ent))(i:Nat):List A:=(l.take i).map (λ b=>A.d (cu b))++List.replicate (l.length - i) (A.d .nils)
theorem rG(l:List (List Ent))(i:Nat)(h:i≤l.length):(fB l i).length=l.length:=by
 simp only[fB,aF,ac,aP,fd];omega
theorem rF(l:List (List Ent))(i:Nat)(h:i<l.length):(fB l i)[i]? =some (A.d .nils):=by
 unfold fB
 rw[az (by rw[ac,aP];omega),gK,if_pos (by rw[ac,aP];omega)]
theorem pJ(l:List (List Ent))(i:Nat)(h:i<l.length):(fB l i).set i (A.d (cu (l.getD i [])))=fB l (i+1):=by
 unfold fB
 rw[Er _ _ (by rw[ac,aP];omega),bG [] h,aJ,aU]
 congr 1
 obtain⟨n,hn⟩:∃n,l.length - i=n+1:=⟨l.length - i - 1,by omega⟩
 rw[hn,show l.length - (i+1)=n by omega,show i - ((l.take i).map λ b=>A.d (cu b)).length=0 by simp;omega]
 rfl
theorem pK(l:List (List Ent)):fB l l.length=l.map λ b=>A.d (cu b):=by
 unfold fB
 simp
theorem dK(n:Nat)(p:List Nat):∀(l:List A),(∀x∈l,∃d,x=A.d d)→Go.Ab.ix n p l=l:=λ l h=>by
 induction l with
 |nil=>rfl
 |cons x l ih=>
  obtain⟨d,rfl⟩:=h x (by simp)
  simp only[go_sem,ih λ y hy=>h y (by simp [hy])]
theorem oA(l:List (List Ent))(i:Nat):∀x∈fB l i,∃d,x=A.d d:=λ x hx=>by
 unfold fB at hx
 rcases aW.1 hx with q|q
 ·obtain⟨b,_,rfl⟩:=aI.1 q;exact⟨_,rfl⟩
 ·exact⟨_,(fR.1 q).2⟩
abbrev wA(l:List (List Ent)):Option Ob:=some (.cells (l.map λ b=>A.d (cu b)))
structure CfgSz (c:Cfg):Prop where
 mem:c.mem.length≤1000
 pos:c.pos.length≤1000
 buf:c.buf.length≤1000
 few:∀l∈c.buf,l.length≤1000∧∀e∈l,e.cells.length≤1000∧e.vals.length≤1000
theorem mW{α:Type}(d:α){l k:List α}(hl:l.length=k.length)(h:∀i,i<l.length→l.getD i d=k.getD i d):l=k:=by
 apply List.ext_getElem hl
 intro i h1 h2
 have:=h i h1
 rwa [au,au,ap h1,ap h2]at this
theorem Ent.eq_of{a b:Ent}(h1:a.cells=b.cells)(h2:a.vals=b.vals):a=b:=by
 cases a;cases b;simp_all
theorem same_r(c d:Cfg)(hc:CfgSz c)(hd:CfgSz d)(Z:St)(G:Glob)(R:A→St→Prop)(h:R (db (decide (c=d))) Z):AC Tryz.prog G 15 [.d (bX c),.d (bX d)] Z R:=by
 have c1:=hc.mem
 have c2:=hc.pos
 have c3:=hc.buf
 have d1:=hd.mem
 have d2:=hd.pos
 have d3:=hd.buf
 unfold bX
 refine bD [3] a9 Tryz.func15 rfl Tryz.ntmps15 (by simp only[go_sem]) λ hbd=> ?_
 simp only[ae,aj,Nat.reduceAdd,Nat.reduceSub,af,ag,ah,ak]
 simp only[go_sem,ac]
 refine bc (λ fr st=>c.mem=d.mem∧c.pos=d.pos∧c.buf.length=d.buf.length∧fr=%[.o,.o,.ref Z.length 0,.ref (Z.length+1) 0|D7 (D6 [.o,.o])]∧st=Z++[dy c,dy d]) ?_ ?_
 ·simp only[go_sem,ac]
  refine bH (qj c.mem d.mem (by simp only[reachBytes];omega) (by simp only[reachBytes];omega) _ _ _ ?_)
  simp only[go_sem,ac]
  refine gO (.bool (c.pos==d.pos)) ⟨λ hg=> ?_,?_⟩
  ·simp only[go_sem]
   exact⟨hg,bH (qj c.pos d.pos (by simp only[reachBytes];omega) (by simp only[reachBytes];omega) _ _ _ ⟨rfl,rfl⟩)⟩
  simp only[go_sem,ac]
  refine⟨λ q=>by cases hq:(c.mem==d.mem)<;> simp_all,λ q=>aQ hbd ?_,λ q=>Wk.mask [2,3] ⟨?_,?_,?_,rfl,rfl⟩⟩
  ·rw[show decide (c=d)=false by
    rw[ay];intro z;subst z;simp at q]at h
   exact h
  all_goals simp only[bA,cF,cg,bne_eq_false_iff_eq]at q
  ·exact q.1.1
  ·exact q.1.2
  ·have:=q.2;omega
 rintro fr st ⟨e1,e2,e3,rfl,rfl⟩
 simp only[go_sem,ac]
 have hfin:(∀i,i<c.buf.length→c.buf.getD i []=d.buf.getD i [])→decide (c=d)=true:=λ z=>by
  rw[av]
  have:=mW [] e3 z
  cases c;cases d;simp_all
 have hneg:∀i,i<c.buf.length→c.buf.getD i []≠d.buf.getD i []→decide (c=d)=false:=λ i _ z=>by
  rw[ay];intro q;subst q;exact z rfl
 refine aS (λ k fr st=>∃j:Nat,j≤c.buf.length∧k=c.buf.length - j∧(∀i,i<j→c.buf.getD i []=d.buf.getD i [])∧fr=%[.o,.o,.ref Z.length 0,.ref (Z.length+1) 0,.o,dn j|D7 (D6 [])]∧st=Z++[dy c,dy d]) c.buf.length _ (Wk.mask [2,3,5] ⟨0,by omega,by omega,λ i hi=>absurd hi (by omega),rfl,rfl⟩) ?_
 rintro k fr st ⟨j,hj,hk,heq,rfl,rfl⟩
 rcases aC j c.buf.length with hlt|hge
 ·have hdd:decide ((j:Int)<(c.buf.length:Int))=true:=by simp;omega
  have w2:=bC j (by omega)
  have eb:List.getD (c.buf.map cu) j default= .sl 2 ((c.buf.getD j []).map bO):=gH (l:=c.buf) hlt
  have ed':List.getD (d.buf.map cu) j default= .sl 2 ((d.buf.getD j []).map bO):=gH (l:=d.buf) (by omega)
  obtain⟨sb,sbe⟩:=hc.few _ (bv [] hlt)
  obtain⟨sd,sde⟩:=hd.few _ (bv [] (by omega:j<d.buf.length))
  have hn:=hneg j hlt
  have hs:c.buf.getD j []=d.buf.getD j []→∀i,i<j+1→c.buf.getD i []=d.buf.getD i []:=λ z i hi=>by
   rcases aC i j with q|q
   ·exact heq i q
   ·rw[show i=j by omega];exact z
  generalize c.buf.getD j []=B at eb sb sbe hn hs
  generalize d.buf.getD j []=K at ed' sd sde hn hs
  simp only[go_sem,hdd,ac]
  refine bb (.tk 13 0<| .done) (by kernel_rfl) ?_
  simp only[go_sem,eb,ed',ac,ad]
  refine⟨⟨by omega,by omega⟩,⟨by omega,by omega⟩,λ q=>aQ hbd ?_,λ q=> ?_⟩
  ·rw[hn (λ z=>by subst z;simp at q)]at h;exact h
  have hlen:B.length=K.length:=by
   rw[bne_eq_false_iff_eq]at q;omega
  refine aS (λ k fr st=>∃i:Nat,i≤B.length∧k=B.length - i∧(∀x,x<i→B.getD x cD=K.getD x cD)∧fr=%[.o,.o,.ref Z.length 0,.ref (Z.length+1) 0,.o,dn j,dn i|D7 (D5 (D4 [.o,.o,.o,.o,.o,.o,.o]))]∧st=Z++[dy c,dy d]) B.length _ (Wk.mask [2,3,5,6] ⟨0,by omega,by omega,λ i hi=>absurd hi (by omega),rfl,rfl⟩) ?_
  rintro k2 fr st ⟨i,hi,hk2,heq2,rfl,rfl⟩
  rcases aC i B.length with hl2|hg2
  ·have hd2:decide ((i:Int)<(B.length:Int))=true:=by simp;omega
   have w3:=bC i (by omega)
   have ei:=gG (l:=B) hl2
   have ek:=gG (l:=K) (j:=i) (by omega)
   obtain⟨x1,x2⟩:=sbe _ (bv cD hl2)
   obtain⟨y1,y2⟩:=sde _ (bv cD (by omega:i<K.length))
   have hne:B.getD i cD≠K.getD i cD→decide (c=d)=false:=λ z=>hn λ z2=>by subst z2;exact z rfl
   have hs2:B.getD i cD=K.getD i cD→∀x,x<i+1→B.getD x cD=K.getD x cD:=λ z x hx=>by
    rcases aC x i with q|q
    ·exact heq2 x q
    ·rw[show x=i by omega];exact z
   generalize B.getD i cD=E at ei x1 x2 hne hs2
   generalize K.getD i cD=F at ek y1 y2 hne hs2
   simp only[go_sem,eb,ed',hd2,ac,ad]
   refine⟨⟨by omega,by omega⟩,?_⟩
   refine bb (.tk 18 0<| .pure 18<| .tk 20 19<| .pure 39<| .tk 2 40<| .done) (by kernel_rfl) ?_
   simp only[go_sem,eb,ed',ei,ek,bO,ac,ad]
   refine⟨⟨by omega,by omega⟩,⟨by omega,by omega⟩,⟨by omega,by omega⟩,⟨by omega,by omega⟩,mN (db (E.cells==F.cells)) ⟨λ Z'=> ?_,?_⟩⟩
   ·exact bH (qj E.cells F.cells (by simp only[reachBytes];omega) (by simp only[reachBytes];omega) _ _ _ ⟨rfl,rfl⟩)
   simp only[go_sem,eb,ed',ei,ek,bO,ac,ad]
   refine⟨λ q=>⟨q,by omega,by omega⟩,λ q=>⟨q,by omega,by omega⟩,λ q=>⟨q,by omega,by omega⟩,λ q=>⟨q,by omega,by omega⟩,Go.Ab.exQ (.bool (E.vals==F.vals)) ⟨λ hg=> ?_,?_⟩⟩
   ·simp only[go_sem]
    exact⟨hg,λ Z'=>bH (qj E.vals F.vals (by simp only[reachBytes];omega) (by simp only[reachBytes];omega) _ _ _ ⟨rfl,rfl⟩)⟩
   simp only[go_sem,w3]
   refine⟨λ q=>by cases hq:(E.cells==F.cells)<;> simp_all,λ q=>aQ hbd ?_,λ q=>Wk.mask [2,3,5,6] ⟨B.length - (i+1),by omega,i+1,by omega,rfl,?_,rfl,rfl⟩⟩
   ·rw[hne (λ z=>by subst z;simp at q)]at h;exact h
   ·simp only[bA,cF,cg]at q
    exact hs2 (Ent.eq_of q.1 q.2)
  ·have hd2:decide ((i:Int)<(B.length:Int))=false:=by simp;omega
   have hBK:B=K:=mW cD hlen λ x hx=>heq2 x (by omega)
   simp only[go_sem,eb,ed',hd2,w2,ac,ad]
   exact⟨⟨by omega,by omega⟩,Wk.mask [2,3,5] ⟨c.buf.length - (j+1),by omega,j+1,by omega,rfl,hs hBK,rfl,rfl⟩⟩
 ·have hdd:decide ((j:Int)<(c.buf.length:Int))=false:=by simp;omega
  rw[hfin λ i hi=>heq i (by omega)]at h
  simp only[go_sem,hdd,ac]
  exact aQ hbd h
theorem pE{l:List Cfg}{j:Nat}(h:j<l.length):List.getD (l.map bX) j default=bX (l.getD j jm):=dQ h
theorem FH(c:Cfg)(hm:c.mem.length≤40)(hp:c.pos.length≤8)(hb:c.buf.length≤8)(hf:∀l∈c.buf,l.length≤6∧∀e∈l,e.cells.length≤40∧e.vals.length≤40)(Z:St)(G:Glob)(R:A→St→Prop)(h:R (db true) Z):AC Tryz.prog G 13 [.d (bX c)] Z R:=by
 have n1:decide ((40:Int)<(c.mem.length:Int))=false:=by simp;omega
 have n2:decide ((8:Int)<(c.pos.length:Int))=false:=by simp;omega
 have n3:decide ((8:Int)<(c.buf.length:Int))=false:=by simp;omega
 unfold bX
 refine bD [3] a9 Tryz.func13 rfl Tryz.ntmps13 (by simp only[go_sem]) λ hbd=> ?_
 simp only[ae,aj,Nat.reduceAdd,Nat.reduceSub,af,ag,ah,ak]
 simp only[go_sem,bu,n1,n2,n3,ac]
 refine bc (λ fr st=>fr=%[.o,.ref Z.length 0|D7 [.o,.o,.o]]∧st=Z++[dy c]) ?_ ?_
 ·simp only[go_sem,bu,n1,n2,n3,ac]
  exact Wk.mask [1] ⟨rfl,rfl⟩
 rintro fr st ⟨rfl,rfl⟩
 simp only[go_sem,ac]
 refine aS (λ k fr st=>∃j:Nat,j≤c.buf.length∧k=c.buf.length - j∧fr=%[.o,.ref Z.length 0,.o,dn j|D7 [.o]]∧st=Z++[dy c]) c.buf.length _ (Wk.mask [1,3] ⟨0,by omega,by omega,rfl,rfl⟩) ?_
 rintro k fr st ⟨j,hj,hk,rfl,rfl⟩
 rcases aC j c.buf.length with hlt|hge
 ·have hdd:decide ((j:Int)<(c.buf.length:Int))=true:=by simp;omega
  have w2:=bC j (by omega)
  have eb:List.getD (c.buf.map cu) j default= .sl 2 ((c.buf.getD j []).map bO):=gH (l:=c.buf) hlt
  obtain⟨s1,s2⟩:=hf _ (bv [] hlt)
  generalize c.buf.getD j []=B at eb s1 s2
  have n4:decide ((6:Int)<(B.length:Int))=false:=by simp;omega
  simp only[go_sem,hdd,eb,n4,ac,ad]
  refine⟨⟨by omega,by omega⟩,?_⟩
  refine aS (λ k fr st=>∃i:Nat,i≤B.length∧k=B.length - i∧fr=%[.o,.ref Z.length 0,.o,dn j,dn i|D7 []]∧st=Z++[dy c]) B.length _ (Wk.mask [1,3,4] ⟨0,by omega,by omega,rfl,rfl⟩) ?_
  rintro k2 fr st ⟨i,hi,hk2,rfl,rfl⟩
  rcases aC i B.length with hl2|hg2
  ·have hd2:decide ((i:Int)<(B.length:Int))=true:=by simp;omega
   have w3:=bC i (by omega)
   have ei:=gG (l:=B) hl2
   obtain⟨x1,x2⟩:=s2 _ (bv cD hl2)
   generalize B.getD i cD=E at ei x1 x2
   have n5:decide ((40:Int)<(E.cells.length:Int))=false:=by simp;omega
   have n6:decide ((40:Int)<(E.vals.length:Int))=false:=by simp;omega
   simp only[go_sem,bu,hd2,eb,ei,bO,n5,n6,w3,ac,ad]
   exact⟨⟨by omega,by omega⟩,⟨by omega,by omega⟩,⟨by omega,by omega⟩,⟨by omega,by omega⟩,⟨by omega,by omega⟩,Wk.mask [1,3,4] ⟨B.length - (i+1),by omega,i+1,by omega,rfl,rfl,rfl⟩⟩
  ·have hd2:decide ((i:Int)<(B.length:Int))=false:=by simp;omega
   simp only[go_sem,eb,hd2,w2,ac,ad]
   exact⟨⟨by omega,by omega⟩,Wk.mask [1,3] ⟨c.buf.length - (j+1),by omega,j+1,by omega,rfl,rfl,rfl⟩⟩
 ·have hdd:decide ((j:Int)<(c.buf.length:Int))=false:=by simp;omega
  simp only[go_sem,hdd,ac]
  exact aQ hbd h
theorem Fv(l:List Ex):mQ (bU (l.map Ex.d)) 4 0 (l.map Ex.d):=lx λ x hx=>by
 obtain⟨y,_,rfl⟩:=aI.1 hx
 rw[ed]
 refine⟨rfl,λ z hz=> ?_⟩
 simp only[eD,D.cells,aV,bi,or_false]at hz
 rcases hz with rfl|rfl|rfl|rfl<;> rfl
theorem xC(l:List Ex):(bU (l.map Ex.d)).length=l.length*4:=by
 rw[mg (sz:=4),ac]
 intro x hx
 obtain⟨y,_,rfl⟩:=aI.1 hx
 rw[ed];rfl
theorem Fy(l:List Ex)(x:Ex):bU ((l++[x]).map Ex.d)=bU (l.map Ex.d)++[.d (iD x.op),.d (iD x.w),.d (iD x.n),.d (.sl 4 (x.kids.map Ex.d))]:=by
 rw[aJ,cZ,aM,ed];rfl
theorem Perm.swap{n:Nat}{L:List Int}(h:Perm n L){i j:Nat}(hi:i<n)(hj:j<n):Perm n ((L.set i (L.getD j 0)).set j (L.getD i 0)):=by
 obtain⟨hl,hr,hd⟩:=h
 have gi:L.getD i 0=L[i]'(by omega):=by rw[au,ap (by omega)];rfl
 have gj:L.getD j 0=L[j]'(by omega):=by rw[au,ap (by omega)];rfl
 have inj:∀(x y:Nat) (hx:x<L.length) (hy:y<L.length),L[x]=L[y]→x=y:=λ x y hx hy e=>by
  rcases go x y with z|z|z
  ·exact absurd e ((dO.1 hd) x y hx hy z)
  ·exact z
  ·exact absurd e.symm ((dO.1 hd) y x hy hx z)
 refine⟨by simp [hl],λ x hx=> ?_,?_⟩
 ·rcases List.mem_or_eq_of_mem_set hx with q|q
  ·rcases List.mem_or_eq_of_mem_set q with q|q
   ·exact hr x q
   ·rw[q,gj];exact hr _ (bI _)
  ·rw[q,gi];exact hr _ (bI _)
 ·rw[gi,gj]
  refine dO.2 λ a b ha hb hab=> ?_
  simp only[aH]at ha hb
  simp only[List.getElem_set]
  intro e
  split at e<;> split at e<;> (try split at e)<;> (try split at e)<;> (have:=inj _ _ _ _ e;omega)
def E8(n j:Nat):List Int:=(List.range j).map Int.ofNat++List.replicate (n - j) 0
theorem FY{n j:Nat}(h:j≤n):(E8 n j).length=n:=by simp [E8];omega
theorem GD{n j:Nat}(h:j<n):(E8 n j).set j (j:Int)=E8 n (j+1):=by
 unfold E8
 rw[Er _ _ (by simp),eY,aJ,aU]
 congr 1
 obtain⟨k,hk⟩:∃k,n - j=k+1:=⟨n - j - 1,by omega⟩
 rw[hk,show n - (j+1)=k by omega]
 simp [af]
theorem GE(n:Nat):Perm n (E8 n n):=by
 refine⟨FY (aE _),λ x hx=> ?_,?_⟩
 ·simp only[E8,Et,ag,bt,aI,eT]at hx
  obtain⟨a,h1,rfl⟩:=hx
  exact⟨Int.natCast_nonneg _,by exact Int.ofNat_lt.2 h1⟩
 ·simp only[E8,Et,ag,bt]
  refine List.pairwise_map.2 (List.nodup_range.imp λ h e=>h (Int.ofNat.inj e))
def ET(x:Int):D:= .int .u8 x
theorem Gn{l:List Int}{j:Nat}(h:j<l.length):List.getD (l.map ET) j default=ET (l.getD j 0):=dQ h
theorem ec(n:Nat)(p:List Nat)(l:List A)(t:Nat)(x:A):Go.Ab.ix n p (l.set t x)=(Go.Ab.ix n p l).set t (x.ren n p):=by rw[Go.Ab.pX,Go.Ab.pX,fF]
theorem gF(id sz off:Nat)(xs:List D)(l:List A)(t:Nat)(x:A):jP id sz off xs (l.set t x)=(jP id sz off xs l).set t (x.frz id sz off xs):=by rw[oq,oq,fF]
theorem iF(id sz off:Nat)(xs:List D)(l:List A)(h:∀x∈l,∃d,x=A.d d):jP id sz off xs l=l:=by
 rw[oq]
 refine(dz λ x hx=> ?_).trans (List.map_id l)
 obtain⟨d,rfl⟩:=h x hx
 rfl
theorem g7{L:List A}{t:Nat}(h:t<L.length)(x:A):List.getD (L.set t x) t A.o=x:=by simp [List.getD,aT h]
theorem fH{L:List A}{t:Nat}(h:t<L.length)(x y:A):List.take t (L.set t y)++x::List.drop (t+1) (L.set t y)=L.set t x:=by
 rw[List.take_set_of_le (aE t),List.drop_set_of_lt (Nat.lt_succ_self t),da,if_pos h]
theorem jn{n:Nat}{l:List A}(h:∀x∈l,∃d,x=A.d d):jo n l=true:=gI λ x hx=>by
 obtain⟨d,rfl⟩:=h x hx;rfl
theorem pI(l:List (List Ent)):(List.replicate l.length [A.d D.nils]).flatten=fB l 0:=by
 unfold fB
 simp
theorem iB(l:List Ent):mQ (bU (l.map bO)) 2 0 (l.map bO):=lx λ x hx=>by
 obtain⟨y,_,rfl⟩:=aI.1 hx
 exact⟨rfl,λ z hz=>by simp only[bO,D.cells,aV,bi,or_false]at hz;rcases hz with rfl|rfl<;> rfl⟩
theorem iG(l:List Ent)(x:Ent):bU ((l++[x]).map bO)=bU (l.map bO)++[.d (bu x.cells),.d (bu x.vals)]:=by
 rw[aJ,cZ];rfl
theorem dx(l:List Ent):(bU (l.map bO)).length=l.length*2:=by
 induction l with
 |nil=>rfl
 |cons x l ih=>
  have:bU ((x::l).map bO)=[.d (bu x.cells),.d (bu x.vals)]++bU (l.map bO):=rfl
  rw[this,aF,ih];simp;omega
theorem Copy_r (c:Cfg) (hm:c.mem.length≤1000) (hps:c.pos.length≤1000) (hb:c.buf.length≤1000) (hbe:∀l∈c.buf,l.length≤100∧∀e∈l,e.cells.length≤1000∧e.vals.length≤1000) (Z:St) (G:Glob) (R:A→St→Prop)
  (h:R (.agg [.rs Z.length 1 0 c.mem.length (some 3),.rs (Z.length+1) 1 0 c.pos.length (some 3),.rs (Z.length+2) 1 0 c.buf.length (some 46)]) (Z++[bY c.mem,bY c.pos,wA c.buf])):AC Tryz.prog G 73 [.d (bX c)] Z R:=by
 unfold bX
 refine bD [2,10] a9 Tryz.func73 rfl Tryz.ntmps73 (by simp only[go_sem]) λ hbd=> ?_
 simp only[ae,aj,Nat.reduceAdd,Nat.reduceSub,af,ag,ah,ak]
 simp only[go_sem,ac]
 refine bc (λ fr st=>fr=%[.o,.ref Z.length 0,.ref (Z.length+1) 0,.ref (Z.length+5) 0|D6 (D5 (D4 [.o,.o]))]∧st=Z++[dy c,df (.d .nils) (.d .nils) (.d .nils),bY c.mem,bY c.pos,some (.cells (fB c.buf 0)),df (.rs (Z.length+2) 1 0 c.mem.length (some 3)) (.rs (Z.length+3) 1 0 c.pos.length (some 3)) (.rs (Z.length+4) 1 0 c.buf.length (some 46))]) ?_ ?_
 ·simp only[go_sem,ac]
  refine nJ (.gro [0,1,3,4,6,7,8] [2,5,9] 11 (.plain (.take 10<| .take 12<| .done)) (.plain (.take 10<| .take 11<| .take 12<| .done))) (by kernel_rfl) ?_
  simp only[go_sem,ac]
  have hc1:=ml c.mem hm
  have hc2:=ml c.pos hps
  refine lZ [⟨2,9,.rs 1 0 c.mem.length (some 3),.cells (c.mem.map λ x=>A.d (iD x))⟩,⟨5,12,.rs 1 0 c.pos.length (some 3),.cells (c.pos.map λ x=>A.d (iD x))⟩,⟨9,16,.rs 1 0 c.buf.length (some 46),.cells (fB c.buf 0)⟩] ⟨11,3,.ref 0,.cells [.d .nils,.d .nils,.d .nils]⟩ (λ q hq=> ?_) (λ q hq=> ?_) rfl ?_ ?_
  ·simp only[ah,ak,aV,bi,or_false]at hq
   rcases hq with rfl|rfl|rfl|rfl<;> refine zm rfl λ Z k hk=> ?_<;> simp only[go_sem]
   ·exact bH (hc1 _ _ _ hk)
   ·exact bH (hc2 _ _ _ hk)
   ·rw[pI]
    exact⟨⟨by omega,by omega,by omega,by omega⟩,hk⟩
   ·exact hk
  ·simp only[ah,ak,aV,bi,or_false]at hq
   rcases hq with rfl|rfl|rfl|rfl
   ·exact jn λ x hx=>let ⟨y,_,e⟩:=aI.1 hx;⟨_,e.symm⟩
   ·exact jn λ x hx=>let ⟨y,_,e⟩:=aI.1 hx;⟨_,e.symm⟩
   ·exact jn (oA c.buf 0)
   ·rfl
  ·simp only[go_sem,ac,aM,bq,ah,ak,cf,Nat.reduceAdd]
   exact Wk.mask [1,2,3] ⟨rfl,rfl⟩
  ·simp only[go_sem,ac,aM,bq,ah,ak,cf,Nat.reduceAdd]
   exact Wk.mask [1,2,3] ⟨rfl,rfl⟩
 rintro fr st ⟨rfl,rfl⟩
 refine bc (λ fr st=>fr=%[.o,.ref Z.length 0,.ref (Z.length+1) 0,.ref (Z.length+5) 0|D6 (D5 (D4 [.o,.o]))]∧st=Z++[dy c,df (.d .nils) (.d .nils) (.d .nils),bY c.mem,bY c.pos,wA c.buf,df (.rs (Z.length+2) 1 0 c.mem.length (some 3)) (.rs (Z.length+3) 1 0 c.pos.length (some 3)) (.rs (Z.length+4) 1 0 c.buf.length (some 46))]) ?_ ?_
 ·simp only[go_sem,ac]
  refine aS (λ m fr st=>∃t:Nat,t≤c.buf.length∧m=c.buf.length - t∧fr=%[.o,.ref Z.length 0,.ref (Z.length+1) 0,.ref (Z.length+5) 0,dn t|D6 (D5 (D4 [.o]))]∧st=Z++[dy c,df (.d .nils) (.d .nils) (.d .nils),bY c.mem,bY c.pos,some (.cells (fB c.buf t)),df (.rs (Z.length+2) 1 0 c.mem.length (some 3)) (.rs (Z.length+3) 1 0 c.pos.length (some 3)) (.rs (Z.length+4) 1 0 c.buf.length (some 46))]) c.buf.length _ (Wk.mask [1,2,3,4] ⟨0,by omega,by omega,rfl,rfl⟩) ?_
  rintro m fr st ⟨t,ht,hmm,rfl,rfl⟩
  rcases aC t c.buf.length with hlt|hge
  ·have hd:decide ((t:Int)<(c.buf.length:Int))=true:=by simp;omega
   have w2:=bC t (by omega)
   have eb:List.getD (c.buf.map cu) t default= .sl 2 ((c.buf.getD t []).map bO):=gH (l:=c.buf) hlt
   obtain⟨hb1,hb2⟩:=hbe _ (bv [] hlt)
   have hsucc:=pJ c.buf t hlt
   have hnil:=rF c.buf t hlt
   have hLd:=oA c.buf t
   have hLl:=rG c.buf t (by omega)
   obtain⟨L,hL⟩:∃L,fB c.buf t=L:=⟨_,rfl⟩
   rw[hL]at hsucc hnil hLd hLl
   rw[hL]
   obtain⟨B,hB⟩:∃B,c.buf.getD t []=B:=⟨_,rfl⟩
   rw[hB]at eb hb1 hb2 hsucc
   simp only[go_sem,hd,ac]
   refine aS (λ m fr st=>∃i:Nat,i≤B.length∧m=B.length - i∧fr=%[.o,.ref Z.length 0,.ref (Z.length+1) 0,.ref (Z.length+5) 0,dn t,dn i|D6 (D5 (D4 []))]∧st=Z++[dy c,df (.d .nils) (.d .nils) (.d .nils),bY c.mem,bY c.pos,some (.cells (L.set t (.rs (Z.length+6) 2 0 i (some 48)))),df (.rs (Z.length+2) 1 0 c.mem.length (some 3)) (.rs (Z.length+3) 1 0 c.pos.length (some 3)) (.rs (Z.length+4) 1 0 c.buf.length (some 46)),some (.cells (bU ((B.take i).map bO)))]) B.length _ ?_ ?_
   ·refine Wk.via (bw.emptyIn (Z:=Z) 4 t 2 (some 48) rfl hnil) ?_
    exact Wk.mask [1,2,3,4,5] ⟨0,by omega,by omega,rfl,by simp [bU]⟩
   rintro m2 fr st ⟨i,hi,hm2,rfl,rfl⟩
   rcases aC i B.length with hl2|hg2
   ·have hd2:decide ((i:Int)<(B.length:Int))=true:=by simp;omega
    have w3:=bC i (by omega)
    have e3:=gG (l:=B) hl2
    obtain⟨q1,q2⟩:=hb2 _ (bv cD hl2)
    have hsn:=bG cD hl2
    generalize B.getD i cD=E at e3 q1 q2 hsn
    have hc1:=kJ E.cells q1
    have hc2:=kJ E.vals q2
    simp only[go_sem,hd2,w3,eb,e3,bO,ac,ad]
    refine⟨⟨by omega,by omega⟩,⟨by omega,by omega⟩,⟨by omega,by omega⟩,?_⟩
    refine bb (.take 2<| .take 5<| .tk 2 8<| .pure 10<| .tk 2 11<| .pure 13<| .tk 2 3<| .tk 2 6<| .take 14<| .alt 0 (.alt 1 (.tk 4 15<| .done)<| .alt 15 (.alt 1 (.tk 3 16<| .done)<| .alt 16 (.take 1<| .tk 2 17<| .done)<| .stop)<| .stop)<| .alt 15 (.alt 0 (.alt 1 (.tk 3 16<| .done)<| .alt 16 (.take 1<| .tk 2 17<| .done)<| .stop)<| .alt 16 (.tk 2 0<| .tk 2 17<| .done)<| .stop)<| .stop) (by kernel_rfl) ?_
    simp only[go_sem,w3,eb,e3,bO,ac,ad]
    refine mN (.d (bu E.cells)) ⟨λ Z'=>bH (hc1 Z' G _ ⟨rfl,rfl⟩),?_⟩
    simp only[go_sem,w3,eb,e3,bO,ac,ad]
    refine mN (.d (bu E.vals)) ⟨λ Z'=>bH (hc2 Z' G _ ⟨rfl,rfl⟩),?_⟩
    have hgs:=g7 (L:=L) (t:=t) (by omega)
    have hss:=fH (L:=L) (t:=t) (by omega)
    simp only[bu,go_sem,w3,eb,e3,bO,hLl,hgs,hss,br,ac,aH,ad]
    have hfl:=dx (B.take i)
    rw[aP,cC hi]at hfl
    refine⟨⟨by omega,by omega⟩,by omega,⟨hfl,by simp only[maxLen];omega,by omega⟩,⟨by omega,by omega⟩,by omega,?_⟩
    refine Wk.keep [1,2,3,4,5] [0,1,2,3,4,5,9] (by decide) (aE _) hbd ⟨B.length - (i+1),by omega,i+1,by omega,rfl,by simp only[go_sem],?_⟩
    rw[hsn,iG]
    simp only[go_sem,bY,bu,dj,cx,ec,cG,dK _ _ _ hLd,aM,bq]
    rfl
   ·have hd2:decide ((i:Int)<(B.length:Int))=false:=by simp;omega
    obtain rfl:i=B.length:=by omega
    rw[aK (aE _)]
    simp only[go_sem,hd2,w2,eb,ac,ad]
    refine⟨⟨by omega,by omega⟩,?_⟩
    refine Wk.via (bw.freezeIn (Z:=Z) 6 4 2 0 (B.map bO) rfl (iB B) rfl (by decide)) ?_
    simp only[go_sem,ac,gF,iF _ _ _ _ _ hLd,and_self,if_true]
    exact Wk.keep [1,2,3,4] [0,1,2,3,4,5] (by decide) (aE _) hbd ⟨c.buf.length - (t+1),by omega,t+1,by omega,rfl,by simp only[go_sem],by rw[←hsucc];simp only[go_sem,bY,cx,ec,dK _ _ _ hLd,cu]⟩
  ·have hd:decide ((t:Int)<(c.buf.length:Int))=false:=by simp;omega
   obtain rfl:t=c.buf.length:=by omega
   rw[pK]
   simp only[go_sem,hd,ac]
   exact Wk.mask [1,2,3] ⟨rfl,rfl⟩
 rintro fr st ⟨rfl,rfl⟩
 simp only[go_sem,ac]
 refine nn [2,3,4] (by decide) hbd ?_
 simp only[go_sem,bY,cx]
 exact h
theorem nY{G:Glob}{n0:Nat}{a a':A}{s s':St}{R:A→St→Prop}(hw:bw G n0 [a] s [a'] s')(h:∃r Z',bw G n0 [a'] s' [r] Z'∧R r Z'):∃r Z',bw G n0 [a] s [r] Z'∧R r Z':=let ⟨r,Z',h1,h2⟩:=h;⟨r,Z',hw.trans h1,h2⟩
theorem gA(l:List (List Ent)):∀x∈l.map (λ b=>A.d (cu b)),∃d,x=A.d d:=λ x hx=>by
 obtain⟨y,_,e⟩:=aI.1 hx;exact⟨_,e.symm⟩
def pq(mem:List Int)(B:List Ent)(f i:Nat):List Int:=if f<i then oI mem (B.getD f cD)else mem
def j9(B:List Ent)(f i:Nat):List Ent:=if f<i then(B.take i).eraseIdx f else B.take i
theorem tA{B:List Ent}{f i:Nat}(hf:f<B.length)(hi:i<B.length)(h:f≠i):j9 B f (i+1)=j9 B f i++[B.getD i cD]:=by
 unfold j9
 by_cases hlt:f<i
 ·rw[if_pos hlt,if_pos (by omega),bG cD hi,List.eraseIdx_append_of_lt_length (by rw[aP];omega)]
 ·rw[if_neg hlt,if_neg (by omega),bG cD hi]
theorem restE_at{B:List Ent}{f:Nat}(hf:f<B.length):j9 B f (f+1)=j9 B f f:=by
 unfold j9
 rw[if_pos (by omega),if_neg (by omega),bG cD hf,List.eraseIdx_append_of_length_le (by rw[aP];omega),aP,cC (by omega),Et]
 simp
theorem CO{B:List Ent}{f i:Nat}(hi:i≤B.length):(j9 B f i).length≤i:=by
 unfold j9
 split
 ·have:=List.length_eraseIdx_le (B.take i) f
  rw[aP]at this;omega
 ·rw[aP];omega
theorem AR{B:List Ent}{f:Nat}(hf:f<B.length):j9 B f B.length=B.eraseIdx f:=by
 unfold j9
 rw[if_pos hf,bB]
theorem um{B:List Ent}{cell:Int}(h:mZ B cell<B.length):((B.getD (mZ B cell) cD).cells.getD 0 0==cell)=true∧∀i,i<mZ B cell→((B.getD i cD).cells.getD 0 0==cell)=false:=by
 unfold mZ at h ⊢
 refine⟨?_,λ i hi=> ?_⟩
 ·have:=List.findIdx_getElem (w:=h)
  rw[show B.getD (List.findIdx (λ e=>e.cells.getD 0 0==cell) B) cD=B[List.findIdx (λ e=>e.cells.getD 0 0==cell) B]by rw[au,ap h];rfl]
  exact this
 ·have:=List.not_of_lt_findIdx hi
  have hl:i<B.length:=by omega
  rw[show B.getD i cD=B[i]by rw[au,ap hl];rfl]
  simpa using this
theorem commit_r (c:Cfg) (t:Nat) (ht:t<c.buf.length) (cell:Int) (hm:c.mem.length≤1000) (hps:c.pos.length≤1000) (hb:c.buf.length≤1000) (hbe:∀l∈c.buf,l.length≤100∧∀e∈l,e.cells.length≤1000∧e.vals.length≤1000)
  (hin:∀e∈c.bufAt t,EntIn c.mem.length e∧e.cells≠[]) (hf:mZ (c.bufAt t) cell<(c.bufAt t).length) (Z:St) (G:Glob) (R:A→St→Prop) (h:R (.d (bX (rC c t (mZ (c.bufAt t) cell)))) Z):AC Tryz.prog G 72 [.d (bX c),dn t,di cell] Z R:=by
 have cp:=Copy_r c hm hps hb hbe
 have eb:List.getD (c.buf.map λ b=>A.d (cu b)) t A.o=A.d (.sl 2 ((c.bufAt t).map bO)):=by
  simp only[au,aN,ap ht,bJ,b9,Cfg.bufAt,cu]
 obtain⟨B,hB⟩:∃B,c.bufAt t=B:=⟨_,rfl⟩
 obtain⟨f,hfd⟩:∃f,mZ B cell=f:=⟨_,rfl⟩
 have hsp:=um (B:=B) (cell:=cell)
 have hB100:B.length≤100:=by
  have:=(hbe _ (by show c.buf.getD t []∈c.buf;exact bv [] ht)).1
  rw[←hB];exact this
 unfold rC at h
 rw[hB]at hin hf h eb
 rw[hfd]at hf h hsp
 obtain⟨hs1,hs2⟩:=hsp hf
 unfold bX at*
 refine iN [2,12] a9 Tryz.func72 rfl Tryz.ntmps72 (by simp only[go_sem]) λ hbd=> ?_
 simp only[ae,aj,Nat.reduceAdd,Nat.reduceSub,af,ag,ah,ak]
 try simp only[go_sem]
 refine bc (λ fr st=>fr=%[.o,dn t,di cell,.o,.o,.o,.ref Z.length 0,.ref (Z.length+2) 0|D6 (D5 [.o])]∧st=Z++[df (.d .nils) (.d .nils) (.d .nils),wA c.buf,df (.d (bu c.mem)) (.d (bu c.pos)) (.rs (Z.length+1) 1 0 c.buf.length (some 46))]) ?_ ?_
 ·try simp only[go_sem]
  refine bH (cp _ _ _ ?_)
  simp only[go_sem,ac]
  refine Wk.via (bw.freezeIn (Z:=Z) 2 5 1 0 (c.mem.map iD) rfl (cJ _) rfl (by decide)) ?_
  simp only[go_sem,ac,and_self,if_true,false_and,if_false]
  refine Wk.via (bw.freezeIn (Z:=Z) 3 5 1 0 (c.pos.map iD) rfl (cJ _) rfl (by decide)) ?_
  simp only[go_sem,ac,and_self,if_true,false_and,if_false]
  exact Wk.keep [1,2,6,7] [1,4,5] (by decide) (aE _) hbd ⟨by simp only[go_sem],by simp only[go_sem,bu,dK _ _ _ (gA c.buf)]⟩
 rintro fr st ⟨rfl,rfl⟩
 try simp only[go_sem]
 refine bc (λ fr st=>fr=%[.o,dn t,di cell,.o,.o,.o,.ref Z.length 0,.ref (Z.length+2) 0,.rs (Z.length+3) 2 0 (j9 B f B.length).length (some 48)|D6 (D5 [])]∧st=Z++[df (.d .nils) (.d .nils) (.d .nils),wA c.buf,df (.d (bu (pq c.mem B f B.length))) (.d (bu c.pos)) (.rs (Z.length+1) 1 0 c.buf.length (some 46)),some (.cells (bU ((j9 B f B.length).map bO)))]) ?_ ?_
 ·try simp only[go_sem]
  refine aS (λ m fr st=>∃j:Nat,j≤B.length∧m=B.length - j∧fr=%[.o,dn t,di cell,.o,.o,.o,.ref Z.length 0,.ref (Z.length+2) 0,.rs (Z.length+3) 2 0 (j9 B f j).length (some 48),db (decide (f<j)),dn j|D6 (D4 [.o,.o,.o,.o,.o,.o])]∧st=Z++[df (.d .nils) (.d .nils) (.d .nils),wA c.buf,df (.d (bu (pq c.mem B f j))) (.d (bu c.pos)) (.rs (Z.length+1) 1 0 c.buf.length (some 46)),some (.cells (bU ((j9 B f j).map bO)))]) B.length _ ?_ ?_
  ·exact⟨_,_,(bw.mask [1,2,6,7,8,9,10]).trans (bw.empty 8 2 (some 48) rfl),0,by omega,by omega,by simp [iX,j9],by simp [j9,pq,bU]⟩
  rintro m fr st ⟨j,hj,hmm,rfl,rfl⟩
  have hrl:=CO (f:=f) hj
  have hfl:=dx (j9 B f j)
  rcases aC j B.length with hlt|hge
  ·have hd:decide ((j:Int)<(B.length:Int))=true:=by simp;omega
   have w2:=bC j (by omega)
   have e3:=gG (l:=B) hlt
   obtain⟨n1,n2⟩:=hin _ (bv cD hlt)
   have hnc:0<(B.getD j cD).cells.length:=List.length_pos_iff.2 n2
   have e4:=bW (l:=(B.getD j cD).cells) hnc
   have bnd:=hrl
   rcases go f j with hfj|hfj|hfj
   ·have hsn:=tA hf hlt (by omega)
    have d9:decide (f<j)=true:=by simp;omega
    have d9':decide (f<j+1)=true:=by simp;omega
    have hme:pq c.mem B f (j+1)=pq c.mem B f j:=by unfold pq;rw[if_pos (by omega),if_pos hfj]
    generalize B.getD j cD=E at e3 hnc e4 hsn
    simp only[bO,bu,go_sem,eb,e3,d9,hd,w2,ac,ad,br]
    refine⟨⟨by omega,by omega⟩,by omega,⟨by omega,by omega⟩,by omega,⟨by omega,by omega⟩,⟨hfl,by simp only[maxLen];omega,by omega⟩,?_⟩
    refine Wk.keep [1,2,6,7,8,9,10] [0,1,2,6] (by decide) (aE _) hbd ⟨B.length - (j+1),by omega,j+1,by omega,rfl,?_,?_⟩
    ·rw[hsn,d9'];simp only[go_sem,aF,ae,aj]
    ·rw[hsn,hme,iG]
     simp only[go_sem,bu,dj,cG,dK _ _ _ (gA c.buf)]
   ·subst hfj
    have hsn:=restE_at hf
    have d9:decide (f<f)=false:=by simp
    have d9':decide (f<f+1)=true:=by simp
    have hme:pq c.mem B f f=c.mem:=by unfold pq;rw[if_neg (Nat.lt_irrefl _)]
    have hme':pq c.mem B f (f+1)=oI c.mem (B.getD f cD):=by unfold pq;rw[if_pos (Nat.lt_succ_self _)]
    have hp:=put_r c.mem hm _ n1
    rw[hme]at*
    generalize B.getD f cD=E at e3 hnc e4 hs1 hme' hp n1
    unfold bO bu at hp
    simp only[bO,bu,go_sem,eb,e3,e4,d9,hd,w2,hs1,ac,ad,bZ,br]
    refine⟨⟨by omega,by omega⟩,by omega,⟨by omega,by omega⟩,by omega,⟨by omega,by omega⟩,⟨by omega,by omega⟩,bH (hp _ _ _ ?_)⟩
    simp only[bO,bu,go_sem,w2,ac,ad,br]
    refine Wk.keep [1,2,6,7,8,9,10] [0,1,2,3] (by decide) (aE _) hbd ⟨B.length - (f+1),by omega,f+1,by omega,rfl,?_,?_⟩
    ·rw[hsn,d9'];simp only[go_sem]
    ·rw[hsn,hme']
     simp only[go_sem,bu,cG,dK _ _ _ (gA c.buf)]
   ·have hsn:=tA hf hlt (by omega)
    have d9:decide (f<j)=false:=by simp;omega
    have d9':decide (f<j+1)=false:=by simp;omega
    have hme:pq c.mem B f (j+1)=pq c.mem B f j:=by unfold pq;rw[if_neg (by omega),if_neg (by omega)]
    have hs3:=hs2 j hfj
    generalize B.getD j cD=E at e3 hnc e4 hsn hs3
    simp only[bO,bu,go_sem,eb,e3,e4,d9,hd,w2,hs3,ac,ad,bZ,br]
    refine⟨⟨by omega,by omega⟩,by omega,⟨by omega,by omega⟩,by omega,⟨by omega,by omega⟩,⟨by omega,by omega⟩,⟨hfl,by simp only[maxLen];omega,by omega⟩,?_⟩
    refine Wk.keep [1,2,6,7,8,9,10] [0,1,2,6] (by decide) (aE _) hbd ⟨B.length - (j+1),by omega,j+1,by omega,rfl,?_,?_⟩
    ·rw[hsn,d9'];simp only[go_sem,aF,ae,aj]
    ·rw[hsn,hme,iG]
     simp only[go_sem,bu,dj,cG,dK _ _ _ (gA c.buf)]
  ·have hd:decide ((j:Int)<(B.length:Int))=false:=by simp;omega
   obtain rfl:j=B.length:=by omega
   simp only[go_sem,eb,hd,ac,ad,br]
   exact⟨⟨by omega,by omega⟩,by omega,Wk.mask [1,2,6,7,8] ⟨rfl,rfl⟩⟩
 rintro fr st ⟨rfl,rfl⟩
 rw[AR hf]
 have hml:pq c.mem B f B.length=oI c.mem (B.getD f cD):=by unfold pq;rw[if_pos hf]
 rw[hml]
 simp only[go_sem,ac,ad,br]
 refine⟨⟨by omega,by omega⟩,by omega,?_⟩
 have hlst:List.take t (List.map (λ b=>A.d (cu b)) c.buf)++A.rs (Z.length+3) 2 0 (B.eraseIdx f).length (some 48)::List.drop (t+1) (List.map (λ b=>A.d (cu b)) c.buf)=(c.buf.map λ b=>A.d (cu b)).set t (A.rs (Z.length+3) 2 0 (B.eraseIdx f).length (some 48)):=by
  rw[da,if_pos (by rw[ac];exact ht)]
 rw[hlst]
 refine nY (bw.freezeIn (Z:=Z) 3 1 2 0 ((B.eraseIdx f).map bO) rfl (iB _) rfl (by decide)) ?_
 simp only[go_sem,ac,gF,iF _ _ _ _ _ (gA c.buf),and_self,if_true,false_and,if_false]
 have hst:(c.buf.map λ b=>A.d (cu b)).set t (A.d (.sl 2 ((B.eraseIdx f).map bO)))=(c.buf.set t (B.eraseIdx f)).map λ b=>A.d (cu b):=by
  rw[fF];rfl
 rw[hst]
 refine de 1 1 0 ((c.buf.set t (B.eraseIdx f)).map cu) rfl ?_ ?_
 ·exact gV cu (λ _=>⟨rfl,rfl⟩) (c.buf.set t (B.eraseIdx f))
 simp only[go_sem,ac,aH,and_self,if_true]
 exact aQ hbd h
theorem Fits.sz{p:Prg}(hp:Good p){m:Int}{c:Cfg}(hf:Fits p m c):c.mem.length≤12∧c.pos.length≤3∧c.buf.length≤3∧∀l∈c.buf,l.length≤3∧∀e∈l,e.cells.length≤12∧e.vals.length≤12:=by
 have h1:=hp.sm.ncel
 have h2:=hp.sm.nthr
 refine⟨by rw[hf.mem.len];exact h1,by rw[hf.npos];exact h2,by rw[hf.nbuf];exact h2,λ l hl=> ?_⟩
 obtain⟨t,ht⟩:=fT.1 hl
 obtain⟨a,b⟩:=hf.few t l ht
 refine⟨a,λ e he=> ?_⟩
 have:=(b e he).few
 have:=(b e he).len
 omega
theorem qy{p:Prg}(hp:Good p){m:Int}{c:Cfg}(hf:Fits p m c):(fY p m c).length≤39:=by
 have:=qa hp hf (t:=p.threads.length) (aE _)
 have:=hp.sm.nthr
 unfold fY
 omega
theorem nextC_r(p:Prg)(hp:Good p)(m:Int)(hm:0≤m∧m≤2)(c:Cfg)(hf:Fits p m c)(x:Cho)(hx:x∈fY p m c)(hs:x.step= -1)(Z:St)(G:Glob)(R:A→St→Prop)(h:R (.tup [.d (bX (fV p m c x)),di 0]) Z):AC Tryz.prog G 34 [.d (bK p),di m,.d (bX c),.d (c7 x)] Z R:=by
 have fi:=Bh p hp m hm c hf
 have en:=rO p hp m hm c hf
 have ha:=has_r (fY p m c) (by have:=qy hp hf;omega) x hx
 obtain⟨z1,z2,z3,z4⟩:=hf.sz hp
 obtain⟨t,ht,hxt⟩:=l9.1 hx
 rcases hxt with⟨i,_,_,e⟩|⟨i,hi,hr,e⟩
 ·rw[e]at hs;exact absurd hs (by show¬((i:Int)= -1);omega)
 have hth:x.thread=t:=by rw[e]
 have hfe:mZ (c.bufAt t) x.cell=i:=by
  rw[e];exact ph (λ e he=>((hf.bufOk t).2 e he).pos) hi hr
 have hnx:fV p m c x=rC c t (mZ (c.bufAt t) x.cell):=by
  rw[hfe,e];exact qY hf hi hr
 have co:=commit_r c t (by rw[hf.nbuf];exact ht) x.cell (by omega) (by omega) (by omega) (λ l hl=>⟨by have:=(z4 l hl).1;omega,λ e he=>by have:=(z4 l hl).2 e he;omega⟩) (λ e he=>⟨EntOk.isIn hp hf ((hf.bufOk t).2 e he),((hf.bufOk t).2 e he).pos⟩) (by rw[hfe];exact hi)
 rw[←hnx]at co
 obtain⟨d,hd⟩:∃d,fV p m c x=d:=⟨_,rfl⟩
 rw[hd]at co h
 have s1:decide (x.step<0)=true:=by rw[hs];rfl
 unfold bK bX c7 at*
 refine bD [7] a9 Tryz.func34 rfl Tryz.ntmps34 (by simp only[go_sem]) λ hbd=> ?_
 simp only[ae,aj,Nat.reduceAdd,Nat.reduceSub,af,ag,ah,ak]
 try simp only[go_sem]
 refine bH (fi _ _ _ ?_)
 try simp only[go_sem]
 refine bb (.tk 3 0<| .pure 3<| .tk 3 4<| .done) (by kernel_rfl) ?_
 try simp only[go_sem]
 refine mN (.d (.sl 3 ((fY p m c).map c7))) ⟨λ Z'=>bH (en Z' G _ ⟨rfl,rfl⟩),?_⟩
 try simp only[go_sem]
 refine bH (ha _ _ _ ?_)
 try simp only[go_sem]
 refine bc (λ _ _=>False) ?_ (λ _ _ h=>h.elim)
 simp only[go_sem,s1,hth]
 refine bH (co _ _ _ ?_)
 simp only[go_sem,bu]
 exact dq hbd rfl h
theorem bshl1{w:Int}(h:1≤w∧w≤8):bShl 1 w=2^w.toNat:=by
 obtain⟨h1,h2⟩:=h
 have:w=1∨w=2∨w=3∨w=4∨w=5∨w=6∨w=7∨w=8:=by omega
 rcases this with rfl|rfl|rfl|rfl|rfl|rfl|rfl|rfl<;> rfl
theorem AE{G:Glob}(hG:G.g 0=some cB)(p:Prg)(hp:Good p)(Z:St)(R:A→St→Prop)(h:R (db true) Z):AC Tryz.prog G 80 [.d (bK p)] Z R:=by
 have v:=sT hG p hp
 have z0:((0:Int)==0)=true:=rfl
 unfold bK at*
 refine bg a9 Tryz.func80 rfl Tryz.ntmps80 (by simp only[go_sem]) λ hbd=> ?_
 simp only[ae,aj,Nat.reduceAdd,Nat.reduceSub,af,ag,ah,ak]
 try simp only[go_sem]
 refine bH (v _ _ ?_)
 simp only[go_sem,z0]
 exact aQ hbd h
theorem validB{G:Glob}(hG:G.g 0=some cB)(p:Prg)(hp:Good p)(Z:St)(R:A→St→Prop)(h:R (db true) Z):AC Tryz.prog G 45 [.d (bK p)] Z R:=by
 have v:=sT hG p hp
 have z0:((0:Int)==0)=true:=rfl
 unfold bK at*
 refine bg a9 Tryz.func45 rfl Tryz.ntmps45 (by simp only[go_sem]) λ hbd=> ?_
 simp only[ae,aj,Nat.reduceAdd,Nat.reduceSub,af,ag,ah,ak]
 try simp only[go_sem]
 refine bH (v _ _ ?_)
 simp only[go_sem,z0]
 exact aQ hbd h
theorem validE{G:Glob}(hG:G.g 0=some cB)(p:Prg)(hp:Good p)(Z:St)(R:A→St→Prop)(h:R (db true) Z):AC Tryz.prog G 58 [.d (bK p)] Z R:=by
 have v:=sT hG p hp
 have z0:((0:Int)==0)=true:=rfl
 unfold bK at*
 refine bg a9 Tryz.func58 rfl Tryz.ntmps58 (by simp only[go_sem]) λ hbd=> ?_
 simp only[ae,aj,Nat.reduceAdd,Nat.reduceSub,af,ag,ah,ak]
 try simp only[go_sem]
 refine bH (v _ _ ?_)
 simp only[go_sem,z0]
 exact aQ hbd h
theorem fitsM{G:Glob}(p:Prg)(hp:Good p)(c:Cfg)(hf:Fits p 0 c)(Z:St)(R:A→St→Prop)(h:R (db true) Z):AC Tryz.prog G 81 [.d (bK p),.d (bX c)] Z R:=by
 obtain⟨z1,z2,z3,z4⟩:=hf.sz hp
 have hml:=hf.mem.len
 have hnp:=hf.npos
 have hnb:=hf.nbuf
 have hcn:=hp.sm.ncel
 have htn:=hp.sm.nthr
 have n1:((c.mem.length:Int)!=(p.cells.length:Int))=false:=by simp;omega
 have n2:((c.pos.length:Int)!=(p.threads.length:Int))=false:=by simp;omega
 have n3:((c.buf.length:Int)!=(p.threads.length:Int))=false:=by simp;omega
 unfold bK bX
 refine iN [9] a9 Tryz.func81 rfl Tryz.ntmps81 (by simp only[go_sem]) λ hbd=> ?_
 simp only[ae,aj,Nat.reduceAdd,Nat.reduceSub,af,ag,ah,ak]
 simp only[aY,bu,go_sem,n1,n2,n3,ac]
 refine bc (λ fr st=>fr=%[.o,.o,.ref Z.length 0,.ref (Z.length+1) 0|D7 (D5 (D4 [.o,.o,.o,.o,.o]))]∧st=Z++[bN p,dy c]) ?_ ?_
 ·simp only[bu,go_sem,ac]
  refine aS (λ k fr st=>∃j:Nat,j≤c.mem.length∧k=c.mem.length - j∧fr=%[.o,.o,.ref Z.length 0,.ref (Z.length+1) 0|D6 %[.d (.sl 1 (c.mem.map iD)),dn c.mem.length,dn j|D6 (D5 (D4 [.o,.o]))]]∧st=Z++[bN p,dy c]) c.mem.length _ (Wk.mask [2,3,36,37,38] ⟨0,by omega,by omega,rfl,rfl⟩) ?_
  rintro k fr st ⟨j,hj,hk,rfl,rfl⟩
  rcases aC j c.mem.length with hlt|hge
  ·have hd:decide ((j:Int)<(c.mem.length:Int))=true:=by simp;omega
   have w2:=bC j (by omega)
   have e1:=bW hlt
   have e2:=iM (l:=p.cells) (j:=j) (by omega)
   have hc:=hp.cell (j:=j) (by omega)
   have hv:=hf.mem.val j _ (cU 0 hlt)
   have hcj:p.cell (j:Int)=p.cells.getD j fU:=by unfold Prg.cell;rw[ad]
   rw[hcj]at hv
   generalize p.cells.getD j fU=x at e2 hc hv
   generalize c.mem.getD j 0=v at e1 hv
   simp only[fb]at e2
   have d0:decide (v<0)=false:=by simp;omega
   have d1:decide ((2:Int)^x.w.toNat≤v)=false:=by rw[ay];omega
   have hw:=hc.w
   simp only[aY,go_sem,hd,w2,e1,e2,d0,bshl1 hc.w,d1,ac,ad]
   exact⟨⟨by omega,by omega⟩,⟨by omega,by omega⟩,by omega,Wk.mask [2,3,36,37,38] ⟨c.mem.length - (j+1),by omega,j+1,by omega,rfl,rfl,rfl⟩⟩
  ·have hd:decide ((j:Int)<(c.mem.length:Int))=false:=by simp;omega
   simp only[go_sem,hd]
   exact Wk.mask [2,3] ⟨rfl,rfl⟩
 rintro fr st ⟨rfl,rfl⟩
 simp only[bu,go_sem,ac]
 refine aS (λ k fr st=>∃j:Nat,j≤c.pos.length∧k=c.pos.length - j∧fr=%[.o,.o,.ref Z.length 0,.ref (Z.length+1) 0|D6 (D5 %[.o,.o,.o,.o,.o,.o,.d (.sl 1 (c.pos.map iD)),dn c.pos.length,dn j|D6 [.o,.o,.o,.o]])]∧st=Z++[bN p,dy c]) c.pos.length _ (Wk.mask [2,3,58,59,60] ⟨0,by omega,by omega,rfl,rfl⟩) ?_
 rintro k fr st ⟨j,hj,hk,rfl,rfl⟩
 rcases aC j c.pos.length with hlt|hge
 ·have hd:decide ((j:Int)<(c.pos.length:Int))=true:=by simp;omega
  have w2:=bC j (by omega)
  have e1:=bW hlt
  have e2:=fe (l:=p.threads) (j:=j) (by omega)
  obtain⟨v1,v2,v3⟩:=hf.pos j _ (cU 0 hlt)
  have hth:p.thr j=p.threads.getD j fg:=rfl
  have eb:List.getD (c.buf.map cu) j default= .sl 2 []:=by
   rw[gH (l:=c.buf) (by omega),hf.quiet rfl _ (bv [] (by omega))];rfl
  rw[hth]at v2 v3
  generalize p.threads.getD j fg=x at e2 v2 v3
  generalize c.pos.getD j 0=v at e1 v1 v2 v3
  have d1:decide (v< -1)=false:=by simp;omega
  have d2:decide (v≥x.points)=false:=by simp;omega
  have d2':decide (x.points≤v)=false:=by simp;omega
  have d3:((v== -1)&& !x.asleep)=false:=by
   by_cases hv1:v= -1
   ·simp [(v3 hv1).1]
   ·simp [hv1]
  have d4:decide ((0:Int)<((0:Nat):Int))=false:=rfl
  simp only[bu,go_sem,hd,w2,e1,e2,eb,c8,d1,d2,d2',d3,d4,ac,ad]
  exact⟨⟨by omega,by omega⟩,⟨by omega,by omega⟩,⟨by omega,by omega⟩,Wk.keep [2,3,58,59,60] [0,1] (by decide) (aE _) hbd ⟨c.pos.length - (j+1),by omega,j+1,by omega,rfl,by simp only[go_sem],by simp only[go_sem,bu];rfl⟩⟩
 ·have hd:decide ((j:Int)<(c.pos.length:Int))=false:=by simp;omega
  simp only[go_sem,hd]
  exact aQ hbd h
theorem CopyU_r (c:Cfg) (u:Nat) (hu:u<c.buf.length) (hm:c.mem.length≤1000) (hps:c.pos.length≤1000) (hb:c.buf.length≤1000) (hbe:∀l∈c.buf,l.length≤100∧∀e∈l,e.cells.length≤1000∧e.vals.length≤1000) (Z:St) (G:Glob) (R:A→St→Prop)
  (h:R (.agg [.rs Z.length 1 0 c.mem.length (some 3),.rs (Z.length+1) 1 0 c.pos.length (some 3),.rs (Z.length+2) 1 0 c.buf.length (some 46)]) (Z++[bY c.mem,bY c.pos,some (.cells ((c.buf.map λ b=>A.d (cu b)).set u (.rs (Z.length+3) 2 0 (c.bufAt u).length (some 48)))),some (.cells (bU ((c.bufAt u).map bO)))])):AC Tryz.prog G 73 [.d (bX c)] Z R:=by
 unfold bX
 refine bD [2,10] a9 Tryz.func73 rfl Tryz.ntmps73 (by simp only[go_sem]) λ hbd=> ?_
 simp only[ae,aj,Nat.reduceAdd,Nat.reduceSub,af,ag,ah,ak]
 simp only[go_sem,ac]
 refine bc (λ fr st=>fr=%[.o,.ref Z.length 0,.ref (Z.length+1) 0,.ref (Z.length+5) 0|D6 (D5 (D4 [.o,.o]))]∧st=Z++[dy c,df (.d .nils) (.d .nils) (.d .nils),bY c.mem,bY c.pos,some (.cells (fB c.buf 0)),df (.rs (Z.length+2) 1 0 c.mem.length (some 3)) (.rs (Z.length+3) 1 0 c.pos.length (some 3)) (.rs (Z.length+4) 1 0 c.buf.length (some 46))]) ?_ ?_
 ·simp only[go_sem,ac]
  refine nJ (.gro [0,1,3,4,6,7,8] [2,5,9] 11 (.plain (.take 10<| .take 12<| .done)) (.plain (.take 10<| .take 11<| .take 12<| .done))) (by kernel_rfl) ?_
  simp only[go_sem,ac]
  have hc1:=ml c.mem hm
  have hc2:=ml c.pos hps
  refine lZ [⟨2,9,.rs 1 0 c.mem.length (some 3),.cells (c.mem.map λ x=>A.d (iD x))⟩,⟨5,12,.rs 1 0 c.pos.length (some 3),.cells (c.pos.map λ x=>A.d (iD x))⟩,⟨9,16,.rs 1 0 c.buf.length (some 46),.cells (fB c.buf 0)⟩] ⟨11,3,.ref 0,.cells [.d .nils,.d .nils,.d .nils]⟩ (λ q hq=> ?_) (λ q hq=> ?_) rfl ?_ ?_
  ·simp only[ah,ak,aV,bi,or_false]at hq
   rcases hq with rfl|rfl|rfl|rfl<;> refine zm rfl λ Z k hk=> ?_<;> simp only[go_sem]
   ·exact bH (hc1 _ _ _ hk)
   ·exact bH (hc2 _ _ _ hk)
   ·rw[pI]
    exact⟨⟨by omega,by omega,by omega,by omega⟩,hk⟩
   ·exact hk
  ·simp only[ah,ak,aV,bi,or_false]at hq
   rcases hq with rfl|rfl|rfl|rfl
   ·exact jn λ x hx=>let ⟨y,_,e⟩:=aI.1 hx;⟨_,e.symm⟩
   ·exact jn λ x hx=>let ⟨y,_,e⟩:=aI.1 hx;⟨_,e.symm⟩
   ·exact jn (oA c.buf 0)
   ·rfl
  ·simp only[go_sem,ac,aM,bq,ah,ak,cf,Nat.reduceAdd]
   exact Wk.mask [1,2,3] ⟨rfl,rfl⟩
  ·simp only[go_sem,ac,aM,bq,ah,ak,cf,Nat.reduceAdd]
   exact Wk.mask [1,2,3] ⟨rfl,rfl⟩
 rintro fr st ⟨rfl,rfl⟩
 refine bc (λ fr st=>fr=%[.o,.ref Z.length 0,.ref (Z.length+1) 0,.ref (Z.length+5) 0|D6 (D5 (D4 [.o,.o]))]∧st=Z++[dy c,df (.d .nils) (.d .nils) (.d .nils),bY c.mem,bY c.pos,some (.cells ((c.buf.map λ b=>A.d (cu b)).set u (.rs (Z.length+6) 2 0 (c.bufAt u).length (some 48)))),df (.rs (Z.length+2) 1 0 c.mem.length (some 3)) (.rs (Z.length+3) 1 0 c.pos.length (some 3)) (.rs (Z.length+4) 1 0 c.buf.length (some 46)),some (.cells (bU ((c.bufAt u).map bO)))]) ?_ ?_
 ·simp only[go_sem,ac]
  refine aS (λ m fr st=>∃t:Nat,t≤c.buf.length∧m=c.buf.length - t∧fr=%[.o,.ref Z.length 0,.ref (Z.length+1) 0,.ref (Z.length+5) 0,dn t|D6 (D5 (D4 [.o]))]∧st=if u<t then Z++[dy c,df (.d .nils) (.d .nils) (.d .nils),bY c.mem,bY c.pos,some (.cells ((fB c.buf t).set u (.rs (Z.length+6) 2 0 (c.bufAt u).length (some 48)))),df (.rs (Z.length+2) 1 0 c.mem.length (some 3)) (.rs (Z.length+3) 1 0 c.pos.length (some 3)) (.rs (Z.length+4) 1 0 c.buf.length (some 46)),some (.cells (bU ((c.bufAt u).map bO)))]else Z++[dy c,df (.d .nils) (.d .nils) (.d .nils),bY c.mem,bY c.pos,some (.cells (fB c.buf t)),df (.rs (Z.length+2) 1 0 c.mem.length (some 3)) (.rs (Z.length+3) 1 0 c.pos.length (some 3)) (.rs (Z.length+4) 1 0 c.buf.length (some 46))]) c.buf.length _ (Wk.mask [1,2,3,4] ⟨0,by omega,by omega,rfl,by rw[if_neg (by omega)]⟩) ?_
  rintro m fr st ⟨t,ht,hmm,rfl,rfl⟩
  rcases aC t c.buf.length with hlt|hge
  ·have hd:decide ((t:Int)<(c.buf.length:Int))=true:=by simp;omega
   have w2:=bC t (by omega)
   have eb:List.getD (c.buf.map cu) t default= .sl 2 ((c.buf.getD t []).map bO):=gH (l:=c.buf) hlt
   obtain⟨hb1,hb2⟩:=hbe _ (bv [] hlt)
   have hsucc:=pJ c.buf t hlt
   have hnil:=rF c.buf t hlt
   have hLd:=oA c.buf t
   have hLl:=rG c.buf t (by omega)
   rcases go t u with htu|htu|htu
   ·rw[if_neg (by omega)]
    obtain⟨L,hL⟩:∃L,fB c.buf t=L:=⟨_,rfl⟩
    rw[hL]at hsucc hnil hLd hLl
    rw[hL]
    obtain⟨B,hB⟩:∃B,c.buf.getD t []=B:=⟨_,rfl⟩
    rw[hB]at eb hb1 hb2 hsucc
    simp only[go_sem,hd,ac]
    refine aS (λ m fr st=>∃i:Nat,i≤B.length∧m=B.length - i∧fr=%[.o,.ref Z.length 0,.ref (Z.length+1) 0,.ref (Z.length+5) 0,dn t,dn i|D6 (D5 (D4 []))]∧st=Z++[dy c,df (.d .nils) (.d .nils) (.d .nils),bY c.mem,bY c.pos,some (.cells (L.set t (.rs (Z.length+6) 2 0 i (some 48)))),df (.rs (Z.length+2) 1 0 c.mem.length (some 3)) (.rs (Z.length+3) 1 0 c.pos.length (some 3)) (.rs (Z.length+4) 1 0 c.buf.length (some 46)),some (.cells (bU ((B.take i).map bO)))]) B.length _ ?_ ?_
    ·refine Wk.via (bw.emptyIn (Z:=Z) 4 t 2 (some 48) rfl hnil) ?_
     exact Wk.mask [1,2,3,4,5] ⟨0,by omega,by omega,rfl,by simp [bU]⟩
    rintro m2 fr st ⟨i,hi,hm2,rfl,rfl⟩
    rcases aC i B.length with hl2|hg2
    ·have hd2:decide ((i:Int)<(B.length:Int))=true:=by simp;omega
     have w3:=bC i (by omega)
     have e3:=gG (l:=B) hl2
     obtain⟨q1,q2⟩:=hb2 _ (bv cD hl2)
     have hsn:=bG cD hl2
     generalize B.getD i cD=E at e3 q1 q2 hsn
     have hc1:=kJ E.cells q1
     have hc2:=kJ E.vals q2
     simp only[go_sem,hd2,w3,eb,e3,bO,ac,ad]
     refine⟨⟨by omega,by omega⟩,⟨by omega,by omega⟩,⟨by omega,by omega⟩,?_⟩
     refine bb (.take 2<| .take 5<| .tk 2 8<| .pure 10<| .tk 2 11<| .pure 13<| .tk 2 3<| .tk 2 6<| .take 14<| .alt 0 (.alt 1 (.tk 4 15<| .done)<| .alt 15 (.alt 1 (.tk 3 16<| .done)<| .alt 16 (.take 1<| .tk 2 17<| .done)<| .stop)<| .stop)<| .alt 15 (.alt 0 (.alt 1 (.tk 3 16<| .done)<| .alt 16 (.take 1<| .tk 2 17<| .done)<| .stop)<| .alt 16 (.tk 2 0<| .tk 2 17<| .done)<| .stop)<| .stop) (by kernel_rfl) ?_
     simp only[go_sem,w3,eb,e3,bO,ac,ad]
     refine mN (.d (bu E.cells)) ⟨λ Z'=>bH (hc1 Z' G _ ⟨rfl,rfl⟩),?_⟩
     simp only[go_sem,w3,eb,e3,bO,ac,ad]
     refine mN (.d (bu E.vals)) ⟨λ Z'=>bH (hc2 Z' G _ ⟨rfl,rfl⟩),?_⟩
     have hgs:=g7 (L:=L) (t:=t) (by omega)
     have hss:=fH (L:=L) (t:=t) (by omega)
     simp only[bu,go_sem,w3,eb,e3,bO,hLl,hgs,hss,br,ac,aH,ad]
     have hfl:=dx (B.take i)
     rw[aP,cC hi]at hfl
     refine⟨⟨by omega,by omega⟩,by omega,⟨hfl,by simp only[maxLen];omega,by omega⟩,⟨by omega,by omega⟩,by omega,?_⟩
     refine Wk.keep [1,2,3,4,5] [0,1,2,3,4,5,9] (by decide) (aE _) hbd ⟨B.length - (i+1),by omega,i+1,by omega,rfl,by simp only[go_sem],?_⟩
     rw[hsn,iG]
     simp only[go_sem,bY,bu,dj,cx,ec,cG,dK _ _ _ hLd,aM,bq]
     rfl
    ·have hd2:decide ((i:Int)<(B.length:Int))=false:=by simp;omega
     obtain rfl:i=B.length:=by omega
     rw[aK (aE _)]
     simp only[go_sem,hd2,w2,eb,ac,ad]
     refine⟨⟨by omega,by omega⟩,?_⟩
     refine Wk.via (bw.freezeIn (Z:=Z) 6 4 2 0 (B.map bO) rfl (iB B) rfl (by decide)) ?_
     simp only[go_sem,ac,gF,iF _ _ _ _ _ hLd,and_self,if_true,false_and,if_false]
     refine Wk.keep [1,2,3,4] [0,1,2,3,4,5] (by decide) (aE _) hbd ⟨c.buf.length - (t+1),by omega,t+1,by omega,rfl,by simp only[go_sem],?_⟩
     rw[if_neg (by omega),←hsucc]
     simp only[go_sem,bY,cx,ec,dK _ _ _ hLd,cu]
   ·subst htu
    rw[if_neg (by omega)]
    obtain⟨L,hL⟩:∃L,fB c.buf t=L:=⟨_,rfl⟩
    rw[hL]at hsucc hnil hLd hLl
    rw[hL]
    obtain⟨B,hB⟩:∃B,c.buf.getD t []=B:=⟨_,rfl⟩
    have hBu:c.bufAt t=B:=hB
    rw[hB]at eb hb1 hb2 hsucc
    rw[hBu]
    simp only[go_sem,hd,ac]
    refine aS (λ m fr st=>∃i:Nat,i≤B.length∧m=B.length - i∧fr=%[.o,.ref Z.length 0,.ref (Z.length+1) 0,.ref (Z.length+5) 0,dn t,dn i|D6 (D5 (D4 []))]∧st=Z++[dy c,df (.d .nils) (.d .nils) (.d .nils),bY c.mem,bY c.pos,some (.cells (L.set t (.rs (Z.length+6) 2 0 i (some 48)))),df (.rs (Z.length+2) 1 0 c.mem.length (some 3)) (.rs (Z.length+3) 1 0 c.pos.length (some 3)) (.rs (Z.length+4) 1 0 c.buf.length (some 46)),some (.cells (bU ((B.take i).map bO)))]) B.length _ ?_ ?_
    ·refine Wk.via (bw.emptyIn (Z:=Z) 4 t 2 (some 48) rfl hnil) ?_
     exact Wk.mask [1,2,3,4,5] ⟨0,by omega,by omega,rfl,by simp [bU]⟩
    rintro m2 fr st ⟨i,hi,hm2,rfl,rfl⟩
    rcases aC i B.length with hl2|hg2
    ·have hd2:decide ((i:Int)<(B.length:Int))=true:=by simp;omega
     have w3:=bC i (by omega)
     have e3:=gG (l:=B) hl2
     obtain⟨q1,q2⟩:=hb2 _ (bv cD hl2)
     have hsn:=bG cD hl2
     generalize B.getD i cD=E at e3 q1 q2 hsn
     have hc1:=kJ E.cells q1
     have hc2:=kJ E.vals q2
     simp only[go_sem,hd2,w3,eb,e3,bO,ac,ad]
     refine⟨⟨by omega,by omega⟩,⟨by omega,by omega⟩,⟨by omega,by omega⟩,?_⟩
     refine bb (.take 2<| .take 5<| .tk 2 8<| .pure 10<| .tk 2 11<| .pure 13<| .tk 2 3<| .tk 2 6<| .take 14<| .alt 0 (.alt 1 (.tk 4 15<| .done)<| .alt 15 (.alt 1 (.tk 3 16<| .done)<| .alt 16 (.take 1<| .tk 2 17<| .done)<| .stop)<| .stop)<| .alt 15 (.alt 0 (.alt 1 (.tk 3 16<| .done)<| .alt 16 (.take 1<| .tk 2 17<| .done)<| .stop)<| .alt 16 (.tk 2 0<| .tk 2 17<| .done)<| .stop)<| .stop) (by kernel_rfl) ?_
     simp only[go_sem,w3,eb,e3,bO,ac,ad]
     refine mN (.d (bu E.cells)) ⟨λ Z'=>bH (hc1 Z' G _ ⟨rfl,rfl⟩),?_⟩
     simp only[go_sem,w3,eb,e3,bO,ac,ad]
     refine mN (.d (bu E.vals)) ⟨λ Z'=>bH (hc2 Z' G _ ⟨rfl,rfl⟩),?_⟩
     have hgs:=g7 (L:=L) (t:=t) (by omega)
     have hss:=fH (L:=L) (t:=t) (by omega)
     simp only[bu,go_sem,w3,eb,e3,bO,hLl,hgs,hss,br,ac,aH,ad]
     have hfl:=dx (B.take i)
     rw[aP,cC hi]at hfl
     refine⟨⟨by omega,by omega⟩,by omega,⟨hfl,by simp only[maxLen];omega,by omega⟩,⟨by omega,by omega⟩,by omega,?_⟩
     refine Wk.keep [1,2,3,4,5] [0,1,2,3,4,5,9] (by decide) (aE _) hbd ⟨B.length - (i+1),by omega,i+1,by omega,rfl,by simp only[go_sem],?_⟩
     rw[hsn,iG]
     simp only[go_sem,bY,bu,dj,cx,ec,cG,dK _ _ _ hLd,aM,bq]
     rfl
    ·have hd2:decide ((i:Int)<(B.length:Int))=false:=by simp;omega
     obtain rfl:i=B.length:=by omega
     rw[aK (aE _)]
     simp only[go_sem,hd2,w2,eb,ac,ad]
     refine⟨⟨by omega,by omega⟩,?_⟩
     refine Wk.mask [1,2,3,4] ⟨c.buf.length - (t+1),by omega,t+1,by omega,rfl,rfl,?_⟩
     rw[if_pos (by omega),←hsucc,dT]
   ·rw[if_pos htu]
    obtain⟨K,hK⟩:∃K,fB c.buf t=K:=⟨_,rfl⟩
    rw[hK]at hsucc hnil hLd hLl
    rw[hK]
    have hnil':(K.set u (.rs (Z.length+6) 2 0 (c.bufAt u).length (some 48)))[t]? =some (A.d .nils):=by rw[aD (by omega)];exact hnil
    have hsucc':(K.set u (.rs (Z.length+6) 2 0 (c.bufAt u).length (some 48))).set t (A.d (cu (c.buf.getD t [])))=(fB c.buf (t+1)).set u (.rs (Z.length+6) 2 0 (c.bufAt u).length (some 48)):=by rw[←hsucc,EC _ _ (by omega)]
    have hLl':(K.set u (.rs (Z.length+6) 2 0 (c.bufAt u).length (some 48))).length=c.buf.length:=by rw[aH];exact hLl
    have hren:∀p,Go.Ab.ix Z.length (0::1::2::3::4::5::6::p) (K.set u (.rs (Z.length+6) 2 0 (c.bufAt u).length (some 48)))=K.set u (.rs (Z.length+6) 2 0 (c.bufAt u).length (some 48)):=λ p=>by
     rw[ec,dK _ _ _ hLd];simp only[go_sem]
    have hfrz:∀xs:List D,jP (Z.length+7) 2 0 xs (K.set u (.rs (Z.length+6) 2 0 (c.bufAt u).length (some 48)))=K.set u (.rs (Z.length+6) 2 0 (c.bufAt u).length (some 48)):=λ xs=>by
     rw[gF,iF _ _ _ _ _ hLd];simp only[go_sem,false_and,if_false]
    obtain⟨L,hL⟩:∃L,K.set u (.rs (Z.length+6) 2 0 (c.bufAt u).length (some 48))=L:=⟨_,rfl⟩
    rw[hL]at hnil' hsucc' hLl' hren hfrz
    rw[hL]
    clear hnil hsucc hLl hLd
    have hnil:=hnil'
    have hsucc:=hsucc'
    have hLl:=hLl'
    obtain⟨B,hB⟩:∃B,c.buf.getD t []=B:=⟨_,rfl⟩
    rw[hB]at eb hb1 hb2 hsucc
    simp only[go_sem,hd,ac]
    refine aS (λ m fr st=>∃i:Nat,i≤B.length∧m=B.length - i∧fr=%[.o,.ref Z.length 0,.ref (Z.length+1) 0,.ref (Z.length+5) 0,dn t,dn i|D6 (D5 (D4 []))]∧st=Z++[dy c,df (.d .nils) (.d .nils) (.d .nils),bY c.mem,bY c.pos,some (.cells (L.set t (.rs (Z.length+7) 2 0 i (some 48)))),df (.rs (Z.length+2) 1 0 c.mem.length (some 3)) (.rs (Z.length+3) 1 0 c.pos.length (some 3)) (.rs (Z.length+4) 1 0 c.buf.length (some 46)),some (.cells (bU ((c.bufAt u).map bO))),some (.cells (bU ((B.take i).map bO)))]) B.length _ ?_ ?_
    ·refine Wk.via (bw.emptyIn (Z:=Z) 4 t 2 (some 48) rfl hnil) ?_
     exact Wk.mask [1,2,3,4,5] ⟨0,by omega,by omega,rfl,by simp [bU]⟩
    rintro m2 fr st ⟨i,hi,hm2,rfl,rfl⟩
    rcases aC i B.length with hl2|hg2
    ·have hd2:decide ((i:Int)<(B.length:Int))=true:=by simp;omega
     have w3:=bC i (by omega)
     have e3:=gG (l:=B) hl2
     obtain⟨q1,q2⟩:=hb2 _ (bv cD hl2)
     have hsn:=bG cD hl2
     generalize B.getD i cD=E at e3 q1 q2 hsn
     have hc1:=kJ E.cells q1
     have hc2:=kJ E.vals q2
     simp only[go_sem,hd2,w3,eb,e3,bO,ac,ad]
     refine⟨⟨by omega,by omega⟩,⟨by omega,by omega⟩,⟨by omega,by omega⟩,?_⟩
     refine bb (.take 2<| .take 5<| .tk 2 8<| .pure 10<| .tk 2 11<| .pure 13<| .tk 2 3<| .tk 2 6<| .take 14<| .alt 0 (.alt 1 (.tk 4 15<| .done)<| .alt 15 (.alt 1 (.tk 3 16<| .done)<| .alt 16 (.take 1<| .tk 2 17<| .done)<| .stop)<| .stop)<| .alt 15 (.alt 0 (.alt 1 (.tk 3 16<| .done)<| .alt 16 (.take 1<| .tk 2 17<| .done)<| .stop)<| .alt 16 (.tk 2 0<| .tk 2 17<| .done)<| .stop)<| .stop) (by kernel_rfl) ?_
     simp only[go_sem,w3,eb,e3,bO,ac,ad]
     refine mN (.d (bu E.cells)) ⟨λ Z'=>bH (hc1 Z' G _ ⟨rfl,rfl⟩),?_⟩
     simp only[go_sem,w3,eb,e3,bO,ac,ad]
     refine mN (.d (bu E.vals)) ⟨λ Z'=>bH (hc2 Z' G _ ⟨rfl,rfl⟩),?_⟩
     have hgs:=g7 (L:=L) (t:=t) (by omega)
     have hss:=fH (L:=L) (t:=t) (by omega)
     simp only[bu,go_sem,w3,eb,e3,bO,hLl,hgs,hss,br,ac,aH,ad]
     have hfl:=dx (B.take i)
     rw[aP,cC hi]at hfl
     refine⟨⟨by omega,by omega⟩,by omega,⟨hfl,by simp only[maxLen];omega,by omega⟩,⟨by omega,by omega⟩,by omega,?_⟩
     refine Wk.keep [1,2,3,4,5] [0,1,2,3,4,5,6,10] (by decide) (aE _) hbd ⟨B.length - (i+1),by omega,i+1,by omega,rfl,by simp only[go_sem],?_⟩
     rw[hsn,iG]
     simp only[go_sem,bY,bu,dj,cx,ec,cG,hren,aM,bq]
     rfl
    ·have hd2:decide ((i:Int)<(B.length:Int))=false:=by simp;omega
     obtain rfl:i=B.length:=by omega
     rw[aK (aE _)]
     simp only[go_sem,hd2,w2,eb,ac,ad]
     refine⟨⟨by omega,by omega⟩,?_⟩
     refine Wk.via (bw.freezeIn (Z:=Z) 7 4 2 0 (B.map bO) rfl (iB B) rfl (by decide)) ?_
     simp only[go_sem,ac,gF,hfrz,and_self,if_true,false_and,if_false]
     refine Wk.keep [1,2,3,4] [0,1,2,3,4,5,6] (by decide) (aE _) hbd ⟨c.buf.length - (t+1),by omega,t+1,by omega,rfl,by simp only[go_sem],?_⟩
     rw[if_pos (by omega),←hsucc]
     simp only[go_sem,bY,cx,ec,hren,cu,cG]
  ·have hd:decide ((t:Int)<(c.buf.length:Int))=false:=by simp;omega
   obtain rfl:t=c.buf.length:=by omega
   rw[pK,if_pos hu]
   simp only[go_sem,hd,ac]
   exact Wk.mask [1,2,3] ⟨rfl,rfl⟩
 rintro fr st ⟨rfl,rfl⟩
 simp only[go_sem,ac]
 refine nn [2,3,4,6] (by decide) hbd ?_
 simp only[go_sem,bY,cx,ec,cG,dK _ _ _ (gA c.buf)]
 exact h
end
end Go.Proofs.YtdpdbokicanpoaaGreatDoor
