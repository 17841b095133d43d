import Derived.Test.YtdpdbokicanpoaaGreatDoorZ41
set_option linter.unusedSimpArgs false
set_option linter.unusedVariables false
set_option maxHeartbeats 64000000
set_option maxRecDepth 100000
namespace Go.Proofs.YtdpdbokicanpoaaGreatDoor
section
open Go Go.Ab
theorem pow_ac(n:Nat)(hn:n≤60)(Z:St)(G:Glob)(R:A→St→Prop)(h:R (di (2^n:Nat)) Z):AC Tryz.prog G 102 [dn n] Z R:=by
 refine bg a9 Tryz.func102 rfl Tryz.ntmps102 (by simp only[go_sem]) λ hbd=> ?_
 simp only[ae,aj,Nat.reduceAdd,Nat.reduceSub,af,ag,ah,ak]
 simp only[go_sem]
 refine aS (λ m fr st=>∃j:Nat,j≤n∧m=n - j∧fr=%[dn n,.o,.o,di (2^j:Nat),dn j|D4 []]∧st=Z) n _
  (Wk.mask [0,3,4] ⟨0,by omega,rfl,rfl,rfl⟩) ?_
 rintro m fr Z ⟨j,hj,hm,rfl,rfl⟩
 rcases aC j n with hlt|hge
 ·have hd:decide ((j:Int)<(n:Int))=true:=by simp;omega
  have w2:=bC j (by omega)
  have hp:(2^j:Nat)≤2^60:=gn (by omega) (by omega)
  have w1:IntKind.i64.wrap (((2^j:Nat):Int)*2)=((2^(j+1):Nat):Int):=by
   rw[Nat.pow_succ]
   generalize 2^j=q at hp
   rw[cq _ (by omega) (by omega)];omega
  simp only[go_sem,hd,w1,w2]
  exact Wk.mask [0,3,4] ⟨n - (j+1),by omega,j+1,hlt,rfl,rfl,rfl⟩
 ·have hd:decide ((j:Int)<(n:Int))=false:=by simp;omega
  obtain rfl:j=n:=by omega
  simp only[go_sem,hd]
  exact cw h
theorem arity_ac(o:Int)(Z:St)(G:Glob)(R:A→St→Prop)(h:R (di (Ex.arity o)) Z):AC Tryz.prog G 176 [di o] Z R:=by
 refine bg a9 Tryz.func176 rfl Tryz.ntmps176 (by simp only[go_sem]) λ hbd=> ?_
 simp only[ae,aj,Nat.reduceAdd,Nat.reduceSub,af,ag,ah,ak]
 simp only[go_sem]
 simp only[Ex.arity]at h
 refine⟨λ c1=>cw ?_,λ c1=>⟨λ c2=>cw ?_,λ c2=>⟨λ c3=>cw ?_,λ c3=>⟨λ c4=>cw ?_,λ c4=>cw ?_⟩⟩⟩⟩<;> simp at c1<;> (try simp at c2)<;> (try simp at c3)<;> (try simp at c4)
 ·rwa [if_pos (by omega)]at h
 ·rwa [if_neg (by omega),if_pos (by omega)]at h
 ·rwa [if_neg (by omega),if_neg (by omega),if_pos (by omega)]at h
 ·rwa [if_neg (by omega),if_neg (by omega),if_neg (by omega),if_pos (by omega)]at h
 ·rwa [if_neg (by omega),if_neg (by omega),if_neg (by omega),if_neg (by omega)]at h
theorem node_ac(e:Ex)(hk:e.kids.length≤reachBytes)(Z:St)(G:Glob)(R:A→St→Prop)(h:R (db e.fits) Z):AC Tryz.prog G 162 [.d e.d] Z R:=by
 rw[Ex.d_eq]
 refine bD [3] a9 Tryz.func162 rfl Tryz.ntmps162 (by simp only[go_sem]) λ hbd=> ?_
 simp only[ae,aj,Nat.reduceAdd,Nat.reduceSub,af,ag,ah,ak]
 simp only[go_sem]
 refine bc (λ fr st=>(Ex.arity e.op=e.kids.length∧1≤e.w∧e.w≤8)∧fr=%[.o,.ref Z.length 0|D7 (D7 (D4 [.o,.o,.o,.o]))]∧st=Z++[some (.cells [.d (iD e.op),.d (iD e.w),.d (iD e.n),.d (.sl 4 (e.kids.map Ex.d))])]) ?_ ?_
 ·simp only[go_sem]
  refine bb (.tk 2 0<| .pure 2<| .tk 14 3<| .done) (by kernel_rfl) ?_
  simp only[go_sem]
  refine mN (di (Ex.arity e.op)) ⟨λ Z'=>bH (arity_ac _ _ _ _ ⟨rfl,rfl⟩),?_⟩
  simp only[go_sem,ac]
  refine⟨λ c=>aQ hbd ?_,λ c=>Wk.mask [1] ⟨?_,rfl,rfl⟩⟩
  ·have:e.fits=false:=by
    simp only[Ex.fits,dw,ay]
    left
    rintro⟨h1,h2,h3⟩
    simp [h1]at c
    omega
   rwa [this]at h
  ·simp at c;omega
 ·rintro fr st ⟨⟨ha,h1,h2⟩,rfl,rfl⟩
  have hop:1≤e.op∧e.op≤14:=by
   unfold Ex.arity at ha
   split at ha
   ·omega
   ·split at ha
    ·omega
    ·split at ha
     ·omega
     ·split at ha<;> omega
  have hL:e.kids.length=(Ex.arity e.op).toNat:=by omega
  by_cases o1:e.op=1
  ·have b1:(e.op==1)=true:=by simp [o1]
   obtain⟨W,hW⟩:∃W:Nat,e.w=W:=⟨e.w.toNat,by omega⟩
   simp only[go_sem,b1]
   refine bb (.tk 4 0<| .tk 2 6<| .pure 8<| .tk 2 4<| .tk 3 9<| .done) (by kernel_rfl) ?_
   simp only[go_sem,hW]
   refine exQ (iD (2^W:Nat)) ⟨λ _=> ?_,?_⟩
   ·simp only[go_sem]
    refine⟨by assumption,λ Z'=>bH (pow_ac W (by omega) _ _ _ ⟨rfl,rfl⟩)⟩
   simp only[go_sem]
   refine aQ hbd ?_
   have:e.fits=(decide (0≤e.n)&&decide (e.n<((2^W:Nat):Int))):=by
    have hd:decide (Ex.arity e.op=e.kids.length∧1≤e.w∧e.w≤8)=true:=by simp;omega
    rw[hW]at hd
    simp only[Ex.fits,hW,hd,ca,if_pos o1,ad,gZ]
    simp
   rw[this]at h
   exact h
  have b1:(e.op==1)=false:=by simp [o1]
  have hd:decide (Ex.arity e.op=e.kids.length∧1≤e.w∧e.w≤8)=true:=by simp;omega
  by_cases o2:e.op=2∨e.op=3
  ·have hf:e.fits=(decide (0≤e.n)&&decide (e.n<32)):=by
    simp only[Ex.fits,hd,ca,if_neg o1,if_pos o2,gZ]
   rw[hf]at h
   rcases o2 with o2|o2
   ·have b2:(e.op==2)=true:=by simp [o2]
    simp only[go_sem,b1,b2]
    exact aQ hbd h
   ·have b2:(e.op==2)=false:=by simp [o2]
    have b3:(e.op==3)=true:=by simp [o2]
    simp only[go_sem,b1,b2,b3]
    exact aQ hbd h
  have b2:(e.op==2)=false:=by simp;omega
  have b3:(e.op==3)=false:=by simp;omega
  by_cases o4:e.op=4
  ·have b4:(e.op==4)=true:=by simp [o4]
   have hl:e.kids.length=1:=by rw[hL,o4];rfl
   have k0:=mY (e:=e) (i:=0) (by omega)
   have hf:e.fits=(e.n==0&&e.kw 0==e.w):=by
    simp only[Ex.fits,hd,ca,if_neg o1,if_neg o2,if_pos o4,gZ];rfl
   rw[hf]at h
   simp only[go_sem,b1,b2,b3,b4]
   refine bb (.tk 14 0<| .done) (by kernel_rfl) ?_
   simp only[go_sem,ac,hl,k0,bZ]
   exact⟨λ q=>⟨q,by omega,by omega⟩,aQ hbd h⟩
  have b4:(e.op==4)=false:=by simp [o4]
  by_cases o11:e.op=11∨e.op=12∨e.op=13
  ·have hl:e.kids.length=2:=by rw[hL];rcases o11 with o|o|o<;> rw[o]<;> rfl
   have k0:=mY (e:=e) (i:=0) (by omega)
   have k1:=mY (e:=e) (i:=1) (by omega)
   have hf:e.fits=(e.n==0&&(e.w==1&&e.kw 0==e.kw 1)):=by
    simp only[Ex.fits,hd,ca,if_neg o1,if_neg o2,if_neg o4,if_pos o11,gZ];rfl
   rw[hf,←Bool.and_assoc]at h
   rcases o11 with o|o|o<;>
   ·simp only[go_sem,o,Int.reduceBEq]
    refine bb (.tk 22 0<| .done) (by kernel_rfl) ?_
    simp only[go_sem,ac,hl,k0,k1,bZ,dI]
    exact⟨λ q=>⟨q,by omega,by omega⟩,λ q=>⟨q,by omega,by omega⟩,aQ hbd h⟩
  have b11:(e.op==11)=false:=by simp;omega
  have b12:(e.op==12)=false:=by simp;omega
  have b13:(e.op==13)=false:=by simp;omega
  by_cases o14:e.op=14
  ·have hl:e.kids.length=3:=by rw[hL,o14];rfl
   have k0:=mY (e:=e) (i:=0) (by omega)
   have k1:=mY (e:=e) (i:=1) (by omega)
   have k2:=mY (e:=e) (i:=2) (by omega)
   have b14:(e.op==14)=true:=by simp [o14]
   have hf:e.fits=(e.n==0&&(e.kw 0==1&&(e.kw 1==e.w&&e.kw 2==e.w))):=by
    simp only[Ex.fits,hd,ca,if_neg o1,if_neg o2,if_neg o4,if_neg o11,if_pos o14,gZ];rfl
   rw[hf,←Bool.and_assoc,←Bool.and_assoc]at h
   simp only[go_sem,b1,b2,b3,b4,b11,b12,b13,b14]
   refine bb (.tk 32 0<| .done) (by kernel_rfl) ?_
   simp only[go_sem,ac,hl,k0,k1,k2,bZ,dI,show Int.toNat 2=2 from rfl]
   exact⟨λ q=>⟨q,by omega,by omega⟩,λ q=>⟨q,by omega,by omega⟩,λ q=>⟨q,by omega,by omega⟩,aQ hbd h⟩
  ·have b14:(e.op==14)=false:=by simp [o14]
   have hl:e.kids.length=2:=by
    rw[hL]
    have:Ex.arity e.op=2:=by simp only[Ex.arity];rw[if_neg (by omega),if_neg (by omega),if_pos (by omega)]
    rw[this];rfl
   have k0:=mY (e:=e) (i:=0) (by omega)
   have k1:=mY (e:=e) (i:=1) (by omega)
   have hf:e.fits=(e.n==0&&(e.kw 0==e.w&&e.kw 1==e.w)):=by
    simp only[Ex.fits,hd,ca,if_neg o1,if_neg o2,if_neg o4,if_neg o11,if_neg o14,gZ];rfl
   rw[hf,←Bool.and_assoc]at h
   simp only[go_sem,b1,b2,b3,b4,b11,b12,b13,b14]
   refine bb (.tk 24 0<| .done) (by kernel_rfl) ?_
   simp only[go_sem,ac,hl,k0,k1,bZ,dI]
   exact⟨λ q=>⟨q,by omega,by omega⟩,λ q=>⟨q,by omega,by omega⟩,aQ hbd h⟩
theorem deep_ac(l:Nat):∀(e:Ex) (hok:e.Ok) (hl:l≤1000) (Z:St) (G:Glob) (R:A→St→Prop) (h:R (db (e.deep l)) Z),AC Tryz.prog G 142 [.d e.d,dn l] Z R:=by
 induction l with
 |zero=>
  intro e hok hl Z G R h
  rw[Ex.d_eq]
  refine bg a9 Tryz.func142 rfl Tryz.ntmps142 (by simp only[go_sem]) λ hbd=> ?_
  simp only[ae,aj,Nat.reduceAdd,Nat.reduceSub,af,ag,ah,ak]
  have d1:decide (((0:Nat):Int)<1)=true:=by decide
  simp only[go_sem,d1]
  refine gO (.bool true) ⟨λ hc=>Bool.noConfusion hc,?_⟩
  simp only[go_sem]
  exact aQ hbd h
 |succ l ih=>
  intro e hok hl Z G R h
  obtain⟨hk,hks⟩:=hok
  rw[Ex.d_eq]
  refine iN [3] a9 Tryz.func142 rfl Tryz.ntmps142 (by simp only[go_sem]) λ hbd=> ?_
  simp only[ae,aj,Nat.reduceAdd,Nat.reduceSub,af,ag,ah,ak]
  have d1:decide (((l+1:Nat):Int)<1)=false:=by simp;omega
  simp only[go_sem]
  refine bc (λ fr st=>e.fits=true∧fr=%[.o,dn (l+1),.ref Z.length 0|D5 (D4 [.o,.o])]∧st=Z++[some (.cells [.d (iD e.op),.d (iD e.w),.d (iD e.n),.d (.sl 4 (e.kids.map Ex.d))])]) ?_ ?_
  ·simp only[go_sem,d1]
   refine gO (.bool e.fits) ⟨λ hc=> ?_,?_⟩
   ·simp only[go_sem]
    rw[←Ex.d_eq e]
    exact bH (node_ac e hk _ _ _ ⟨rfl,rfl⟩)
   simp only[go_sem]
   refine⟨λ c=>aQ hbd ?_,λ c=>Wk.mask [1,2] ⟨by simpa using c,rfl,rfl⟩⟩
   simp only[Ex.deep]at h
   rw[show e.fits=false by simpa using c]at h
   exact h
  ·rintro fr st ⟨hf,rfl,rfl⟩
   simp only[Ex.deep,hf,ca]at h
   simp only[go_sem]
   refine aS (λ m fr st=>∃j:Nat,j≤e.kids.length∧m=e.kids.length - j∧R (db ((e.kids.drop j).all λ k=>k.deep l)) Z∧
    fr=%[.o,dn (l+1),.ref Z.length 0,.o,.o,dn j|D5 [.o,.o,.o,.o,.o,.o,.o]]∧st=Z++[some (.cells [.d (iD e.op),.d (iD e.w),.d (iD e.n),.d (.sl 4 (e.kids.map Ex.d))])]) e.kids.length _
    (Wk.mask [1,2,5] ⟨0,by omega,rfl,h,rfl,rfl⟩) ?_
   rintro m fr st ⟨j,hj,hm,hR,rfl,rfl⟩
   rcases aC j e.kids.length with hlt|hge
   ·have hd:decide ((j:Int)<(e.kids.length:Int))=true:=by simp;omega
    obtain⟨k,hkk⟩:∃k,e.kids.getD j (.mk 0 0 0 [])=k:=⟨_,rfl⟩
    have hmem:k∈e.kids:=hkk▸mK hlt
    have e1:=pu hlt hkk
    have w1:IntKind.i64.wrap (((l+1:Nat):Int) - 1)=(l:Int):=by rw[cq _ (by omega) (by omega)];omega
    have w2:=bC j (by simp only[reachBytes]at hk;omega)
    rw[ry (.mk 0 0 0 []) hlt,hkk,dH]at hR
    simp only[go_sem,ac,hd,e1,w1]
    rw[←Ex.d_eq k]
    refine⟨⟨by omega,by omega⟩,bH (ih k (hks k hmem) (by omega) _ _ _ ?_)⟩
    simp only[go_sem,w2]
    refine⟨λ c=>aQ hbd ?_,λ c=>Wk.mask [1,2,5] ⟨e.kids.length - (j+1),by omega,j+1,hlt,rfl,?_,rfl,rfl⟩⟩
    ·rw[show k.deep l=false by simpa using c]at hR;exact hR
    ·rw[show k.deep l=true by simpa using c]at hR;exact hR
   ·have hd:decide ((j:Int)<(e.kids.length:Int))=false:=by simp;omega
    simp only[go_sem,ac,hd]
    rw[d7 hge]at hR
    exact aQ hbd hR
theorem kO(e:Ex)(hok:e.Ok)(Z:St)(G:Glob)(R:A→St→Prop)(h:R (db e.formed) Z):AC Tryz.prog G 114 [.d e.d] Z R:=by
 rw[Ex.d_eq]
 refine bg a9 Tryz.func114 rfl Tryz.ntmps114 (by simp only[go_sem]) λ hbd=> ?_
 simp only[ae,aj,Nat.reduceAdd,Nat.reduceSub,af,ag,ah,ak]
 simp only[go_sem]
 rw[←Ex.d_eq e]
 refine bH (w9 e hok 601 (by omega) _ _ _ ?_)
 have:decide (((min e.nodes 601:Nat):Int)≤600)=decide (e.nodes≤600):=by
  apply decide_eq_decide.2;omega
 simp only[go_sem,this]
 refine gO (.bool (e.deep 40)) ⟨λ hc=> ?_,?_⟩
 ·simp only[go_sem]
  rw[←Ex.d_eq e]
  refine⟨by assumption,bH (deep_ac 40 e hok (by omega) _ _ _ ?_)⟩
  exact⟨rfl,rfl⟩
 simp only[go_sem]
 exact aQ hbd h
theorem over_ac(cells:List Cel)(hc:cells.length≤reachBytes)(pair:Bool)(l:Nat):∀(e:Ex) (hok:e.Ok) (hd:e.deep l=true) (Z:St) (G:Glob) (R:A→St→Prop) (h:R (db (e.over cells pair)) Z),AC Tryz.prog G 140 [.d e.d,.d (aY cells),db pair] Z R:=by
 induction l with
 |zero=>intro e hok hd;simp [Ex.deep]at hd
 |succ l ih=>
  intro e hok hdp Z G R h
  obtain⟨hk,hks⟩:=hok
  have hkd:∀k∈e.kids,k.deep l=true:=λ k hk=>jc hdp hk
  have hn:0≤e.n:=by
   simp only[Ex.deep,aB]at hdp
   exact uj hdp.1
  rw[Ex.d_eq]
  refine bD [5] a9 Tryz.func140 rfl Tryz.ntmps140 (by simp only[go_sem]) λ hbd=> ?_
  simp only[ae,aj,Nat.reduceAdd,Nat.reduceSub,af,ag,ah,ak]
  simp only[aY,go_sem]
  refine⟨λ c=>aQ hbd ?_,λ c=> ?_⟩
  ·rw[Ex.over_eq,Ex.overN,c]at h;exact h
  refine bc (λ fr st=>e.overN cells pair=true∧fr=%[.o,.d (.sl 6 (cells.map fb)),db pair,.ref Z.length 0|D6 (D5 [.o,.o,.o,.o,.o])]∧st=Z++[some (.cells [.d (iD e.op),.d (iD e.w),.d (iD e.n),.d (.sl 4 (e.kids.map Ex.d))])]) ?_ ?_
  ·simp only[go_sem]
   refine bb (.tk 26 0<| .done) (by kernel_rfl) ?_
   rcases Int.lt_or_le e.n cells.length with hlt|hge
   ·have d1:decide ((cells.length:Int)≤e.n)=false:=by simp;omega
    have e1:=iM (l:=cells) (j:=e.n.toNat) (by omega)
    simp only[fb]at e1
    simp only[go_sem,ac,d1,e1]
    have ho:e.overN cells pair= !((e.op==3||e.op==2)&&(cells.getD e.n.toNat fU).w !=e.w):=by simp only[Ex.overN,c,d1,fj,eC,ca]
    refine⟨λ q=>⟨q,by omega,by omega⟩,λ c2=>aQ hbd ?_,λ c2=>Wk.mask [1,2,3] ⟨by rw[ho,c2];rfl,rfl,rfl⟩⟩
    rw[Ex.over_eq,ho,c2]at h;exact h
   ·have d1:decide ((cells.length:Int)≤e.n)=true:=by simp;omega
    simp only[go_sem,ac,d1]
    have ho:e.overN cells pair= !(e.op==3||e.op==2):=by simp only[Ex.overN,c,d1,gQ,eC,ca,dJ]
    refine⟨λ c2=>aQ hbd ?_,λ c2=>Wk.mask [1,2,3] ⟨by rw[ho,c2];rfl,rfl,rfl⟩⟩
    rw[Ex.over_eq,ho,c2]at h;exact h
  ·rintro fr st ⟨hf,rfl,rfl⟩
   rw[Ex.over_eq,hf,ca]at h
   simp only[go_sem]
   refine aS (λ m fr st=>∃j:Nat,j≤e.kids.length∧m=e.kids.length - j∧R (db ((e.kids.drop j).all λ k=>k.over cells pair)) Z∧
    fr=%[.o,.d (.sl 6 (cells.map fb)),db pair,.ref Z.length 0,.o,.o,.o,dn j|D6 (D5 [.o])]∧st=Z++[some (.cells [.d (iD e.op),.d (iD e.w),.d (iD e.n),.d (.sl 4 (e.kids.map Ex.d))])]) e.kids.length _
    (Wk.mask [1,2,3,7] ⟨0,by omega,rfl,h,rfl,rfl⟩) ?_
   rintro m fr st ⟨j,hj,hm,hR,rfl,rfl⟩
   rcases aC j e.kids.length with hlt|hge
   ·have hd:decide ((j:Int)<(e.kids.length:Int))=true:=by simp;omega
    obtain⟨k,hkk⟩:∃k,e.kids.getD j (.mk 0 0 0 [])=k:=⟨_,rfl⟩
    have hmem:k∈e.kids:=hkk▸mK hlt
    have e1:=pu hlt hkk
    have w2:=bC j (by simp only[reachBytes]at hk;omega)
    rw[ry (.mk 0 0 0 []) hlt,hkk,dH]at hR
    simp only[go_sem,ac,hd,e1]
    rw[←Ex.d_eq k]
    refine⟨⟨by omega,by omega⟩,bH (ih k (hks k hmem) (hkd k hmem) _ _ _ ?_)⟩
    simp only[go_sem,w2]
    refine⟨λ c=>aQ hbd ?_,λ c=>Wk.mask [1,2,3,7] ⟨e.kids.length - (j+1),by omega,j+1,hlt,rfl,?_,rfl,rfl⟩⟩
    ·rw[show k.over cells pair=false by simpa using c]at hR;exact hR
    ·rw[show k.over cells pair=true by simpa using c]at hR;exact hR
   ·have hd:decide ((j:Int)<(e.kids.length:Int))=false:=by simp;omega
    simp only[go_sem,ac,hd]
    rw[d7 hge]at hR
    exact aQ hbd hR
theorem qS(e:Ex)(hok:e.Ok)(cells:List Cel)(hc:cells.length≤reachBytes)(pair:Bool)(Z:St)(G:Glob)(R:A→St→Prop)(h:R (db (e.formed&&e.over cells pair)) Z):AC Tryz.prog G 108 [.d e.d,.d (aY cells),db pair] Z R:=by
 rw[Ex.d_eq]
 refine bg a9 Tryz.func108 rfl Tryz.ntmps108 (by simp only[go_sem]) λ hbd=> ?_
 simp only[ae,aj,Nat.reduceAdd,Nat.reduceSub,af,ag,ah,ak]
 simp only[go_sem]
 rw[←Ex.d_eq e]
 refine bH (kO e hok _ _ _ ?_)
 simp only[go_sem]
 refine gO (.bool (e.over cells pair)) ⟨λ hc'=> ?_,?_⟩
 ·simp only[go_sem]
  rw[←Ex.d_eq e]
  have hf:e.formed=true:=by assumption
  refine⟨hf,bH (over_ac cells hc pair 40 e hok ?_ _ _ _ ?_)⟩
  ·simp only[Ex.formed,aB]at hf;exact hf.2
  ·exact⟨rfl,rfl⟩
 simp only[go_sem]
 exact aQ hbd h
end
section
open Go Go.Ab
theorem gU{τ l:St}{i:Nat}{cs:List A}{k:List A→Prop}(h:τ[i]? =some (some (.cells cs))):jz (τ++l) i k=k cs:=aX (by rw[aq (aL h)];exact h)
theorem iY{τ l:St}{i:Nat}{o:Ob}(h:τ[i]? =some (some o)):dr (τ++l) i=true:=aO (o:=o) (by rw[aq (aL h)];exact h)
theorem BV{τ l:St}{i:Nat}{x:Option Ob}(h:i<τ.length):List.set (τ++l) i x=List.set τ i x++l:=dN _ _ h
theorem xE(n:Nat):(List.replicate n [A.d (.bool false)]).flatten=(List.replicate n false).map λ x=>A.d (.bool x):=by
 induction n with
 |zero=>rfl
 |succ n ih=>rw[af,List.flatten_cons,ih,af,aM];rfl
theorem r6{e:Ex}(h:e.formed=true):e.deep 40=true:=by
 simp only[Ex.formed,aB]at h;exact h.2
abbrev exA(o w n:Int)(k:List D):Option Ob:=some (.cells [.d (iD o),.d (iD w),.d (iD n),.d (.sl 4 k)])
def na(io inw:Nat)(Z:St)(a b:List Bool):St:=(Z.set io (dk a)).set inw (dk b)
section
variable {io inw:Nat} {Z l:St} {a b c d:List Bool}
theorem oe:(na io inw Z a b).length=Z.length:=by simp [na]
theorem Cc(h1:io<Z.length)(h2:inw<Z.length):na io inw (Z++l) a b=na io inw Z a b++l:=by
 rw[na,na,dN _ _ h1,dN _ _ (by simpa using h2)]
theorem mk2_mk2(hne:io≠inw):na io inw (na io inw Z a b) c d=na io inw Z c d:=by
 simp only[na]
 rw[EC (dk b) (dk c) (Ne.symm hne),dT,dT]
theorem mk2_o(hne:io≠inw)(h1:io<Z.length):(na io inw Z a b)[io]? =some (dk a):=by
 rw[na,aD (Ne.symm hne),aT h1]
theorem mk2_n(h2:inw<Z.length):(na io inw Z a b)[inw]? =some (dk b):=by
 rw[na,aT (by simpa using h2)]
theorem Di(hne:io≠inw):(na io inw Z a b).set io (dk c)=na io inw Z c b:=by
 simp only[na]
 rw[EC (dk b) (dk c) (Ne.symm hne),dT]
theorem Dj:(na io inw Z a b).set inw (dk c)=na io inw Z a c:=by simp only[na];rw[dT]
theorem mk2_self(h1:Z[io]? =some (dk a))(h2:Z[inw]? =some (dk b)):na io inw Z a b=Z:=by
 have e1:Z.set io (dk a)=Z:=by
  apply cz
  intro i
  by_cases hi:io=i
  ·subst hi;rw[aT (aL h1),h1]
  ·rw[aD hi]
 rw[na,e1]
 apply cz
 intro i
 by_cases hi:inw=i
 ·subst hi;rw[aT (aL h2),h2]
 ·rw[aD hi]
theorem mk2_bd(hb:Bd Z.length Z):Bd (na io inw Z a b).length (na io inw Z a b):=by
 rw[oe]
 have hc:∀(bs:List Bool) (o:Ob),dk bs=some o→o.bd Z.length=true:=λ bs o ho=>by
  simp only[dk,Option.some.injEq]at ho
  subst ho
  exact gI λ x hx=>by
   obtain⟨y,_,rfl⟩:=aI.1 hx
   rfl
 exact(hb.set io (hc a)).set inw (hc b)
end
theorem mI(o:Int):∀(l m:List Ex) (bs:List Bool),fJ o (l++m) bs=fJ o m (fJ o l bs)
 |[],m,bs=>rfl
 |x::l,m,bs=>by simp only[ah,fJ];exact mI o l m _
theorem marks_ac(l:Nat):∀(e:Ex) (hok:e.Ok) (hd:e.deep l=true) {io inw:Nat} (hne:io≠inw) (bo bn:List Bool) (hlo:bo.length=32) (hln:bn.length=32) (Z:St) (h1:io<Z.length) (h2:inw<Z.length) (G:Glob) (R:A→St→Prop)
  (h:∀r,R r (na io inw Z (fJ 3 e.lvs bo) (fJ 2 e.lvs bn))),AC Tryz.prog G 160 [.d e.d,.rs io 1 0 32 (some 4),.rs inw 1 0 32 (some 4)] (na io inw Z bo bn) R:=by
 induction l with
 |zero=>intro e hok hd;simp [Ex.deep]at hd
 |succ l ih=>
  intro e hok hdp io inw hne bo bn hlo hln Z h1 h2 G R h
  obtain⟨hk,hks⟩:=hok
  have hkd:∀k∈e.kids,k.deep l=true:=λ k hk=>jc hdp hk
  have hf:e.fits=true:=by simp only[Ex.deep,aB]at hdp;exact hdp.1
  have hn0:=uj hf
  have harity:=hf
  simp only[Ex.fits,aB,av]at harity
  have hL:e.kids.length=(Ex.arity e.op).toNat:=by omega
  have hrng:(e.op=2∨e.op=3)→0≤e.n∧e.n<32:=λ ho=>by
   have:=harity.2
   rw[if_neg (by omega),if_pos ho,av]at this
   exact this
  obtain⟨a1,ha1⟩:∃a1,(if e.op=3 then bo.set e.n.toNat true else bo)=a1:=⟨_,rfl⟩
  obtain⟨b1,hb1⟩:∃b1,(if e.op=2 then bn.set e.n.toNat true else bn)=b1:=⟨_,rfl⟩
  have hla:a1.length=32:=by rw[←ha1];split<;> simpa using hlo
  have hlb:b1.length=32:=by rw[←hb1];split<;> simpa using hln
  have hfa:fJ 3 e.lvs bo=fJ 3 (e.kids.flatMap Ex.lvs) a1∧fJ 2 e.lvs bn=fJ 2 (e.kids.flatMap Ex.lvs) b1:=by
   by_cases hke:e.kids=[]
   ·rw[Ex.lvs_leaf hke,hke,←ha1,←hb1];exact⟨rfl,rfl⟩
   ·have hlen:0<e.kids.length:=List.length_pos_iff.2 hke
    have ho:e.op≠3∧e.op≠2:=by
     constructor<;> intro ho<;> rw[hL,ho]at hlen<;> simp [Ex.arity]at hlen
    rw[if_neg ho.1]at ha1
    rw[if_neg ho.2]at hb1
    rw[Ex.lvs_node hke,ha1,hb1];exact⟨rfl,rfl⟩
  rw[hfa.1,hfa.2]at h
  have g1:=mk2_o (Z:=Z) (a:=bo) (b:=bn) hne h1
  have g2:=mk2_n (io:=io) (Z:=Z) (a:=bo) (b:=bn) h2
  simp only[dk]at g1 g2
  have hml:=oe (io:=io) (inw:=inw) (Z:=Z) (a:=bo) (b:=bn)
  rw[Ex.d_eq]
  refine bD [3,5] a9 Tryz.func160 rfl Tryz.ntmps160 (by simp only[go_sem]) λ hbd=> ?_
  simp only[ae,aj,Nat.reduceAdd,Nat.reduceSub,af,ag,ah,ak]
  simp only[go_sem]
  refine bc (λ fr st=>fr=%[.o,.rs io 1 0 32 (some 4),.rs inw 1 0 32 (some 4),.ref (na io inw Z a1 bn).length 0|D6 []]∧st=na io inw Z a1 bn++[exA e.op e.w e.n (e.kids.map Ex.d)]) ?_ ?_
  ·by_cases o3:e.op=3
   ·have b3:(e.op==3)=true:=by simp [o3]
    rw[if_pos o3]at ha1
    have hr:=hrng (.inr o3)
    have hsp:=my (l:=bo.map λ b=>A.d (.bool b)) (k:=e.n.toNat) (by simp;omega) (db true)
    rw[DO,ha1]at hsp
    simp only[go_sem,b3,iY g1,gU g1,BV (aL g1),ac,hlo,ci,hsp]
    exact⟨by omega,by omega,Wk.mask [1,2,3] ⟨by simp only[go_sem,oe],by show List.set (na io inw Z bo bn) io (dk a1)++_=_;rw[Di hne]⟩⟩
   have b3:(e.op==3)=false:=by simp [o3]
   rw[if_neg o3]at ha1
   subst ha1
   simp only[go_sem,b3]
   exact Wk.mask [1,2,3] ⟨rfl,rfl⟩
  rintro fr st ⟨rfl,rfl⟩
  refine bc (λ fr st=>fr=%[.o,.rs io 1 0 32 (some 4),.rs inw 1 0 32 (some 4),.ref (na io inw Z a1 b1).length 0|D6 []]∧st=na io inw Z a1 b1++[exA e.op e.w e.n (e.kids.map Ex.d)]) ?_ ?_
  ·have g2:=mk2_n (io:=io) (Z:=Z) (a:=a1) (b:=bn) h2
   simp only[dk]at g2
   by_cases o2:e.op=2
   ·have b2:(e.op==2)=true:=by simp [o2]
    rw[if_pos o2]at hb1
    have hr:=hrng (.inl o2)
    have hsp:=my (l:=bn.map λ b=>A.d (.bool b)) (k:=e.n.toNat) (by simp;omega) (db true)
    rw[DO,hb1]at hsp
    simp only[go_sem,b2,iY g2,gU g2,BV (aL g2),ac,hln,ci,hsp]
    exact⟨by omega,by omega,Wk.mask [1,2,3] ⟨by simp only[go_sem,oe],by show List.set (na io inw Z a1 bn) inw (dk b1)++_=_;rw[Dj]⟩⟩
   have b2:(e.op==2)=false:=by simp [o2]
   rw[if_neg o2]at hb1
   subst hb1
   simp only[go_sem,b2]
   exact Wk.mask [1,2,3] ⟨rfl,rfl⟩
  rintro fr st ⟨rfl,rfl⟩
  simp only[go_sem]
  have hkl:e.kids.length≤3:=by
   rw[hL];unfold Ex.arity
   split
   ·decide
   ·split
    ·decide
    ·split
     ·decide
     ·split<;> decide
  refine aS (λ m fr st=>∃j:Nat,j≤e.kids.length∧m=e.kids.length - j∧∃x y:List Bool,x=fJ 3 ((e.kids.take j).flatMap Ex.lvs) a1∧y=fJ 2 ((e.kids.take j).flatMap Ex.lvs) b1∧fr=%[.o,.rs io 1 0 32 (some 4),.rs inw 1 0 32 (some 4),.ref (na io inw Z x y).length 0,.o,.o,dn j|D5 (D4 [.o,.o,.o,.o,.o])]∧st=na io inw Z x y++[exA e.op e.w e.n (e.kids.map Ex.d)]) e.kids.length _ (Wk.mask [1,2,3,6] ⟨0,by omega,rfl,a1,b1,rfl,rfl,rfl,rfl⟩) ?_
  rintro m fr st ⟨j,hj,hm,x,y,hx,hy,rfl,rfl⟩
  rcases aC j e.kids.length with hlt|hge
  ·have hd:decide ((j:Int)<(e.kids.length:Int))=true:=by simp;omega
   have hkk:=mY hlt
   simp only[go_sem,hd,hkk,ac,ad]
   refine⟨⟨by omega,by omega⟩,bH ?_⟩
   have e1:D.agg [iD (e.kids.getD j (Ex.mk 0 0 0 [])).op,iD (e.kw j),iD (e.kids.getD j (Ex.mk 0 0 0 [])).n,D.sl 4 (List.map Ex.d (e.kids.getD j (Ex.mk 0 0 0 [])).kids)]=(e.kids.getD j (Ex.mk 0 0 0 [])).d:=(Ex.d_eq _).symm
   have hm:=bT (Ex.mk 0 0 0 []) hlt
   have htk:e.kids.take (j+1)=e.kids.take j++[e.kids.getD j (Ex.mk 0 0 0 [])]:=bG _ hlt
   generalize e.kids.getD j (Ex.mk 0 0 0 [])=k at*
   have hx2:fJ 3 k.lvs x=fJ 3 ((e.kids.take (j+1)).flatMap Ex.lvs) a1:=by
    rw[htk,dB,mI,←hx];simp
   have hy2:fJ 2 k.lvs y=fJ 2 ((e.kids.take (j+1)).flatMap Ex.lvs) b1:=by
    rw[htk,dB,mI,←hy];simp
   have w1:=bC j (by omega)
   rw[e1,←Cc h1 h2]
   refine ih k (hks k hm) (hkd k hm) hne x y (by rw[hx,ol,hla]) (by rw[hy,ol,hlb]) _ (by simp;omega) (by simp;omega) G _ λ r=> ?_
   rw[Cc h1 h2,hx2,hy2]
   simp only[go_sem,w1]
   exact Wk.mask [1,2,3,6] ⟨e.kids.length - (j+1),by omega,j+1,by omega,rfl,_,_,rfl,rfl,by simp only[go_sem,oe],rfl⟩
  ·have hd:decide ((j:Int)<(e.kids.length:Int))=false:=by simp;omega
   obtain rfl:j=e.kids.length:=by omega
   rw[bB]at hx hy
   subst hx hy
   simp only[go_sem,hd,ac]
   have hb:=mk2_bd (io:=io) (inw:=inw) (a:=fJ 3 (e.kids.flatMap Ex.lvs) a1) (b:=fJ 2 (e.kids.flatMap Ex.lvs) b1) hbd
   rw[mk2_mk2 hne]at hb
   exact⟨.tup [],_,bw.cut (by simp only[oe,aE]) hb rfl,h _⟩
theorem yE(e:Ex)(hok:e.Ok)(hf:e.formed=true)(Z:St)(G:Glob)(R:A→St→Prop)(h:R (.tup [.d (bu (kq (lh 3 e) 32)),.d (bu (kq (lh 2 e) 32))]) Z):AC Tryz.prog G 141 [.d e.d] Z R:=by
 rw[Ex.d_eq]
 refine bM a9 Tryz.func141 rfl Tryz.ntmps141 (by simp only[go_sem]) λ hbd=> ?_
 simp only[ae,aj,Nat.reduceAdd,Nat.reduceSub,af,ag,ah,ak]
 simp only[go_sem]
 rw[←Ex.d_eq e]
 refine bH (kO e hok _ _ _ ?_)
 rw[hf]
 simp only[go_sem,g9]
 refine⟨by decide,by decide,?_⟩
 have hT:Int.toNat 32=32:=rfl
 rw[hT,xE]
 rw[←Ex.d_eq e]
 have hS:Z++[exA e.op e.w e.n (e.kids.map Ex.d),dk (List.replicate 32 false),dk (List.replicate 32 false)]=na (Z.length+1) (Z.length+2) (Z++[exA e.op e.w e.n (e.kids.map Ex.d),dk (List.replicate 32 false),dk (List.replicate 32 false)]) (List.replicate 32 false) (List.replicate 32 false):=(mk2_self (by simp) (by simp)).symm
 refine bH ?_
 show AC _ _ _ _ (Z++[exA e.op e.w e.n (e.kids.map Ex.d),dk (List.replicate 32 false),dk (List.replicate 32 false)]) _
 rw[hS]
 refine marks_ac 40 e hok (r6 hf) (by omega) _ _ (by simp) (by simp) _ (by simp) (by simp) G _ λ r=> ?_
 have hS2:na (Z.length+1) (Z.length+2) (Z++[exA e.op e.w e.n (e.kids.map Ex.d),dk (List.replicate 32 false),dk (List.replicate 32 false)]) (fJ 3 e.lvs (List.replicate 32 false)) (fJ 2 e.lvs (List.replicate 32 false))=Z++[exA e.op e.w e.n (e.kids.map Ex.d),dk (lh 3 e),dk (lh 2 e)]:=by
  simp [na,lh]
 rw[hS2]
 simp only[dk,go_sem]
 refine bH (xS 1 1 0 ((lh 3 e).map D.bool) rfl (gV D.bool (λ _=>⟨rfl,rfl⟩) _) ?_)
 simp only[go_sem]
 have l1:((lh 3 e).map D.bool).length=32:=by rw[ac,jX]
 have l2:((lh 2 e).map D.bool).length=32:=by rw[ac,jX]
 rw[if_pos l1.symm]
 refine vV (lh 3 e) (by rw[jX];decide) _ _ _ ?_
 rw[jX]
 refine bH (xS 2 1 0 ((lh 2 e).map D.bool) rfl (gV D.bool (λ _=>⟨rfl,rfl⟩) _) ?_)
 simp only[go_sem]
 rw[if_pos l2.symm]
 refine vV (lh 2 e) (by rw[jX];decide) _ _ _ ?_
 rw[jX]
 try simp only[go_sem]
 exact dq hbd rfl h
end
end Go.Proofs.YtdpdbokicanpoaaGreatDoor
section
namespace Go.Proofs.YtdpdbokicanpoaaGreatDoor
structure Vis where
 cfg:Cfg
 frm:Int
 cho:Cho
def e8:Vis:=⟨jm,0,fE⟩
structure BS where
 V:List Vis
 i:Nat
 xs:List Cho
def eX(p:Prg)(m:Int):BS→Option BS
 |⟨V,i,x::r⟩=>some (if fV p m (V.getD i e8).cfg x∈V.map Vis.cfg then⟨V,i,r⟩else⟨V++[⟨fV p m (V.getD i e8).cfg x,i,x⟩],i,r⟩)
 |⟨V,i,[]⟩=>if i+1<V.length then some ⟨V,i+1,fY p m (V.getD (i+1) e8).cfg⟩else none
def kP(p:Prg)(m:Int):BS:=⟨[⟨bS p,-1,fE⟩],0,fY p m (bS p)⟩
inductive Steps (p:Prg) (m:Int) (S:BS):BS→Prop where
 |refl:Steps p m S S
 |tail {T ρ:BS} (h:Steps p m S T) (hb:eX p m T=some ρ):Steps p m S ρ
section
variable {p:Prg} {m:Int} {S T ρ:BS}
theorem Steps.trans(h:Steps p m S T)(k:Steps p m T ρ):Steps p m S ρ:=by
 induction k with
 |refl=>exact h
 |tail _ hb ih=>exact ih.tail hb
theorem Steps.head(hb:eX p m S=some ρ)(h:Steps p m S T):T=S∨Steps p m ρ T:=by
 induction h with
 |refl=>exact .inl rfl
 |tail _ hb2 ih=>
  rcases ih with e|ih
  ·subst e
   rw[hb]at hb2
   cases hb2
   exact .inr .refl
  ·exact .inr (ih.tail hb2)
theorem Steps.linear(h:Steps p m S T)(k:Steps p m S ρ):Steps p m T ρ∨Steps p m ρ T:=by
 induction k with
 |refl=>exact .inr h
 |tail _ hb ih=>
  rcases ih with ih|ih
  ·exact .inl (ih.tail hb)
  ·rcases Steps.head hb ih with e|h2
   ·rw[e];exact .inl (Steps.refl.tail hb)
   ·exact .inr h2
theorem Steps.last(h:Steps p m S T)(hS:eX p m S=none):T=S:=by
 induction h with
 |refl=>rfl
 |tail _ hb ih=>rw[ih,hS]at hb;cases hb
theorem BC(h:eX p m S=some T):∃W,T.V=S.V++W:=by
 obtain⟨V,i,xs⟩:=S
 cases xs with
 |nil=>
  simp only[eX]at h
  split at h
  ·cases h;exact⟨[],by simp⟩
  ·cases h
 |cons x r=>
  simp only[eX,Option.some.injEq]at h
  subst h
  split
  ·exact⟨[],by simp⟩
  ·exact⟨_,rfl⟩
theorem Steps.grow(h:Steps p m S T):∃W,T.V=S.V++W:=by
 induction h with
 |refl=>exact⟨[],by simp⟩
 |tail _ hb ih=>
  obtain⟨W,hW⟩:=ih
  obtain⟨X,hX⟩:=BC hb
  exact⟨W++X,by rw[hX,hW,aU]⟩
end
def Met(p:Prg)(m:Int)(V:List Vis)(j:Nat)(x:Cho):Prop:=∃(k:Nat) (v:Vis),V[k]? =some v∧v.cfg=fV p m (V.getD j e8).cfg x∧v.frm≤j
structure BInv (p:Prg) (m:Int) (S:BS):Prop where
 lt:S.i<S.V.length
 root:∃v,S.V[0]? =some v∧v.cfg=bS p∧v.frm= -1
 fits:∀v∈S.V,Fits p m v.cfg
 nodup:(S.V.map Vis.cfg).Nodup
 from_:∀(k:Nat) (v:Vis),S.V[k]? =some v→0<k→∃j:Nat,v.frm=j∧j<k∧j≤S.i∧v.cho∈fY p m (S.V.getD j e8).cfg∧v.cfg=fV p m (S.V.getD j e8).cfg v.cho
 mono:∀(k l:Nat) (v w:Vis),S.V[k]? =some v→S.V[l]? =some w→k≤l→v.frm≤w.frm
 done:∀j,j<S.i→∀x∈fY p m (S.V.getD j e8).cfg,Met p m S.V j x
 now:∃d,fY p m (S.V.getD S.i e8).cfg=d++S.xs∧∀x∈d,Met p m S.V S.i x
theorem Met.grow{p:Prg}{m:Int}{V W:List Vis}{j:Nat}{x:Cho}(hj:j<V.length)(h:Met p m V j x):Met p m (V++W) j x:=by
 obtain⟨k,v,hk,hv,hf⟩:=h
 refine⟨k,v,?_,?_,hf⟩
 ·rw[aq]
  ·exact hk
  ·exact(aA.1 hk).1
 ·rw[hv,au,au,aq hj]
theorem kl{V W:List Vis}{j:Nat}(h:j<V.length):(V++W).getD j e8=V.getD j e8:=by
 rw[au,au,aq h]
theorem binv_0{p:Prg}(hp:p.Ok)(m:Int):BInv p m (kP p m) where
 lt:=by simp [kP]
 root:=⟨_,rfl,rfl,rfl⟩
 fits v hv:=by
  simp only[kP,cm]at hv
  rw[hv];exact jl hp m
 nodup:=by simp [kP]
 from_ k v hk h0:=by
  have:=(aA.1 hk).1
  simp only[kP,List.length_singleton]at this
  omega
 mono k l v w hk hl h:=by
  have h1:=(aA.1 hk).1
  have h2:=(aA.1 hl).1
  simp only[kP,List.length_singleton]at h1 h2
  obtain rfl:k=0:=by omega
  obtain rfl:l=0:=by omega
  rw[hk]at hl
  cases hl
  exact Int.le_refl _
 done j hj:=by simp [kP]at hj
 now:=⟨[],rfl,λ x hx=>by cases hx⟩
theorem DP{p:Prg}(hp:p.Ok){m:Int}{S T:BS}(h:BInv p m S)(hb:eX p m S=some T):BInv p m T:=by
 obtain⟨V,i,xs⟩:=S
 have hlt:=h.lt
 obtain⟨d,hd,hdm⟩:=h.now
 cases xs with
 |nil=>
  simp only[eX]at hb
  split at hb
  ·rename_i hi
   cases hb
   refine⟨hi,h.root,h.fits,h.nodup,λ k v hk h0=> ?_,h.mono,λ j hj x hx=> ?_,⟨[],rfl,λ x hx=>by cases hx⟩⟩
   ·obtain⟨j,h1,h2,h3,h4⟩:=h.from_ k v hk h0
    exact⟨j,h1,h2,Nat.le_succ_of_le h3,h4⟩
   ·rcases aC j i with hji|hji
    ·exact h.done j hji x hx
    ·obtain rfl:j=i:=by
      have:j<i+1:=hj
      omega
     refine hdm x ?_
     simp only[bt]at hd
     rw[←hd];exact hx
  ·cases hb
 |cons x r=>
  simp only[eX,Option.some.injEq]at hb
  have hlt:i<V.length:=hlt
  have hxc:x∈fY p m (V.getD i e8).cfg:=by
   have:fY p m (V.getD i e8).cfg=d++x::r:=hd
   rw[this];simp
  split at hb
  ·rename_i hin
   subst hb
   refine⟨hlt,h.root,h.fits,h.nodup,h.from_,h.mono,h.done,⟨d++[x],by simpa using hd,λ y hy=> ?_⟩⟩
   rcases aW.1 hy with hy|hy
   ·exact hdm y hy
   ·rw[cm]at hy
    subst hy
    obtain⟨v,hv,hve⟩:=aI.1 hin
    obtain⟨k,hk,hkv⟩:=bF hv
    have hk':V[k]? =some v:=by rw[ap hk,hkv]
    refine⟨k,v,hk',hve,?_⟩
    rcases cv k with h0|h0
    ·subst h0
     obtain⟨w,hw,_,hw2⟩:=h.root
     rw[hk']at hw
     cases hw
     show v.frm≤(i:Int)
     omega
    ·obtain⟨j,h1,_,h3,_⟩:=h.from_ k v hk' h0
     have h3:j≤i:=h3
     show v.frm≤(i:Int)
     omega
  ·rename_i hin
   subst hb
   obtain⟨n,hn⟩:∃n,fV p m (V.getD i e8).cfg x=n:=⟨_,rfl⟩
   rw[hn]at hin ⊢
   have hvi:V.getD i e8∈V:=by rw[au,ap hlt];exact bI hlt
   have hold:∀{k v},(V++[Vis.mk n i x])[k]? =some v→(k<V.length∧V[k]? =some v)∨(k=V.length∧v=Vis.mk n i x):=λ {k v} hk=>by
    rcases aC k V.length with hlt|hge
    ·rw[aq hlt]at hk;exact .inl ⟨hlt,hk⟩
    ·rw[az hge]at hk
     have h0:=(aA.1 hk).1
     simp only[List.length_singleton]at h0
     have e:k - V.length=0:=by omega
     rw[e]at hk
     simp only[cA,Option.some.injEq]at hk
     exact .inr ⟨by omega,hk.symm⟩
   have hnew:(V++[Vis.mk n i x])[V.length]? =some (Vis.mk n i x):=by rw[az (aE _)];simp
   refine⟨by rw[aF];show i<_;omega,?_,?_,?_,?_,?_,?_,?_⟩
   ·obtain⟨w,hw,hw2⟩:=h.root
    exact⟨w,by show(V++_)[0]? =_;rw[aq (by omega)];exact hw,hw2⟩
   ·intro v hv
    rcases aW.1 hv with hv|hv
    ·exact h.fits v hv
    ·rw[cm]at hv
     subst hv
     rw[←hn]
     exact rp hp (h.fits _ hvi) hxc
   ·show((V++[_]).map Vis.cfg).Nodup
    rw[aJ,cW]
    refine⟨h.nodup,by simp,λ a ha b hb e=> ?_⟩
    simp only[aM,bq,cm]at hb
    subst hb
    exact hin (e▸ha)
   ·intro k v hk h0
    rcases hold hk with⟨hkl,hk⟩|⟨hkl,rfl⟩
    ·obtain⟨j,h1,h2,h3,h4,h5⟩:=h.from_ k v hk h0
     refine⟨j,h1,h2,h3,?_,?_⟩
     ·show _∈fY p m ((V++_).getD j e8).cfg
      rw[kl (by omega)];exact h4
     ·show _=fV p m ((V++_).getD j e8).cfg _
      rw[kl (by omega)];exact h5
    ·refine⟨i,rfl,by omega,aE _,?_,?_⟩
     ·show _∈fY p m ((V++_).getD i e8).cfg
      rw[kl hlt];exact hxc
     ·show _=fV p m ((V++_).getD i e8).cfg _
      rw[kl hlt];exact hn.symm
   ·intro k l v w hk hl hkl
    rcases hold hl with⟨hll,hl⟩|⟨hll,rfl⟩
    ·rcases hold hk with⟨_,hk⟩|⟨hk2,_⟩
     ·exact h.mono k l v w hk hl hkl
     ·omega
    ·rcases hold hk with⟨hkl2,hk⟩|⟨_,rfl⟩
     ·rcases cv k with h0|h0
      ·subst h0
       obtain⟨w,hw,_,hw2⟩:=h.root
       rw[hk]at hw
       cases hw
       show v.frm≤(i:Int)
       omega
      ·obtain⟨j,h1,_,h3,_⟩:=h.from_ k v hk h0
       have h3:j≤i:=h3
       show v.frm≤(i:Int)
       omega
     ·exact Int.le_refl _
   ·intro j hj y hy
    have hj:j<i:=hj
    have hy':y∈fY p m (V.getD j e8).cfg:=by
     have:y∈fY p m ((V++[Vis.mk n i x]).getD j e8).cfg:=hy
     rwa [kl (by omega)]at this
    exact(h.done j hj y hy').grow (by show j<V.length;omega)
   ·refine⟨d++[x],?_,λ y hy=> ?_⟩
    ·show fY p m ((V++_).getD i e8).cfg=_
     rw[kl hlt]
     simpa using hd
    ·rcases aW.1 hy with hy|hy
     ·exact(hdm y hy).grow hlt
     ·rw[cm]at hy
      subst hy
      refine⟨V.length,_,hnew,?_,Int.le_refl _⟩
      show n=fV p m ((V++_).getD i e8).cfg _
      rw[kl hlt];exact hn.symm
theorem fx{p:Prg}(hp:p.Ok){m:Int}{S:BS}(h:Steps p m (kP p m) S):BInv p m S:=by
 induction h with
 |refl=>exact binv_0 hp m
 |tail _ hb ih=>exact DP hp ih hb
theorem Bw{p:Prg}{m:Int}{S:BS}(h:BInv p m S)(hb:eX p m S=none):∀j,j<S.V.length→∀x∈fY p m (S.V.getD j e8).cfg,Met p m S.V j x:=by
 obtain⟨V,i,xs⟩:=S
 cases xs with
 |cons x r=>simp [eX]at hb
 |nil=>
  simp only[eX]at hb
  split at hb
  ·cases hb
  ·rename_i hi
   intro j hj x hx
   have hlt:i<V.length:=h.lt
   have hj:j<V.length:=hj
   rcases aC j i with hji|hji
   ·exact h.done j hji x hx
   ·obtain rfl:j=i:=by omega
    obtain⟨d,hd,hdm⟩:=h.now
    simp only[bt]at hd
    exact hdm x (hd▸hx)
inductive Back (V:List Vis):Nat→List Cho→Prop where
 |root {k:Nat} {v:Vis} (hk:V[k]? =some v) (h:v.frm<0):Back V k []
 |step {k j:Nat} {v:Vis} {l:List Cho} (hk:V[k]? =some v) (h:v.frm=j) (hb:Back V j l):Back V k (v.cho::l)
def jG(p:Prg)(m:Int)(c:Cfg)(l:List Cho):Cfg:=l.foldl (fV p m) c
theorem mz{p:Prg}{m:Int}{x:Cho}:∀{l:List Cho} {c:Cfg},fK p m c (l++[x])↔fK p m c l∧x∈fY p m (jG p m c l)
 |[],c=>by simp [fK,jG]
 |y::l,c=>by
  simp only[ah,fK,mz (l:=l),jG,cc,and_assoc]
theorem nX{p:Prg}{m:Int}:∀{l:List Cho} {c:Cfg} {i:Nat},i≤l.length→(iS p m c l)[i]? =some (jG p m c (l.take i))
 |[],c,i,hi=>by
  obtain rfl:i=0:=by simpa using hi
  rfl
 |x::l,c,0,_=>rfl
 |x::l,c,i+1,hi=>by
  simp only[iS,cN,dR]
  rw[nX (by simpa using hi)]
  rfl
section
variable {p:Prg} {m:Int} {S:BS}
theorem BInv.back(h:BInv p m S):∀k,k<S.V.length→∃l,Back S.V k l:=by
 intro k
 induction k using Nat.strongRecOn with
 |ind k ih=>
  intro hk
  have hv:=pk e8 hk
  rcases cv k with h0|h0
  ·subst h0
   obtain⟨w,hw,_,hw2⟩:=h.root
   exact⟨[],.root hw (by omega)⟩
  ·obtain⟨j,h1,h2,h3,h4,h5⟩:=h.from_ k _ hv h0
   obtain⟨l,hl⟩:=ih j h2 (by omega)
   exact⟨_,.step hv h1 hl⟩
theorem Back.uniq{V:List Vis}{k:Nat}{l l':List Cho}(h:Back V k l)(h':Back V k l'):l=l':=by
 induction h generalizing l' with
 |root hk hf=>
  cases h' with
  |root=>rfl
  |step hk2 hf2 _=>rw[hk]at hk2;cases hk2;omega
 | @step k j v l hk hf hb ih=>
  cases h' with
  |root hk2 hf2=>rw[hk]at hk2;cases hk2;omega
  | @step _ j2 v2 l2 hk2 hf2 hb2=>
   rw[hk]at hk2
   obtain rfl:v=v2:=Option.some.inj hk2
   obtain rfl:j=j2:=by omega
   rw[ih hb2]
theorem Back.grow{V W:List Vis}{k:Nat}{l:List Cho}(h:Back V k l):Back (V++W) k l:=by
 induction h with
 |root hk hf=>exact .root (by rw[aq (aA.1 hk).1];exact hk) hf
 |step hk hf hb ih=>exact .step (by rw[aq (aA.1 hk).1];exact hk) hf ih
theorem Back.path(h:BInv p m S){k:Nat}{l:List Cho}(hb:Back S.V k l):fK p m (bS p) l.reverse∧jG p m (bS p) l.reverse=(S.V.getD k e8).cfg:=by
 induction hb with
 |root hk hf=>
  rename_i k v
  refine⟨trivial,?_⟩
  rcases cv k with h0|h0
  ·subst h0
   obtain⟨w,hw,hw1,hw2⟩:=h.root
   rw[jA hw,hw1];rfl
  ·obtain⟨j,h1,_⟩:=h.from_ k v hk h0
   omega
 |step hk hf hb ih=>
  rename_i k j v l
  rcases cv k with h0|h0
  ·subst h0
   obtain⟨w,hw,hw1,hw2⟩:=h.root
   rw[hk]at hw;cases hw
   omega
  ·obtain⟨j2,h1,h2,h3,h4,h5⟩:=h.from_ k v hk h0
   obtain rfl:j=j2:=by omega
   rw[List.reverse_cons]
   refine⟨mz.2 ⟨ih.1,by rw[ih.2];exact h4⟩,?_⟩
   unfold jG
   rw[dG]
   show fV p m (jG p m (bS p) l.reverse) v.cho=_
   rw[ih.2,jA hk,h5]
theorem wE(h:BInv p m S):∀k k':Nat,k≤k'→∀l l',Back S.V k l→Back S.V k' l'→l.length≤l'.length:=by
 intro k
 induction k using Nat.strongRecOn with
 |ind k ih=>
  intro k' hkk l l' hb hb'
  cases hb with
  |root=>simp
  |step hk hf hb=>
   rename_i j v l
   cases hb' with
   |root hk2 hf2=>
    have:=h.mono k k' _ _ hk hk2 hkk
    omega
   |step hk2 hf2 hb2=>
    rename_i j2 v2 l2
    have hm:=h.mono k k' _ _ hk hk2 hkk
    have hjk:j<k:=by
     rcases cv k with h0|h0
     ·subst h0
      obtain⟨w,hw,_,hw2⟩:=h.root
      rw[hk]at hw;cases hw;omega
     ·obtain⟨j3,h1,h2,_⟩:=h.from_ k v hk h0
      omega
    have:=ih j hjk j2 (by omega) _ _ hb hb2
    simp only[ae]
    omega
theorem Cd(h:BInv p m S)(hb:eX p m S=none):∀(n:Nat) (l:List Cho),l.length=n→fK p m (bS p) l→∃(k:Nat) (v:Vis) (b:List Cho),S.V[k]? =some v∧v.cfg=jG p m (bS p) l∧Back S.V k b∧b.length≤l.length:=by
 intro n
 induction n with
 |zero=>
  intro l hl _
  obtain rfl:=cM.1 hl
  obtain⟨w,hw,hw1,hw2⟩:=h.root
  exact⟨0,w,[],hw,hw1,.root hw (by omega),aE _⟩
 |succ n ih=>
  intro l hl hr
  rcases List.eq_nil_or_concat l with e|⟨r,x,e⟩
  ·subst e;simp at hl
  ·rw[List.concat_eq_append]at e
   subst e
   obtain⟨h1,h2⟩:=mz.1 hr
   obtain⟨k,v,b,hk,hv,hbk,hlen⟩:=ih r (by simpa using hl) h1
   have hkl:=(aA.1 hk).1
   obtain⟨j,w,hj,hw,hwf⟩:=Bw h hb k hkl x (by rw[jA hk,hv];exact h2)
   have hjl:=(aA.1 hj).1
   obtain⟨b2,hb2⟩:=h.back j hjl
   refine⟨j,w,b2,hj,?_,hb2,?_⟩
   ·rw[hw,jA hk,hv]
    unfold jG
    rw[dG];rfl
   ·rw[aF]
    cases hb2 with
    |root=>simp
    |step hj2 hf2 hb3=>
     rename_i j3 v3 l3
     rw[hj]at hj2
     cases hj2
     have:=wE h j3 k (by omega) _ _ hb3 hbk
     simp only[ae,aj]
     omega
end
end Go.Proofs.YtdpdbokicanpoaaGreatDoor
end
section
namespace Go.Proofs.YtdpdbokicanpoaaGreatDoor
theorem nu:∀{n:Nat} {l:List Nat},l.Nodup→(∀x∈l,x<n)→l.length≤n
 |0,l,_,hx=>by
  cases l with
  |nil=>exact aE _
  |cons a t=>exact absurd (hx a (by simp)) (by omega)
 |n+1,l,h,hx=>by
  by_cases hm:n∈l
  ·have h1:=nu (n:=n) (l:=l.erase n) (h.erase n) λ x hx'=>by
    rw[h.mem_erase_iff]at hx'
    have:=hx x hx'.2
    have:=hx'.1
    omega
   rw[List.length_erase_of_mem hm]at h1
   omega
  ·have h1:=nu (n:=n) (l:=l) h λ x hx'=>by
    have:=hx x hx'
    have:x≠n:=λ e=>hm (e▸hx')
    omega
   omega
def oz(v:Int):UInt8:=UInt8.ofNat (v % 256).toNat
theorem oy{a b:Int}(ha:0≤a∧a<256)(hb:0≤b∧b<256)(h:oz a=oz b):a=b:=by
 have h1:=congrArg UInt8.toNat h
 unfold oz at h1
 simp only[UInt8.toNat_ofNat']at h1
 omega
def sD(e:Ent):List UInt8:=oz e.cells.length::(e.cells.zip e.vals).flatMap λ q=>[oz q.1,oz q.2]
def sE(l:List Ent):List UInt8:=oz l.length::l.flatMap sD
def sw(c:Cfg):List UInt8:=c.mem.map oz++(c.pos.map λ a=>oz (a+1))++c.buf.flatMap sE
theorem xo{f:Int→UInt8}{P:Int→Prop}(hf:∀a b,P a→P b→f a=f b→a=b):∀{x y:List Int},(∀a∈x,P a)→(∀a∈y,P a)→x.map f=y.map f→x=y
 |[],[],_,_,_=>rfl
 |[],b::y,_,_,h=>by simp at h
 |a::x,[],_,_,h=>by simp at h
 |a::x,b::y,hx,hy,h=>by
  simp only[aM,List.cons.injEq]at h
  rw[hf a b (hx a (by simp)) (hy b (by simp)) h.1,xo hf (λ c hc=>hx c (by simp [hc])) (λ c hc=>hy c (by simp [hc])) h.2]
structure EntSm (e:Ent):Prop where
 len:e.vals.length=e.cells.length
 few:e.cells.length<256
 cell:∀c∈e.cells,0≤c∧c<256
 val:∀v∈e.vals,0≤v∧v<256
theorem vN:∀{a b x y:List Int} {r s:List UInt8},a.length=x.length→b.length=a.length→y.length=x.length→(∀c∈a,0≤c∧c<256)→(∀c∈b,0≤c∧c<256)→(∀c∈x,0≤c∧c<256)→(∀c∈y,0≤c∧c<256)→
  ((a.zip b).flatMap λ q=>[oz q.1,oz q.2])++r=((x.zip y).flatMap λ q=>[oz q.1,oz q.2])++s→a=x∧b=y∧r=s
 |[],b,x,y,r,s,h1,h2,h3,_,_,_,_,h=>by
  obtain rfl:=cM.1 (show b.length=0 by simpa using h2)
  obtain rfl:=cM.1 (show x.length=0 by simpa using h1.symm)
  obtain rfl:=cM.1 (show y.length=0 by simpa using h3)
  exact⟨rfl,rfl,by simpa using h⟩
 |a::asZ,[],_,_,_,_,_,h2,_,_,_,_,_,_=>by simp at h2
 |a::asZ,b::bs,[],_,_,_,h1,_,_,_,_,_,_,_=>by simp at h1
 |a::asZ,b::bs,x::xs,[],_,_,_,_,h3,_,_,_,_,_=>by simp at h3
 |a::asZ,b::bs,x::xs,y::ys,r,s,h1,h2,h3,ka,kb,kx,ky,h=>by
  simp only[List.zip_cons_cons,cP,ah,ak,List.cons.injEq]at h
  obtain⟨e1,e2,h⟩:=h
  obtain⟨g1,g2,g3⟩:=vN (by simpa using h1) (by simpa using h2) (by simpa using h3) (λ c hc=>ka c (by simp [hc])) (λ c hc=>kb c (by simp [hc])) (λ c hc=>kx c (by simp [hc])) (λ c hc=>ky c (by simp [hc])) h
  rw[oy (ka a (by simp)) (kx x (by simp)) e1,oy (kb b (by simp)) (ky y (by simp)) e2,g1,g2]
  exact⟨rfl,rfl,g3⟩
theorem encE_inj{e f:Ent}{r s:List UInt8}(he:EntSm e)(hf:EntSm f)(h:sD e++r=sD f++s):e=f∧r=s:=by
 unfold sD at h
 simp only[ah,List.cons.injEq]at h
 have hl:=oy (a:=e.cells.length) (b:=f.cells.length) ⟨by omega,by have:=he.few;omega⟩ ⟨by omega,by have:=hf.few;omega⟩ h.1
 obtain⟨h1,h2,h3⟩:=vN (by omega) he.len hf.len he.cell he.val hf.cell hf.val h.2
 refine⟨?_,h3⟩
 cases e;cases f
 simp only at h1 h2
 rw[h1,h2]
theorem zW:∀{l k:List Ent} {r s:List UInt8},l.length=k.length→(∀e∈l,EntSm e)→(∀e∈k,EntSm e)→l.flatMap sD++r=k.flatMap sD++s→l=k∧r=s
 |[],[],_,_,_,_,_,h=>⟨rfl,by simpa using h⟩
 |[],_::_,_,_,hl,_,_,_=>by simp at hl
 |_::_,[],_,_,hl,_,_,_=>by simp at hl
 |e::l,f::k,r,s,hl,he,hf,h=>by
  simp only[cP,aU]at h
  obtain⟨h1,h2⟩:=encE_inj (he e (by simp)) (hf f (by simp)) h
  obtain⟨h3,h4⟩:=zW (by simpa using hl) (λ x hx=>he x (by simp [hx])) (λ x hx=>hf x (by simp [hx])) h2
  rw[h1,h3]
  exact⟨rfl,h4⟩
theorem encB_inj{l k:List Ent}{r s:List UInt8}(hl:l.length<256)(hk:k.length<256)(he:∀e∈l,EntSm e)(hf:∀e∈k,EntSm e)(h:sE l++r=sE k++s):l=k∧r=s:=by
 unfold sE at h
 simp only[ah,List.cons.injEq]at h
 exact zW (by have:=oy (a:=l.length) (b:=k.length) ⟨by omega,by omega⟩ ⟨by omega,by omega⟩ h.1;omega) he hf h.2
theorem Ak:∀{x y:List (List Ent)} {r s:List UInt8},x.length=y.length→(∀l∈x,l.length<256∧∀e∈l,EntSm e)→(∀l∈y,l.length<256∧∀e∈l,EntSm e)→x.flatMap sE++r=y.flatMap sE++s→x=y∧r=s
 |[],[],_,_,_,_,_,h=>⟨rfl,by simpa using h⟩
 |[],_::_,_,_,hl,_,_,_=>by simp at hl
 |_::_,[],_,_,hl,_,_,_=>by simp at hl
 |e::l,f::k,r,s,hl,he,hf,h=>by
  simp only[cP,aU]at h
  obtain⟨h1,h2⟩:=encB_inj (he e (by simp)).1 (hf f (by simp)).1 (he e (by simp)).2 (hf f (by simp)).2 h
  obtain⟨h3,h4⟩:=Ak (by simpa using hl) (λ x hx=>he x (by simp [hx])) (λ x hx=>hf x (by simp [hx])) h2
  rw[h1,h3]
  exact⟨rfl,h4⟩
theorem v7{l:List Int}{n:Nat}(h:l.Nodup)(hx:∀x∈l,0≤x∧x<n):l.length≤n:=by
 have:=nu (n:=n) (l:=l.map Int.toNat) ?_ ?_
 ·simpa using this
 ·have:∀{l:List Int},l.Nodup→(∀x∈l,0≤x)→(l.map Int.toNat).Nodup:=by
   intro l
   induction l with
   |nil=>intro _ _;simp
   |cons a l ih=>
    intro h hx
    rw[cR]at h
    rw[aM,cR]
    refine⟨λ hm=> ?_,ih h.2 λ x hm=>hx x (by simp [hm])⟩
    obtain⟨b,hb,e⟩:=aI.1 hm
    have h1:=hx a (by simp)
    have h2:=hx b (by simp [hb])
    have:b=a:=by omega
    exact h.1 (this▸hb)
  exact this h λ x hm=>(hx x hm).1
 ·intro x hm
  obtain⟨y,hy,rfl⟩:=aI.1 hm
  have:=hx y hy
  omega
theorem AD{p:Prg}(hp:p.Ok){c:Int}(h0:0≤c)(hc:c<p.cells.length):1≤(p.cell c).w∧(p.cell c).w≤8:=by
 refine(hp.cells _ ?_).w
 unfold Prg.cell
 rw[au,ap (by omega)]
 exact bI _
theorem vM{w:Int}(h:w≤8):(2:Int)^w.toNat≤256:=by
 have:2^w.toNat≤2^8:=gn (by omega) (by omega)
 have h2:((2:Int)^w.toNat)=((2^w.toNat:Nat):Int):=by simp
 omega
theorem ent_sm{p:Prg}(hp:p.Ok)(hn:p.cells.length≤32){e:Ent}(he:EntOk p e):EntSm e:=by
 have hc:∀c∈e.cells,0≤c∧c<p.cells.length:=λ c hc=>by
  obtain⟨i,hi,rfl⟩:=bF hc
  exact(eJ.1 (he.cell i _ (ap hi)).1).1
 refine⟨he.len,?_,λ c h=> ?_,λ v h=> ?_⟩
 ·have:=v7 he.nodup hc
  omega
 ·have:=hc c h
  omega
 ·obtain⟨i,hi,rfl⟩:=bF h
  have hi2:i<e.cells.length:=by rw[←he.len];exact hi
  have h1:=he.val i _ _ (ap hi2) (ap hi)
  have h2:=hc _ (bI hi2)
  have h3:=vM (AD hp h2.1 h2.2).2
  omega
theorem mem_sm{p:Prg}(hp:p.Ok){mem:List Int}(h:MemOk p mem):∀v∈mem,0≤v∧v<256:=λ v hv=>by
 obtain⟨i,hi,rfl⟩:=bF hv
 have h1:=h.val i _ (ap hi)
 have h3:=vM (AD hp (c:=(i:Int)) (by omega) (by rw[←h.len];omega)).2
 omega
theorem key_inj{p:Prg}(hp:p.Ok)(hs:p.Small){m:Int}{c d:Cfg}(hc:Fits p m c)(hd:Fits p m d)(h:sw c=sw d):c=d:=by
 unfold sw at h
 rw[aU,aU]at h
 have hn:p.cells.length≤32:=by have:=hs.ncel;omega
 obtain⟨h1,h2⟩:=List.append_inj h (by rw[ac,ac,hc.mem.len,hd.mem.len])
 obtain⟨h2,h3⟩:=List.append_inj h2 (by rw[ac,ac,hc.npos,hd.npos])
 have hps:∀{c:Cfg},Fits p m c→∀a∈c.pos,-1≤a∧a<9:=λ {c} hf a ha=>by
  obtain⟨t,ht,rfl⟩:=bF ha
  obtain⟨g1,g2,_⟩:=hf.pos t _ (ap ht)
  have ht2:t<p.threads.length:=by rw[←hf.npos];exact ht
  have:(p.thr t).points≤8:=by
   refine(hs.threads _ ?_).points
   unfold Prg.thr
   rw[au,ap ht2]
   exact bI _
  omega
 have hbs:∀{c:Cfg},Fits p m c→∀l∈c.buf,l.length<256∧∀e∈l,EntSm e:=λ {c} hf l hl=>by
  obtain⟨t,ht,rfl⟩:=bF hl
  obtain⟨g1,g2⟩:=hf.few t _ (ap ht)
  exact⟨by omega,λ e he=>ent_sm hp hn (g2 e he)⟩
 have k1:=xo (P:=λ a=>0≤a∧a<256) (λ a b ha hb=>oy ha hb) (mem_sm hp hc.mem) (mem_sm hp hd.mem) h1
 have k2:=xo (P:=λ a=> -1≤a∧a<9) (f:=λ a=>oz (a+1)) (λ a b ha hb hab=>by have:=oy (a:=a+1) (b:=b+1) (by omega) (by omega) hab;omega) (hps hc) (hps hd) h2
 have k3:=(Ak (r:=[]) (s:=[]) (by rw[hc.nbuf,hd.nbuf]) (hbs hc) (hbs hd) (by rw[h3])).1
 cases c;cases d
 simp only at k1 k2 k3
 rw[k1,k2,k3]
end Go.Proofs.YtdpdbokicanpoaaGreatDoor
end
section
namespace Go.Proofs.YtdpdbokicanpoaaGreatDoor
theorem E4:∀{l:List (Int×Int)} {mem:List Int} {i:Nat} {v:Int},(∀q∈l,q.1.toNat≠i)→l.foldl (λ m q=>m.set q.1.toNat q.2) (mem.set i v)=(l.foldl (λ m q=>m.set q.1.toNat q.2) mem).set i v
 |[],_,_,_,_=>rfl
 |q::l,mem,i,v,h=>by
  rw[cc,cc,EC _ _ (Ne.symm (h q (by simp)))]
  exact E4 λ r hr=>h r (by simp [hr])
theorem FM:∀{k l:List (Int×Int)} {mem:List Int},(∀q∈k,∀r∈l,q.1.toNat≠r.1.toNat)→l.foldl (λ m q=>m.set q.1.toNat q.2) (k.foldl (λ m q=>m.set q.1.toNat q.2) mem)=k.foldl (λ m q=>m.set q.1.toNat q.2) (l.foldl (λ m q=>m.set q.1.toNat q.2) mem)
 |[],_,_,_=>rfl
 |q::k,l,mem,h=>by
  rw[cc,cc,FM λ r hr=>h r (by simp [hr]),E4 λ r hr=>(h q (by simp) r hr).symm]
theorem wrM_comm{mem:List Int}{e f:Ent}(h:∀c∈e.cells,∀d∈f.cells,c.toNat≠d.toNat):oI (oI mem e) f=oI (oI mem f) e:=
 FM λ q hq r hr=>h _ (List.of_mem_zip hq).1 _ (List.of_mem_zip hr).1
theorem Fx{mem:List Int}:∀{l:List Ent} {i:Nat},i<l.length→(∀o∈l.take i,∀c∈(l.getD i cD).cells,∀d∈o.cells,c.toNat≠d.toNat)→(l.eraseIdx i).foldl oI (oI mem (l.getD i cD))=l.foldl oI mem
 |[],i,hi,_=>by simp at hi
 |e::l,0,_,_=>rfl
 |e::l,i+1,hi,h=>by
  simp only[List.eraseIdx_cons_succ,cc,eU]at h ⊢
  rw[wrM_comm (h e (by simp))]
  exact Fx (by simpa using hi) λ o ho=>h o (by simp [ho])
theorem F7{p:Prg}{m:Int}{l:List Ent}(hl:∀e∈l,EntOk p e){i:Nat}(hi:i<l.length)(h:eL m l i=true):∀o∈l.take i,∀c∈(l.getD i cD).cells,∀d∈o.cells,c.toNat≠d.toNat:=by
 intro o ho c hc d hd e
 have hn:∀x∈l,∀c∈x.cells,0≤c:=λ x hx c hc=>by
  obtain⟨i,hi,rfl⟩:=bF hc
  exact(eJ.1 ((hl x hx).cell i _ (ap hi)).1).1.1
 have h1:=hn _ (by rw[au,ap hi];exact bI hi) c hc
 have h2:=hn o (dW ho) d hd
 obtain rfl:c=d:=by omega
 unfold eL at h
 rcases cv i with h0|h0
 ·subst h0;simp at ho
 ·have hz:(i==0)=false:=by simp;omega
  rw[hz,fj,aB,bQ]at h
  have:nA (l.take i) (l.getD i cD)=true:=by
   unfold nA
   rw[d8]
   refine⟨o,ho,?_⟩
   rw[d8]
   exact⟨c,hc,by simpa using hd⟩
  rw[this]at h
  exact absurd h.2 (by decide)
theorem GC{p:Prg}{m:Int}{c:Cfg}(hf:Fits p m c){t i:Nat}(hi:i<(c.bufAt t).length)(h:eL m (c.bufAt t) i=true):cT (rC c t i) t=cT c t:=by
 have ht:t<c.buf.length:=by
  rcases aC t c.buf.length with h|h
  ·exact h
  ·unfold Cfg.bufAt at hi
   rw[au,bm h]at hi
   simp at hi
 unfold cT rC
 rw[wB,if_pos ⟨rfl,ht⟩]
 exact Fx hi (F7 (hf.bufOk t).2 hi h)
def Fa(c:Cfg):Nat:=(c.buf.map List.length).sum
theorem Gs:∀{l:List Nat} {t:Nat} {n:Nat},t<l.length→(l.set t n).sum+l.getD t 0=l.sum+n
 |[],t,_,h=>by simp at h
 |a::l,0,n,_=>by simp;omega
 |a::l,t+1,n,h=>by
  have:=Gs (l:=l) (t:=t) (n:=n) (by simpa using h)
  simp only[ff,Ey,eU]
  omega
theorem Fm{c:Cfg}{t i:Nat}(hi:i<(c.bufAt t).length):Fa (rC c t i)+1=Fa c:=by
 have ht:t<c.buf.length:=by
  rcases aC t c.buf.length with h|h
  ·exact h
  ·unfold Cfg.bufAt at hi
   rw[au,bm h]at hi
   simp at hi
 unfold Fa rC
 rw[fF,List.length_eraseIdx,if_pos hi]
 have h1:=Gs (l:=c.buf.map List.length) (t:=t) (n:=(c.bufAt t).length - 1) (by simpa using ht)
 have h2:(c.buf.map List.length).getD t 0=(c.bufAt t).length:=by
  unfold Cfg.bufAt
  rw[au,aN,ap ht,au,ap ht];rfl
 rw[h2]at h1
 show((c.buf.map List.length).set t ((c.bufAt t).length - 1)).sum+1=_
 omega
theorem Fq(m:Int)(l:List Ent):eL m l 0=true:=rfl
def y9(p:Prg)(m:Int)(c:Cfg)(t:Nat):List Cho:=(fY p m c).filter λ x=>x.step== -1&&x.thread==(t:Int)
def E3(p:Prg)(m:Int)(c:Cfg)(t:Nat):List Cho:=(fY p m c).filter λ x=>x.step== -1&& !(x.thread==(t:Int))
theorem Ft{p:Prg}{m:Int}{c:Cfg}(hf:Fits p m c){x:Cho}(hx:x∈fY p m c)(hs:x.step= -1):∃t i:Nat,t<p.threads.length∧x.thread=t∧i<(c.bufAt t).length∧eL m (c.bufAt t) i=true∧fV p m c x=rC c t i:=by
 obtain⟨t,ht,⟨i,hi,he,rfl⟩|⟨i,hi,he,rfl⟩⟩:=l9.1 hx
 ·exact absurd hs (by show(i:Int)≠-1;omega)
 ·exact⟨t,i,ht,rfl,hi,he,qY hf hi he⟩
theorem Gu{p:Prg}{m:Int}{c:Cfg}{t:Nat}(ht:t<p.threads.length)(h:y9 p m c t=[]):c.bufAt t=[]:=by
 rcases cv (c.bufAt t).length with h0|h0
 ·exact cM.1 h0
 ·have:(⟨t,-1,((c.bufAt t).getD 0 cD).cells.getD 0 0⟩:Cho)∈y9 p m c t:=by
   unfold y9
   rw[eZ]
   exact⟨l9.2 ⟨t,ht,.inr ⟨0,h0,Fq _ _,rfl⟩⟩,by simp⟩
  rw[h]at this
  cases this
theorem Gv{p:Prg}{m:Int}{c:Cfg}{t u:Nat}(hu:u<p.threads.length)(hut:u≠t)(h:E3 p m c t=[]):c.bufAt u=[]:=by
 rcases cv (c.bufAt u).length with h0|h0
 ·exact cM.1 h0
 ·have:(⟨u,-1,((c.bufAt u).getD 0 cD).cells.getD 0 0⟩:Cho)∈E3 p m c t:=by
   unfold E3
   rw[eZ]
   refine⟨l9.2 ⟨u,hu,.inr ⟨0,h0,Fq _ _,rfl⟩⟩,?_⟩
   have:((u:Int)==(t:Int))=false:=by simp;omega
   simp [this]
  rw[h]at this
  cases this
theorem all_nil{p:Prg}{m:Int}{c:Cfg}(hf:Fits p m c)(h:∀u,u<p.threads.length→c.bufAt u=[]):∀l∈c.buf,l=[]:=λ l hl=>by
 obtain⟨u,hu,rfl⟩:=bF hl
 have:=h u (by rw[←hf.nbuf];exact hu)
 unfold Cfg.bufAt at this
 rw[au,ap hu]at this
 exact this
theorem GQ{p:Prg}{m:Int}{c:Cfg}(hf:Fits p m c)(h:∀l∈c.buf,l=[]):Fits p 0 c:=⟨hf.mem,hf.npos,hf.nbuf,hf.pos,hf.few,λ _=>h⟩
theorem yi{c:Cfg}{t:Nat}(h:c.bufAt t=[]):cT c t=c.mem:=by unfold cT;rw[h];rfl
theorem total_le{p:Prg}{m:Int}{c:Cfg}(hs:p.Small)(hf:Fits p m c):Fa c≤9:=by
 unfold Fa
 have:∀(l:List (List Ent)),(∀x∈l,x.length≤3)→(l.map List.length).sum≤3*l.length:=by
  intro l
  induction l with
  |nil=>intro _;simp
  |cons a l ih=>
   intro h
   have h1:=ih λ x hx=>h x (by simp [hx])
   have h2:=h a (by simp)
   simp only[aM,Ey,ae]
   omega
 have h1:=this c.buf λ x hx=>by
  obtain⟨t,ht,rfl⟩:=bF hx
  exact(hf.few t _ (ap ht)).1
 have:=hf.nbuf
 have:=hs.nthr
 omega
theorem Gw{p:Prg}(hp:p.Ok){m:Int}{S:BS}(h:Steps p m (kP p m) S)(hb:eX p m S=none){l:List Cho}(hl:fK p m (bS p) l):jG p m (bS p) l∈S.V.map Vis.cfg:=by
 obtain⟨k,v,b,hk,hv,_⟩:=Cd (fx hp h) hb l.length l rfl hl
 exact aI.2 ⟨v,bh hk,hv⟩
end Go.Proofs.YtdpdbokicanpoaaGreatDoor
end
section
namespace Go.Proofs.YtdpdbokicanpoaaGreatDoor
structure Perm (n:Nat) (to:List Int):Prop where
 len:to.length=n
 rng:∀x∈to,0≤x∧x<n
 nodup:to.Nodup
def mv(to:List Int)(c:Int):Int:=if 0≤c∧c<to.length then to.getD c.toNat 0 else c
section
variable {n:Nat} {to:List Int}
theorem Perm.inj(h:Perm n to){i j:Nat}(hi:i<n)(hj:j<n)(e:to.getD i 0=to.getD j 0):i=j:=by
 have hi:i<to.length:=by rw[h.len];exact hi
 have hj:j<to.length:=by rw[h.len];exact hj
 rw[au,au,ap hi,ap hj]at e
 exact(List.getElem_inj h.nodup).1 e
end
section
variable {α:Type}
def EK(acc:List α)(ps:List (Int×α)):List α:=ps.foldl (λ m q=>m.set q.1.toNat q.2) acc
def Eu(d:α)(to:List Int)(l:List α):List α:=EK (List.replicate to.length d) (to.zip l)
variable {n:Nat} {to:List Int} {d:α} {l:List α}
end
mutual
def Ex.ren(to:List Int):Ex→Ex
 | .mk o w n k=> .mk o w (if o=2∨o=3 then mv to n else n) (ix to k)
def ix(to:List Int):List Ex→List Ex
 |[]=>[]
 |e::r=>e.ren to::ix to r
end
section
variable {to:List Int}
end
end Go.Proofs.YtdpdbokicanpoaaGreatDoor
end
section
namespace Go.Proofs.YtdpdbokicanpoaaGreatDoor
def EE(n:Nat)(to fr:List Int):List Int:=((List.range n).filter λ k:Nat=>(fr.map (mv to)).contains (k:Int)).map λ k:Nat=>(k:Int)
def Ctr.ren(n:Nat)(to:List Int)(m:Ctr):Ctr:=⟨m.name,m.owner,m.rely.ren to,m.guar.ren to,EE n to m.frame⟩
def Lck.ren(to:List Int)(l:Lck):Lck:=⟨mv to l.cell,l.inv.ren to,l.mod⟩
def Asg.ren(to:List Int)(a:Asg):Asg:=⟨mv to a.cell,a.to.ren to⟩
def Stp.ren(to:List Int)(s:Stp):Stp:=⟨s.kind,s.src,s.dst,s.guard.ren to,s.set.map (Asg.ren to),s.rel,s.target,s.mod⟩
def Lop.ren(to:List Int)(l:Lop):Lop:=⟨l.head,l.body,l.var.ren to⟩
def Thr.ren(to:List Int)(x:Thr):Thr:=⟨x.name,x.points,x.asserts.map (Ex.ren to),x.mods,x.steps.map (Stp.ren to),x.loops.map (Lop.ren to),x.asleep⟩
def Prg.ren(p:Prg)(to:List Int):Prg:=⟨Eu fU to p.cells,p.modules.map (Ctr.ren p.cells.length to),p.locks.map (Lck.ren to),p.threads.map (Thr.ren to)⟩
section
variable {p:Prg} {to:List Int}
theorem xu{e:Ex}(h:e.fits=true)(ho:e.op=2∨e.op=3):0≤e.n∧e.n<32:=by
 simp only[Ex.fits,aB,av]at h
 have h2:=h.2
 rw[if_neg (by omega),if_pos ho,av]at h2
 exact h2
theorem Fs{cells:List Cel}{pair:Bool}{e:Ex}(h:e.overN cells pair=true)(ho:e.op=2∨e.op=3):e.n<cells.length∧(cells.getD e.n.toNat fU).w=e.w:=by
 simp only[Ex.overN,aB,bQ,dw,bA,ck,ay,bne_eq_false_iff_eq]at h
 rcases h.2 with h|h
 ·rcases ho with ho|ho
  ·exact absurd ho h.2
  ·exact absurd ho h.1
 ·exact⟨by omega,h.2⟩
theorem Da{α:Type}{l:List α}:l.Nodup↔∀(i j:Nat) (x:α),l[i]? =some x→l[j]? =some x→i=j:=by
 constructor
 ·intro h i j x hi hj
  obtain⟨hi1,hi2⟩:=aA.1 hi
  obtain⟨hj1,hj2⟩:=aA.1 hj
  exact(List.getElem_inj h).1 (hi2.trans hj2.symm)
 ·induction l with
  |nil=>intro _;simp
  |cons a l ih=>
   intro h
   rw[cR]
   refine⟨λ hm=> ?_,ih λ i j x hi hj=>by
    have:=h (i+1) (j+1) x (by simpa using hi) (by simpa using hj)
    omega⟩
   obtain⟨i,hi,e⟩:=bF hm
   have:=h 0 (i+1) a rfl (by simp [ap hi,e])
   omega
end
end Go.Proofs.YtdpdbokicanpoaaGreatDoor
end
section
namespace Go.Proofs.YtdpdbokicanpoaaGreatDoor
def Ent.ren(to:List Int)(e:Ent):Ent:=⟨e.cells.map (mv to),e.vals⟩
def Cfg.ren(to:List Int)(c:Cfg):Cfg:=⟨Eu 0 to c.mem,c.pos,c.buf.map λ l=>l.map (Ent.ren to)⟩
def Cho.ren(to:List Int)(x:Cho):Cho:=⟨x.thread,x.step,if x.step= -1 then mv to x.cell else x.cell⟩
section
variable {p:Prg} {to:List Int}
theorem sF(mem:List Int)(e:Ent):(oI mem e).length=mem.length:=by
 unfold oI
 have:∀(ps:List (Int×Int)) (m:List Int),(ps.foldl (λ m q=>m.set q.1.toNat q.2) m).length=m.length:=by
  intro ps
  induction ps with
  |nil=>intro m;rfl
  |cons q ps ih=>intro m;rw[cc,ih,aH]
 exact this _ _
def Vis.ren(to:List Int)(v:Vis):Vis:=⟨v.cfg.ren to,v.frm,v.cho.ren to⟩
def BS.ren(to:List Int)(S:BS):BS:=⟨S.V.map (Vis.ren to),S.i,S.xs.map (Cho.ren to)⟩
end
end Go.Proofs.YtdpdbokicanpoaaGreatDoor
end
namespace Go.Proofs.YtdpdbokicanpoaaGreatDoor
section
open Go Go.Ab
def eD(e:Ex):D:= .agg [iD e.op,iD e.w,iD e.n,.sl 4 (e.kids.map Ex.d)]
theorem ed(e:Ex):e.d=eD e:=Ex.d_eq e
def iH(m:Ctr):D:= .agg [.str m.name,.str m.owner,iD m.rely.op,iD m.rely.w,iD m.rely.n,.sl 4 (m.rely.kids.map Ex.d),iD m.guar.op,iD m.guar.w,iD m.guar.n,.sl 4 (m.guar.kids.map Ex.d),bu m.frame]
def iZ(l:Lck):D:= .agg [iD l.cell,iD l.inv.op,iD l.inv.w,iD l.inv.n,.sl 4 (l.inv.kids.map Ex.d),iD l.mod]
def dM(a:Asg):D:= .agg [iD a.cell,iD a.to.op,iD a.to.w,iD a.to.n,.sl 4 (a.to.kids.map Ex.d)]
def eP(s:Stp):D:= .agg [iD s.kind,iD s.src,iD s.dst,iD s.guard.op,iD s.guard.w,iD s.guard.n,.sl 4 (s.guard.kids.map Ex.d),.sl 5 (s.set.map dM),.bool s.rel,iD s.target,iD s.mod]
def pt(l:Lop):D:= .agg [iD l.head,bu l.body,iD l.var.op,iD l.var.w,iD l.var.n,.sl 4 (l.var.kids.map Ex.d)]
def c8(x:Thr):D:= .agg [.str x.name,iD x.points,.sl 4 (x.asserts.map Ex.d),bu x.mods,.sl 11 (x.steps.map eP),.sl 6 (x.loops.map pt),.bool x.asleep]
def bK(p:Prg):D:= .agg [aY p.cells,.sl 11 (p.modules.map iH),.sl 6 (p.locks.map iZ),.sl 7 (p.threads.map c8)]
def bO(e:Ent):D:= .agg [bu e.cells,bu e.vals]
def cu(l:List Ent):D:= .sl 2 (l.map bO)
def bX(c:Cfg):D:= .agg [bu c.mem,bu c.pos,.sl 1 (c.buf.map cu)]
def c7(x:Cho):D:= .agg [iD x.thread,iD x.step,iD x.cell]
structure StpSz (s:Stp):Prop where
 guard:s.guard.Ok
 nset:s.set.length≤reachBytes
 set:∀a∈s.set,a.to.Ok
structure ThrSz (x:Thr):Prop where
 nas:x.asserts.length≤reachBytes
 asserts:∀e∈x.asserts,e.Ok
 nmo:x.mods.length≤reachBytes
 nst:x.steps.length≤reachBytes
 steps:∀s∈x.steps,StpSz s
 nlo:x.loops.length≤reachBytes
 loops:∀l∈x.loops,l.body.length≤reachBytes∧l.var.Ok
structure PrgSz (p:Prg):Prop where
 ncel:p.cells.length≤reachBytes
 names:∀c∈p.cells,c.name.length≤reachBytes
 nmod:p.modules.length≤reachBytes
 modules:∀m∈p.modules,m.name.length≤reachBytes∧m.owner.length≤reachBytes∧m.rely.Ok∧m.guar.Ok∧m.frame.length≤reachBytes
 nlck:p.locks.length≤reachBytes
 locks:∀l∈p.locks,l.inv.Ok
 nthr:p.threads.length≤reachBytes
 threads:∀x∈p.threads,x.name.length≤reachBytes∧ThrSz x
-- an element of a list of data
theorem xM{l:List Ctr}{j:Nat}(h:j<l.length):List.getD (l.map iH) j default=iH (l.getD j mj):=dQ h
theorem xw{l:List Lck}{j:Nat}(h:j<l.length):List.getD (l.map iZ) j default=iZ (l.getD j mJ):=dQ h
theorem iP{l:List Asg}{j:Nat}(h:j<l.length):List.getD (l.map dM) j default=dM (l.getD j dt):=dQ h
theorem mw{l:List Stp}{j:Nat}(h:j<l.length):List.getD (l.map eP) j default=eP (l.getD j jY):=dQ h
theorem A5{l:List Lop}{j:Nat}(h:j<l.length):List.getD (l.map pt) j default=pt (l.getD j vg):=dQ h
theorem fe{l:List Thr}{j:Nat}(h:j<l.length):List.getD (l.map c8) j default=c8 (l.getD j fg):=dQ h
theorem gG{l:List Ent}{j:Nat}(h:j<l.length):List.getD (l.map bO) j default=bO (l.getD j cD):=dQ h
theorem gH{l:List (List Ent)}{j:Nat}(h:j<l.length):List.getD (l.map cu) j default=cu (l.getD j []):=dQ h
theorem uF{l:List Cho}{j:Nat}(h:j<l.length):List.getD (l.map c7) j default=c7 (l.getD j fE):=dQ h
theorem Gy{l:List Ex}{j:Nat}(h:j<l.length):List.getD (l.map Ex.d) j default=eD (l.getD j zQ):=by rw[dQ (d:=zQ) h,ed]
theorem rS{n:Nat}(h:n≤reachBytes):n≤140737488351232:=h
theorem k8(i n:Int)(Z:St)(G:Glob)(R:A→St→Prop)(h:R (db (kj i n)) Z):AC Tryz.prog G 103 [di i,di n] Z R:=by
 refine bg a9 Tryz.func103 rfl Tryz.ntmps103 (by simp only[go_sem]) λ hbd=> ?_
 simp only[ae,aj,Nat.reduceAdd,Nat.reduceSub,af,ag,ah,ak]
 have e:kj i n=(decide (0≤i)&&decide (i<n)):=by simp [kj]
 rw[e]at h
 cases d0:decide (0≤i)with
 |true=>
  rw[d0]at h
  simp only[go_sem,d0]
  exact cw h
 |false=>
  rw[d0]at h
  simp only[go_sem,d0]
  exact cw h
def okC(c:UInt8):Bool:=decide (33≤c.toNat∧c.toNat≤126)
theorem rj(s:List UInt8):jj s=(decide (1≤s.length∧s.length≤64)&&s.all okC):=rfl
theorem qg(s:List UInt8)(hs:s.length≤reachBytes)(Z:St)(G:Glob)(R:A→St→Prop)(h:R (db (jj s)) Z):AC Tryz.prog G 101 [.d (.str s)] Z R:=by
 have hs2:=rS hs
 refine bg a9 Tryz.func101 rfl Tryz.ntmps101 (by simp only[go_sem]) λ hbd=> ?_
 simp only[ae,aj,Nat.reduceAdd,Nat.reduceSub,af,ag,ah,ak]
 try simp only[go_sem]
 refine aS (λ m fr st=>∃j:Nat,j≤s.length∧m=s.length - j∧(∀c∈s.take j,okC c=true)∧st=Z∧fr=%[.d (.str s),.o,.o,dn j|D5 (D4 [])]) s.length _ (Wk.mask [0,3] ⟨0,by omega,by omega,by simp,rfl,rfl⟩) ?_
 rintro m fr Z ⟨j,hj,hm,hall,rfl,rfl⟩
 rcases aC j s.length with hlt|hge
 ·have hd:decide ((j:Int)<(s.length:Int))=true:=by simp only[av];omega
  have w2:=bC j (by omega)
  simp only[go_sem,hd,w2]
  refine⟨⟨by omega,by omega⟩,λ q=>⟨q,by omega,by omega⟩,λ c=> ?_,λ c=> ?_⟩
  ·have e:jj s=false:=by
    rw[rj,dw]
    right
    rw[List.all_eq_false]
    refine⟨s.getD j 0,bT 0 hlt,?_⟩
    simp only[cd,av]at c
    simp only[okC,av]
    omega
   rw[e]at h
   exact cw h
  ·refine Wk.mask [0,3] ⟨s.length - (j+1),by omega,j+1,by omega,rfl,?_,rfl,rfl⟩
   rw[bG 0 hlt]
   intro x hx
   rcases aW.1 hx with hx|hx
   ·exact hall x hx
   ·rw[cm]at hx
    rw[hx]
    simp only[bA,ay]at c
    simp only[okC,av]
    omega
 ·have hd:decide ((j:Int)<(s.length:Int))=false:=by simp only[ay];omega
  obtain rfl:j=s.length:=by omega
  simp only[go_sem,hd]
  rw[bB]at hall
  have e:jj s=(decide (1≤(s.length:Int))&&decide ((s.length:Int)≤64)):=by
   rw[rj,aZ.2 hall,dJ,dD,aB,av,av,av]
   omega
  rw[e]at h
  exact cw h
theorem DR(e:Ex)(hk:e.kids.length≤reachBytes)(Z:St)(G:Glob)(R:A→St→Prop)(h:R (db e.absent) Z):AC Tryz.prog G 104 [.d (eD e)] Z R:=by
 refine bg a9 Tryz.func104 rfl Tryz.ntmps104 (by simp only[go_sem]) λ hbd=> ?_
 simp only[ae,aj,Nat.reduceAdd,Nat.reduceSub,af,ag,ah,ak]
 unfold eD
 simp only[go_sem,ac]
 have e1:((e.kids.length:Int)==0)=e.kids.isEmpty:=by cases e.kids with|nil=>rfl|cons a l=>simp;omega
 rw[e1]
 exact aQ hbd h
theorem CJ{l:List Int}{j:Nat}(hj:j+1<l.length)(h:qE (l.take (j+1)))(hlt:l.getD j 0<l.getD (j+1) 0):qE (l.take (j+2)):=by
 unfold qE at h ⊢
 rw[show j+2=(j+1)+1 from rfl,bG 0 hj,List.pairwise_append]
 refine⟨h,by simp,λ a ha b hb=> ?_⟩
 rw[cm]at hb
 subst hb
 rw[bG 0 (by omega),aW]at ha
 rw[bG 0 (by omega),List.pairwise_append]at h
 rcases ha with ha|ha
 ·have:=h.2.2 a ha (l.getD j 0) (by simp)
  omega
 ·rw[cm]at ha
  omega
theorem BX{l:List Int}{j:Nat}(h:qE l)(hj:j+1<l.length):l.getD j 0<l.getD (j+1) 0:=by
 unfold qE at h
 rw[dO]at h
 have:=h j (j+1) (by omega) hj (by omega)
 rw[au,ap (by omega),au,ap hj]
 exact this
theorem vG(l:List Int)(hl:l.length≤reachBytes)(Z:St)(G:Glob)(R:A→St→Prop)(h:∀b:Bool,(b=true↔qE l)→R (db b) Z):AC Tryz.prog G 106 [.d (bu l)] Z R:=by
 have hl2:=rS hl
 unfold bu
 refine bg a9 Tryz.func106 rfl Tryz.ntmps106 (by simp only[go_sem]) λ hbd=> ?_
 simp only[ae,aj,Nat.reduceAdd,Nat.reduceSub,af,ag,ah,ak]
 try simp only[go_sem]
 refine aS (λ m fr st=>∃j:Nat,(j=0∨j<l.length)∧m=l.length - j∧qE (l.take (j+1))∧st=Z∧fr=%[.d (.sl 1 (l.map iD)),.o,.o,dn (j+1)|D5 []]) l.length _ (Wk.mask [0,3] ⟨0,.inl rfl,by omega,?_,rfl,rfl⟩) ?_
 ·cases l with
  |nil=>simp [qE]
  |cons a l=>simp [qE]
 rintro m fr Z ⟨j,hj,hm,hr,rfl,rfl⟩
 rcases aC (j+1) l.length with hlt|hge
 ·have hd:decide (((j+1:Nat):Int)<(l.length:Int))=true:=by simp only[av];omega
  have w2:=bC (j+1) (by omega)
  have w3:IntKind.i64.wrap (((j+1:Nat):Int) - 1)=(j:Int):=by rw[cq _ (by omega) (by omega)];omega
  simp only[go_sem,hd,w2,w3,ac,bW hlt,bW (show j<l.length by omega),ad]
  refine⟨⟨by omega,by omega⟩,⟨by omega,by omega⟩,λ c=>cw (h false ⟨λ q=>Bool.noConfusion q,λ q=>absurd (BX q hlt) (by simpa using c)⟩),λ c=> ?_⟩
  refine Wk.mask [0,3] ⟨l.length - (j+1),by omega,j+1,by omega,rfl,CJ hlt hr ?_,rfl,rfl⟩
  simpa using c
 ·have hd:decide (((j+1:Nat):Int)<(l.length:Int))=false:=by simp only[ay];omega
  simp only[go_sem,hd,ac]
  refine cw (h true ⟨λ _=> ?_,λ _=>rfl⟩)
  rwa [aK (by omega)]at hr
theorem qj(xs ys:List Int)(hn:xs.length≤reachBytes)(hn2:ys.length≤reachBytes)(Z:St)(G:Glob)(R:A→St→Prop)(h:R (db (xs==ys)) Z):AC Tryz.prog G 21 [.d (bu xs),.d (bu ys)] Z R:=by
 have h1:=rS hn
 have h2:=rS hn2
 unfold bu
 by_cases hl:xs.length=ys.length
 ·have e0:((xs.length:Int)!=(ys.length:Int))=false:=by simp [hl]
  refine bM a9 Tryz.func21 rfl Tryz.ntmps21 (by simp only[go_sem]) λ hbd=> ?_
  simp only[ae,aj,Nat.reduceAdd,Nat.reduceSub,af,ag,ah,ak]
  simp only[go_sem,ac,e0]
  refine aS (λ m fr st=>∃j:Nat,j≤xs.length∧m=xs.length - j∧xs.take j=ys.take j∧st=Z∧fr=%[.d (.sl 1 (xs.map iD)),.d (.sl 1 (ys.map iD)),.o,.o,.o,dn j|D5 [.o,.o,.o,.o]]) xs.length _ (Wk.mask [0,1,5] ⟨0,by omega,by omega,rfl,rfl,rfl⟩) ?_
  rintro m fr st ⟨j,hj,hm,ht,rfl,rfl⟩
  rcases aC j xs.length with hlt|hge
  ·have hd:decide ((j:Int)<(xs.length:Int))=true:=by simp;omega
   have w2:=bC j (by omega)
   have hlt2:j<ys.length:=by omega
   simp only[go_sem,hd,ac]
   refine bb (.tk 9 0<| .done) (by kernel_rfl) ?_
   simp only[go_sem,bW hlt,bW hlt2,w2,ac,ad]
   refine⟨⟨by omega,by omega⟩,⟨by omega,by omega⟩,λ c=> ?_,λ c=> ?_⟩
   ·have hne:xs.getD j 0≠ys.getD j 0:=by simpa using c
    have e:(xs==ys)=false:=by
     rw[fw];intro e;simp at e;subst e;exact hne rfl
    rw[e]at h
    exact cw h
   ·have he:xs.getD j 0=ys.getD j 0:=by simpa using c
    exact Wk.mask [0,1,5] ⟨xs.length - (j+1),by omega,j+1,by omega,rfl,by rw[bG 0 hlt,bG 0 hlt2,ht,he],rfl,rfl⟩
  ·have hd:decide ((j:Int)<(xs.length:Int))=false:=by simp;omega
   obtain rfl:j=xs.length:=by omega
   have he:xs=ys:=by
    rw[bB,hl,bB]at ht;exact ht
   simp only[go_sem,hd,ac]
   rw[he,beq_self_eq_true]at h
   exact cw h
 ·have e0:((xs.length:Int)!=(ys.length:Int))=true:=by simp;omega
  have he:(xs==ys)=false:=by rw[ck];exactλ e=>hl (by rw[e])
  rw[he]at h
  refine bD [3] a9 Tryz.func21 rfl Tryz.ntmps21 (by simp only[go_sem]) λ hbd=> ?_
  simp only[ae,aj,Nat.reduceAdd,Nat.reduceSub,af,ag,ah,ak]
  simp only[go_sem]
  refine bc (λ _ _=>False) ?_ (λ _ _ h=>h.elim)
  simp only[go_sem,ac,e0]
  exact cw h
theorem dj(n:Nat)(p:List Nat):∀a b:List A,Go.Ab.ix n p (a++b)=Go.Ab.ix n p a++Go.Ab.ix n p b
 |[],b=>rfl
 |x::a,b=>by simp only[ah,go_sem,dj n p a b]
theorem cx(n:Nat)(p:List Nat)(l:List Int):Go.Ab.ix n p (l.map λ x=>A.d (iD x))=l.map λ x=>A.d (iD x):=by
 induction l with
 |nil=>rfl
 |cons x l ih=>simp only[aM,go_sem,ih]
theorem kJ(l:List Int)(hl:l.length≤1000)(Z:St)(G:Glob)(R:A→St→Prop)(h:R (.d (bu l)) Z):AC Tryz.prog G 113 [.d (bu l)] Z R:=by
 unfold bu
 refine bg a9 Tryz.func113 rfl Tryz.ntmps113 (by simp only[go_sem]) λ hbd=> ?_
 simp only[ae,aj,Nat.reduceAdd,Nat.reduceSub,af,ag,ah,ak]
 try simp only[go_sem]
 refine aS (λ m fr st=>∃j:Nat,j≤l.length∧m=l.length - j∧fr=%[.d (.sl 1 (l.map iD)),.o,.o,.rs Z.length 1 0 j (some 3),dn j|D4 [.o,.o,.o,.o,.o,.o]]∧st=Z++[bY (l.take j)]) l.length _ ?_ ?_
 ·exact⟨_,_,(bw.mask [0,3,4]).trans (bw.empty 3 1 (some 3) rfl),0,by omega,by omega,by simp [iX],by simp [bY]⟩
 rintro m fr st ⟨j,hj,hm,rfl,rfl⟩
 rcases aC j l.length with hlt|hge
 ·have hd:decide ((j:Int)<(l.length:Int))=true:=by simp;omega
  have w2:=bC j (by omega)
  simp only[go_sem,bY,hd,w2,bW hlt,ac,ad]
  refine⟨⟨by omega,by omega⟩,⟨by simp;omega,by simp only[maxLen];omega,by omega⟩,Wk.keep [0,3,4] [2] (by decide) (aE _) hbd ⟨l.length - (j+1),by omega,j+1,by omega,rfl,by simp only[go_sem],?_⟩⟩
  rw[bG 0 hlt,aJ]
  simp only[go_sem,cx,aM,bq]
 ·have hd:decide ((j:Int)<(l.length:Int))=false:=by simp;omega
  obtain rfl:j=l.length:=by omega
  simp only[go_sem,hd,ac]
  refine de 0 1 0 (l.map iD) rfl (cJ _) ?_
  simp only[go_sem,ac]
  exact aQ hbd h
theorem sK(s:List UInt8)(hs:s.length≤reachBytes)(hl:jj s=true)(Z:St)(G:Glob)(R:A→St→Prop)(h:R (db true) Z):AC Tryz.prog G 126 [.d (.str s)] Z R:=by
 have hs2:=rS hs
 rw[rj,aB,av,aZ]at hl
 obtain⟨⟨h1,h2⟩,h3⟩:=hl
 have d1:decide ((s.length:Int)<1)=false:=by simp;omega
 have d2:decide ((64:Int)<(s.length:Int))=false:=by simp;omega
 have d3:decide ((s.length:Int) > 64)=false:=by simp;omega
 refine bg a9 Tryz.func126 rfl Tryz.ntmps126 (by simp only[go_sem]) λ hbd=> ?_
 simp only[ae,aj,Nat.reduceAdd,Nat.reduceSub,af,ag,ah,ak]
 simp only[go_sem,d1,d2,d3]
 refine aS (λ m fr st=>∃j:Nat,j≤s.length∧m=s.length - j∧st=Z∧fr=%[.d (.str s)|D4 %[.o,.o,.o,.o,dn s.length,dn j|D4 [.o,.o,.o,.o,.o]]]) s.length _ (Wk.mask [0,13,14] ⟨0,by omega,by omega,rfl,rfl⟩) ?_
 rintro m fr Z ⟨j,hj,hm,rfl,rfl⟩
 rcases aC j s.length with hlt|hge
 ·have hd:decide ((j:Int)<(s.length:Int))=true:=by simp only[av];omega
  have w2:=bC j (by omega)
  have hc:=h3 _ (bT 0 hlt)
  simp only[okC,av]at hc
  simp only[go_sem,hd,w2,ad]
  refine⟨⟨by omega,by omega⟩,λ q=>⟨q,by omega,by omega⟩,λ c=> ?_,λ c=> ?_⟩
  ·exfalso
   simp only[cd,av]at c
   omega
  ·exact Wk.mask [0,13,14] ⟨s.length - (j+1),by omega,j+1,by omega,rfl,rfl,rfl⟩
 ·have hd:decide ((j:Int)<(s.length:Int))=false:=by simp only[ay];omega
  simp only[go_sem,hd]
  exact cw h
theorem kK(i n:Int)(Z:St)(G:Glob)(R:A→St→Prop)(h:R (db (kj i n)) Z):AC Tryz.prog G 127 [di i,di n] Z R:=by
 refine bg a9 Tryz.func127 rfl Tryz.ntmps127 (by simp only[go_sem]) λ hbd=> ?_
 simp only[ae,aj,Nat.reduceAdd,Nat.reduceSub,af,ag,ah,ak]
 have e:kj i n=(decide (0≤i)&&decide (i<n)):=by simp [kj]
 rw[e]at h
 have e2:decide (i≥0)=decide (0≤i):=rfl
 cases d0:decide (0≤i)with
 |true=>
  rw[d0]at h
  simp only[go_sem,e2,d0]
  exact cw h
 |false=>
  rw[d0]at h
  simp only[go_sem,e2,d0]
  exact cw h
theorem absent_p(e:Ex)(hk:e.kids.length≤reachBytes)(Z:St)(G:Glob)(R:A→St→Prop)(h:R (db e.absent) Z):AC Tryz.prog G 129 [.d (eD e)] Z R:=by
 refine bg a9 Tryz.func129 rfl Tryz.ntmps129 (by simp only[go_sem]) λ hbd=> ?_
 simp only[ae,aj,Nat.reduceAdd,Nat.reduceSub,af,ag,ah,ak]
 unfold eD
 simp only[go_sem,ac]
 have e1:((e.kids.length:Int)==0)=e.kids.isEmpty:=by cases e.kids with|nil=>rfl|cons a l=>simp;omega
 rw[e1]
 exact aQ hbd h
theorem one_p(e:Ex)(hk:e.kids.length≤reachBytes)(Z:St)(G:Glob)(R:A→St→Prop)(h:R (db e.one) Z):AC Tryz.prog G 182 [.d (eD e)] Z R:=by
 refine bg a9 Tryz.func182 rfl Tryz.ntmps182 (by simp only[go_sem]) λ hbd=> ?_
 simp only[ae,aj,Nat.reduceAdd,Nat.reduceSub,af,ag,ah,ak]
 unfold eD
 simp only[go_sem,ac]
 have e1:((e.kids.length:Int)==0)=e.kids.isEmpty:=by cases e.kids with|nil=>rfl|cons a l=>simp;omega
 rw[e1]
 exact aQ hbd h
theorem yF(l:List Int)(hl:l.length≤reachBytes)(hr:qE l)(Z:St)(G:Glob)(R:A→St→Prop)(h:R (db true) Z):AC Tryz.prog G 132 [.d (bu l)] Z R:=by
 have hl2:=rS hl
 unfold bu
 refine bM a9 Tryz.func132 rfl Tryz.ntmps132 (by simp only[go_sem]) λ hbd=> ?_
 simp only[ae,aj,Nat.reduceAdd,Nat.reduceSub,af,ag,ah,ak]
 try simp only[go_sem]
 refine aS (λ m fr st=>∃j:Nat,(j=0∨j<l.length)∧m=l.length - j∧st=Z∧fr=%[.d (.sl 1 (l.map iD)),.o,.o,dn (j+1)|D5 []]) l.length _ (Wk.mask [0,3] ⟨0,.inl rfl,by omega,rfl,rfl⟩) ?_
 rintro m fr Z ⟨j,hj,hm,rfl,rfl⟩
 rcases aC (j+1) l.length with hlt|hge
 ·have hd:decide (((j+1:Nat):Int)<(l.length:Int))=true:=by simp only[av];omega
  have w2:=bC (j+1) (by omega)
  have w3:IntKind.i64.wrap (((j+1:Nat):Int) - 1)=(j:Int):=by rw[cq _ (by omega) (by omega)];omega
  have hq:=BX hr hlt
  simp only[go_sem,hd,ac]
  refine bb (.tk 10 0<| .done) (by kernel_rfl) ?_
  simp only[go_sem,hd,w2,w3,ac,bW hlt,bW (show j<l.length by omega),ad]
  refine⟨⟨by omega,by omega⟩,⟨by omega,by omega⟩,λ c=>absurd hq (by simpa using c),λ c=> ?_⟩
  exact Wk.mask [0,3] ⟨l.length - (j+1),by omega,j+1,by omega,rfl,rfl,rfl⟩
 ·have hd:decide (((j+1:Nat):Int)<(l.length:Int))=false:=by simp only[ay];omega
  simp only[go_sem,hd,ac]
  exact cw h
def jW(o:Int)(e:Ex):List Int:=kq (lh o e) 32
theorem nh{o:Int}{e:Ex}(hd:e.deep 40=true)(ho:o=2∨o=3){c:Int}:c∈jW o e↔∃n∈e.lvs,n.op=o∧n.n=c:=by
 unfold jW kq
 simp only[aI,eZ,eT]
 constructor
 ·rintro⟨i,⟨hi,hb⟩,rfl⟩
  rw[BU o e hi,d8]at hb
  obtain⟨n,hn,hb⟩:=hb
  rw[aB,cg,cg]at hb
  refine⟨n,hn,hb.1,?_⟩
  have:=xu (re 40 e hd n hn).2 (by rw[hb.1];exact ho)
  show n.n=(i:Int)
  omega
 ·rintro⟨n,hn,h1,h2⟩
  have:=xu (re 40 e hd n hn).2 (by rw[h1];exact ho)
  refine⟨n.n.toNat,⟨by omega,?_⟩,?_⟩
  ·rw[BU o e (by omega),d8]
   exact⟨n,hn,by simp [h1]⟩
  ·show((n.n.toNat:Nat):Int)=c
   omega
theorem lP(o:Int)(e:Ex):(jW o e).length≤32:=ug _ _
theorem allB_lvs(f:Int→Bool)(l:Nat):∀e:Ex,e.deep l=true→e.allB f=e.lvs.all λ n=> !(n.op==2||n.op==3)||f n.n:=by
 induction l with
 |zero=>intro e hd;simp [Ex.deep]at hd
 |succ l ih=>
  intro e hd
  have hk:∀k∈e.kids,k.deep l=true:=λ k hk=>jc hd hk
  rw[Ex.allB_eq]
  by_cases hn:e.kids=[]
  ·rw[Ex.lvs_leaf hn,hn];simp
  ·have ho:(e.op==2||e.op==3)=false:=by
    have hf:e.fits=true:=by simp only[Ex.deep,aB]at hd;exact hd.1
    simp only[Ex.fits,aB,av]at hf
    have h1:=hf.1.1
    have h2:0<e.kids.length:=List.length_pos_iff.2 hn
    simp only[bA,ck]
    refine⟨λ q=> ?_,λ q=> ?_⟩
    ·rw[q]at h1
     have:Ex.arity 2=0:=rfl
     omega
    ·rw[q]at h1
     have:Ex.arity 3=0:=rfl
     omega
   rw[Ex.lvs_node hn,ho]
   simp only[eC,gQ,ca]
   rw[List.all_flatMap]
   rw[dD,aZ,aZ]
   exact⟨λ q k hk'=>by rw[←ih k (hk k hk')];exact q k hk',λ q k hk'=>by rw[ih k (hk k hk')];exact q k hk'⟩
theorem qD{f:Int→Bool}{e:Ex}(hd:e.deep 40=true):e.allB f=true↔(∀c∈jW 3 e,f c=true)∧∀c∈jW 2 e,f c=true:=by
 rw[allB_lvs f 40 e hd,aZ]
 constructor
 ·intro h
  refine⟨λ c hc=> ?_,λ c hc=> ?_⟩
  ·obtain⟨n,hn,h1,rfl⟩:=(nh hd (.inr rfl)).1 hc
   simpa [h1]using h n hn
  ·obtain⟨n,hn,h1,rfl⟩:=(nh hd (.inl rfl)).1 hc
   simpa [h1]using h n hn
 ·rintro⟨h3,h2⟩ n hn
  rcases(re 40 e hd n hn).1 with o|o|o
  ·simp [o]
  ·have:=h2 _ ((nh hd (.inl rfl)).2 ⟨n,hn,o,rfl⟩)
   simp [this]
  ·have:=h3 _ ((nh hd (.inr rfl)).2 ⟨n,hn,o,rfl⟩)
   simp [this]
theorem sup_lt{cells:List Cel}{pair:Bool}{e:Ex}(hd:e.deep 40=true)(ho:e.over cells pair=true){o:Int}(h:o=2∨o=3):∀c∈jW o e,0≤c∧c<cells.length:=λ c hc=>by
 obtain⟨n,hn,h1,rfl⟩:=(nh hd h).1 hc
 have hl:=xu (re 40 e hd n hn).2 (by rw[h1];exact h)
 rw[za cells pair 40 e hd,aZ]at ho
 have:=(Fs (ho n hn) (by rw[h1];exact h)).1
 omega
theorem fZ(p:Prg){c:Int}(h:0≤c∧c<p.cells.length):List.getD (p.cells.map fb) c.toNat default=fb (p.cell c):=iM (by omega)
theorem own_ac(p:Prg)(c t:Int)(hc:0≤c∧c<p.cells.length)(Z:St)(G:Glob)(R:A→St→Prop)(h:R (db ((p.cell c).thread==t)) Z):AC Tryz.prog G 157 [.d (bK p),di c,di t] Z R:=by
 refine bg a9 Tryz.func157 rfl Tryz.ntmps157 (by simp only[go_sem]) λ hbd=> ?_
 simp only[ae,aj,Nat.reduceAdd,Nat.reduceSub,af,ag,ah,ak]
 simp only[bK,aY,go_sem,ac,fZ p hc,fb]
 exact⟨hc,aQ hbd h⟩
theorem CE(p:Prg)(c:Int)(hc:0≤c∧c<p.cells.length)(Z:St)(G:Glob)(R:A→St→Prop)(h:R (db ((p.cell c).thread== -1)) Z):AC Tryz.prog G 158 [.d (bK p),di c] Z R:=by
 refine bg a9 Tryz.func158 rfl Tryz.ntmps158 (by simp only[go_sem]) λ hbd=> ?_
 simp only[ae,aj,Nat.reduceAdd,Nat.reduceSub,af,ag,ah,ak]
 simp only[bK,aY,go_sem,ac,fZ p hc,fb]
 exact⟨hc,aQ hbd h⟩
theorem one_ac(Z:St)(G:Glob)(R:A→St→Prop)(h:R (.d (eD (.mk 1 1 1 []))) Z):AC Tryz.prog G 59 [] Z R:=by
 refine bg a9 Tryz.func59 rfl Tryz.ntmps59 (by simp only[go_sem]) λ hbd=> ?_
 simp only[ae,aj,Nat.reduceAdd,Nat.reduceSub,af,ag,ah,ak]
 simp only[go_sem,fC]
 refine bH (qw 1 1 _ _ _ ?_)
 rw[ed]
 simp only[eD,go_sem,fC]
 exact aQ hbd h
theorem ints_one{l:List Int}:∀x∈l.map iD,x.cells.length=1:=λ x hx=>by
 obtain⟨y,_,rfl⟩:=aI.1 hx
 rfl
theorem uh(l:List Int):mQ (bU (l.map iD)) 1 0 (l.map iD):=lx λ x hx=>by
 obtain⟨y,_,rfl⟩:=aI.1 hx
 exact⟨rfl,λ z hz=>by simp only[D.cells,cm]at hz;rw[hz];rfl⟩
theorem Wk.via{G:Glob}{n0:Nat}{fr fr':Fr}{Z Z':St}{I:Fr→St→Prop}(hw:bw G n0 fr Z fr' Z')(h:Wk G n0 I fr' Z'):Wk G n0 I fr Z:=by
 obtain⟨a,b,h1,h2⟩:=h
 exact⟨a,b,hw.trans h1,h2⟩
theorem cell_bad(p:Prg)(c t:Int)(sh:Bool)(hsh:sh=false→0≤t)(q:((p.cell c).thread== -1&& !sh||decide (0≤(p.cell c).thread)&&(p.cell c).thread !=t)=true):(if sh then p.viB t else p.owB t) c=false:=by
 simp only[cd,aB,cg,bQ,av,bne_iff_ne]at q
 rw[fw]
 intro h
 cases sh with
 |true=>
  rw[if_pos rfl,jT]at h
  rcases q with q|q
  ·exact Bool.noConfusion q.2
  ·omega
 |false=>
  rw[if_neg cX,gB]at h
  have:=hsh rfl
  omega
theorem A1 (p:Prg) (hcl:p.cells.length≤32) (ht:∀c∈p.cells,-1≤c.thread) (e:Ex) (hok:e.Ok) (pair:Bool) (hv:e.valid p.cells pair=true) (sh:Bool) (t:Int) (hsh:sh=false→0≤t) (Z:St) (G:Glob) (R:A→St→Prop)
  (h:R (db (e.allB (if sh then p.viB t else p.owB t))) Z):AC Tryz.prog G 109 [.d (bK p),.d (eD e),db sh,di t] Z R:=by
 obtain⟨hn,hd,ho⟩:=Ex.valid_iff.1 hv
 refine bD [2,3] a9 Tryz.func109 rfl Tryz.ntmps109 (by simp only[go_sem]) λ hbd=> ?_
 simp only[ae,aj,Nat.reduceAdd,Nat.reduceSub,af,ag,ah,ak]
 unfold eD bK
 try simp only[go_sem]
 refine bc (λ fr st=>fr=%[.o,.o,db sh,di t,.ref Z.length 0,.o,.o,.o,.o,.d (bu (jW 3 e)),.d (bu (jW 2 e))|D6 (D4 [.o,.o,.o])]∧st=Z++[some (.cells [.d (aY p.cells),.d (.sl 11 (p.modules.map iH)),.d (.sl 6 (p.locks.map iZ)),.d (.sl 7 (p.threads.map c8))])]) ?_ ?_
 ·have rs:=yE e hok (by simp only[Ex.formed,aB,av];exact⟨hn,hd⟩)
  rw[ed]at rs
  unfold eD at rs
  try simp only[go_sem]
  refine bH (rs _ _ _ ?_)
  try simp only[go_sem]
  exact Wk.keep [2,3,4,9,10] [0] (by decide) (aE _) hbd ⟨by simp only[go_sem];rfl,by simp only[go_sem]⟩
 rintro fr st ⟨rfl,rfl⟩
 refine bc (λ fr st=>fr=%[.o,.o,db sh,di t,.ref Z.length 0,.o,.o,.o,.o,.o,.o,.d (bu (jW 3 e++jW 2 e))|D6 (D4 [.o,.o])]∧st=Z++[some (.cells [.d (aY p.cells),.d (.sl 11 (p.modules.map iH)),.d (.sl 6 (p.locks.map iZ)),.d (.sl 7 (p.threads.map c8))])]) ?_ ?_
 ·have l3:=lP 3 e
  have l2:=lP 2 e
  simp only[bu,go_sem]
  rw[←cZ,←aJ]
  refine⟨⟨by simp only[maxLen,ac];omega,by simp only[ac];omega⟩,⟨mg ints_one,by simp only[maxLen,ac];omega,by simp only[ac];omega⟩,?_⟩
  refine Wk.via (bw.freeze (G:=G) (n0:=Z.length) (Z.length+3) 1 0 ((jW 3 e++jW 2 e).map iD) (cs:=bU ((jW 3 e++jW 2 e).map iD)) (by simp) (uh _)) ?_
  simp only[go_sem,ac,aF]
  exact Wk.keep [2,3,4,11] [0] (by decide) (aE _) hbd ⟨by simp only[go_sem,bu],by simp only[go_sem]⟩
 rintro fr st ⟨rfl,rfl⟩
 obtain⟨L,hL⟩:∃L,jW 3 e++jW 2 e=L:=⟨_,rfl⟩
 have hLr:∀c∈L,0≤c∧c<p.cells.length:=λ c hc=>by
  rw[←hL]at hc
  rcases aW.1 hc with hc|hc
  ·exact sup_lt hd ho (.inr rfl) c hc
  ·exact sup_lt hd ho (.inl rfl) c hc
 have hLl:L.length≤64:=by have l3:=lP 3 e;have l2:=lP 2 e;rw[←hL,aF];omega
 have hAll:(∀c∈L,(if sh then p.viB t else p.owB t) c=true)→e.allB (if sh then p.viB t else p.owB t)=true:=λ q=>by
  rw[qD hd]
  exact⟨λ c hc=>q c (by rw[←hL];simp [hc]),λ c hc=>q c (by rw[←hL];simp [hc])⟩
 have hNone:∀c∈L,(if sh then p.viB t else p.owB t) c=false→e.allB (if sh then p.viB t else p.owB t)=false:=λ c hc q=>by
  rw[fw]
  intro q2
  rw[qD hd]at q2
  rw[←hL]at hc
  rcases aW.1 hc with hc|hc
  ·rw[q2.1 c hc]at q;exact Bool.noConfusion q
  ·rw[q2.2 c hc]at q;exact Bool.noConfusion q
 rw[hL]
 simp only[bu,go_sem]
 refine aS (λ m fr st=>∃j:Nat,j≤L.length∧m=L.length - j∧(∀c∈L.take j,(if sh then p.viB t else p.owB t) c=true)∧fr=%[.o,.o,db sh,di t,.ref Z.length 0,.o,.o,.o,.o,.o,.o,.d (.sl 1 (L.map iD)),dn j|D6 (D4 [.o])]∧st=Z++[some (.cells [.d (aY p.cells),.d (.sl 11 (p.modules.map iH)),.d (.sl 6 (p.locks.map iZ)),.d (.sl 7 (p.threads.map c8))])]) L.length _ (Wk.mask [2,3,4,11,12] ⟨0,by omega,by omega,by simp,rfl,rfl⟩) ?_
 rintro m fr st ⟨j,hj,hm,hall,rfl,rfl⟩
 rcases aC j L.length with hlt|hge
 ·have hd':decide ((j:Int)<(L.length:Int))=true:=by simp only[av];omega
  have w2:=bC j (by omega)
  obtain⟨c,hc⟩:∃c,L.getD j 0=c:=⟨_,rfl⟩
  have hcr:=hLr c (by rw[←hc];exact bT 0 hlt)
  have g1:List.getD (L.map iD) j default=iD c:=by rw[bW hlt,hc]
  simp only[go_sem,aY,hd',ac]
  refine bb (.tk 10 0<| .done) (by kernel_rfl) ?_
  simp only[go_sem,w2,g1,fZ p hcr,fb,ac,ad]
  refine⟨⟨by omega,by omega⟩,hcr,λ q=>⟨q,λ q2=>by rw[q,q2];rfl⟩,λ q=>aQ hbd ?_,λ q=> ?_⟩
  ·rw[hNone c (by rw[←hc];exact bT 0 hlt) (cell_bad p c t sh hsh q)]at h
   exact h
  refine Wk.mask [2,3,4,11,12] ⟨L.length - (j+1),by omega,j+1,by omega,rfl,?_,rfl,rfl⟩
  rw[bG 0 hlt,hc]
  intro x hx
  rcases aW.1 hx with hx|hx
  ·exact hall x hx
  ·rw[cm]at hx
   rw[hx]
   have h0:=ht (p.cell c) (by unfold Prg.cell;exact bT fU (by omega))
   simp only[bA,dw,ck,cF,ay,bne_eq_false_iff_eq]at q
   cases sh with
   |true=>
    rw[if_pos rfl,jT]
    exact⟨hcr,by omega⟩
   |false=>
    rw[if_neg cX,gB]
    refine⟨hcr,?_⟩
    rcases q.1 with q1|q1
    ·omega
    ·exact absurd q1 cX
 ·have hd':decide ((j:Int)<(L.length:Int))=false:=by simp only[ay];omega
  obtain rfl:j=L.length:=by omega
  simp only[go_sem,hd',ac]
  rw[bB]at hall
  rw[hAll hall]at h
  exact aQ hbd h
abbrev bN(p:Prg):Option Ob:=some (.cells [.d (aY p.cells),.d (.sl 11 (p.modules.map iH)),.d (.sl 6 (p.locks.map iZ)),.d (.sl 7 (p.threads.map c8))])
abbrev exO(e:Ex):Option Ob:=some (.cells [.d (iD e.op),.d (iD e.w),.d (iD e.n),.d (.sl 4 (e.kids.map Ex.d))])
abbrev lckO(l:Lck):Option Ob:=some (.cells [.d (iD l.cell),.d (iD l.inv.op),.d (iD l.inv.w),.d (iD l.inv.n),.d (.sl 4 (l.inv.kids.map Ex.d)),.d (iD l.mod)])
def lL(p:Prg):Prop:=(∀c∈p.cells,CelOk p c)∧(p.cells.map Cel.name).Nodup
theorem sG (p:Prg) (hn:p.cells.length≤32) (hc:lL p) (e:Ex) (hok:e.Ok) (pair:Bool) (t:Int) (Z:St) (G:Glob) (R:A→St→Prop)
  (h:R (db (p.truB e pair (p.viB t))) Z):AC Tryz.prog G 105 [.d (bK p),.d (eD e),db pair,di t] Z R:=by
 have rv:=qS e hok p.cells (by simp [reachBytes];omega) pair
 have ov:=A1 p hn (λ c h=>(hc.1 c h).thread.1) e hok pair
 rw[ed]at rv
 unfold eD bK at*
 refine bg a9 Tryz.func105 rfl Tryz.ntmps105 (by simp only[go_sem]) λ hbd=> ?_
 simp only[ae,aj,Nat.reduceAdd,Nat.reduceSub,af,ag,ah,ak]
 try simp only[go_sem]
 refine bH (rv _ _ _ ?_)
 cases hv:(e.formed&&e.over p.cells pair)with
 |false=>
  have e1:p.truB e pair (p.viB t)=false:=by simp only[Prg.truB,Ex.valid,hv,gL,Ew]
  rw[e1]at h
  try simp only[go_sem]
  refine gO (.bool false) ⟨λ q=>Bool.noConfusion q,?_⟩
  try simp only[go_sem]
  exact aQ hbd h
 |true=>
  cases hw:(e.w==1)with
  |false=>
   have e1:p.truB e pair (p.viB t)=false:=by
    have:decide (e.w=1)=false:=by simpa using hw
    simp only[Prg.truB,this,Ew]
   rw[e1]at h
   simp only[go_sem,hw]
   refine gO (.bool false) ⟨λ q=>Bool.noConfusion q,?_⟩
   simp only[go_sem,hw]
   exact aQ hbd h
  |true=>
   have e1:p.truB e pair (p.viB t)=e.allB (p.viB t):=by
    have:decide (e.w=1)=true:=by simpa using hw
    simp only[Prg.truB,Ex.valid,hv,this,ca]
   rw[e1]at h
   simp only[go_sem,hw]
   refine exs ⟨λ _=> ?_,λ q=>Bool.noConfusion q⟩
   simp only[go_sem,hw]
   refine bH (ov hv true t (λ q=>Bool.noConfusion q) _ _ _ ?_)
   simp only[go_sem,hw,if_true]
   exact aQ hbd h
theorem limits_r(p:Prg)(hs:p.Small)(Z:St)(G:Glob)(R:A→St→Prop)(h:R (.tup [di 0,di (-1)]) Z):AC Tryz.prog G 63 [.d (bK p)] Z R:=by
 have d1:decide ((32:Int)<(p.cells.length:Int))=false:=by have:=hs.ncel;simp only[ay];omega
 have d2:decide ((6:Int)<(p.modules.length:Int))=false:=by have:=hs.nmod;simp only[ay];omega
 have d3:decide ((4:Int)<(p.locks.length:Int))=false:=by have:=hs.nlck;simp only[ay];omega
 have d4:decide ((4:Int)<(p.threads.length:Int))=false:=by have:=hs.nthr;simp only[ay];omega
 have hn:=hs.nthr
 unfold bK
 refine bg a9 Tryz.func63 rfl Tryz.ntmps63 (by simp only[go_sem]) λ hbd=> ?_
 simp only[ae,aj,Nat.reduceAdd,Nat.reduceSub,af,ag,ah,ak]
 simp only[aY,go_sem,ac,d1,d2,d3,d4]
 refine aS (λ m fr st=>∃j:Nat,j≤p.threads.length∧m=p.threads.length - j∧fr=%[.o,.ref Z.length 0,.o,.o,dn j|D6 (D5 [.o,.o,.o])]∧st=Z++[bN p]) p.threads.length _ (Wk.mask [1,4] ⟨0,by omega,by omega,rfl,rfl⟩) ?_
 rintro m fr st ⟨j,hj,hm,rfl,rfl⟩
 rcases aC j p.threads.length with hlt|hge
 ·have hd:decide ((j:Int)<(p.threads.length:Int))=true:=by simp only[av];omega
  have w2:=bC j (by omega)
  have ht:=hs.threads _ (bT fg hlt)
  obtain⟨x,hx⟩:∃x,p.threads.getD j fg=x:=⟨_,rfl⟩
  rw[hx]at ht
  have g1:List.getD (p.threads.map c8) j default=c8 x:=by rw[fe hlt,hx]
  have e1:decide ((48:Int)<x.points)=false:=by have:=ht.points;simp only[ay];omega
  have e2:decide ((64:Int)<(x.steps.length:Int))=false:=by have:=ht.nst;simp only[ay];omega
  have e3:decide ((8:Int)<(x.loops.length:Int))=false:=by have:=ht.nlo;simp only[ay];omega
  simp only[go_sem,hd,w2,g1,c8,e1,e2,e3,ac,ad]
  exact⟨⟨by omega,by omega⟩,Wk.keep [1,4] [0] (by decide) (aE _) hbd ⟨p.threads.length - (j+1),by omega,j+1,by omega,rfl,by simp only[go_sem],by simp only[go_sem]⟩⟩
 ·have hd:decide ((j:Int)<(p.threads.length:Int))=false:=by simp only[ay];omega
  simp only[go_sem,hd,ac]
  exact dq hbd rfl h
def Ans(b:Bool)(G:Glob)(g:FuncId)(first cap:List A)(Dm:Int→Prop)(Pk:St→Prop):Prop:=
 ∀c st (R:A→St→Prop),Dm c→Pk st→R (db b) st→AC Tryz.prog G g (first++di c::cap) st R
theorem Cy{G:Glob}{g:FuncId}{first cap:List A}{Dm:Int→Prop}{Pk:St→Prop}(ha:Ans true G g first cap Dm Pk)(ib:Nat):Ans false G 152 [] [.ref ib 0] Dm λ st=>Pk st∧st[ib]? =some (some (.cells [.fn (.func g) first cap])):=by
 intro c st R hc ⟨hp,hb⟩ h
 show AC Tryz.prog G 152 [di c,.ref ib 0] st R
 refine bg a9 Tryz.func152 rfl Tryz.ntmps152 (by simp only[go_sem]) λ hbd=> ?_
 simp only[ae,aj,Nat.reduceAdd,Nat.reduceSub,af,ag,ah,ak]
 simp only[go_sem,aO hb,aX hb]
 refine bH (ha c _ _ hc hp ?_)
 try simp only[go_sem]
 exact cw h
theorem index_p{G:Glob}{g:FuncId}{first cap:List A}{Dm:Int→Prop}{Pk:St→Prop}(ha:Ans false G g first cap Dm Pk)(l:List Int)(hl:l.length≤1000)(hd:∀c∈l,Dm c)(Z:St)(hp:Pk Z)(R:A→St→Prop)(h:R (di (-1)) Z):
  AC Tryz.prog G 165 [.d (bu l),.fn (.func g) first cap] Z R:=by
 unfold bu
 refine bg a9 Tryz.func165 rfl Tryz.ntmps165 (by simp only[go_sem]) λ hbd=> ?_
 simp only[ae,aj,Nat.reduceAdd,Nat.reduceSub,af,ag,ah,ak]
 simp only[go_sem,ac]
 refine aS (λ m fr st=>∃j:Nat,j≤l.length∧m=l.length - j∧st=Z∧fr=%[.d (.sl 1 (l.map iD)),.fn (.func g) first cap,.o,.o,.o,.o,.o,dn l.length,dn j|D4 [.o,.o]]) l.length _ (Wk.mask [0,1,7,8] ⟨0,by omega,by omega,rfl,rfl⟩) ?_
 rintro m fr Z ⟨j,hj,hm,rfl,rfl⟩
 rcases aC j l.length with hlt|hge
 ·have hd':decide ((j:Int)<(l.length:Int))=true:=by simp only[av];omega
  have w2:=bC j (by omega)
  have hc:=hd _ (bT 0 hlt)
  simp only[go_sem,hd',w2,bW hlt,ac,ad]
  refine⟨⟨by omega,by omega⟩,bH (ha _ _ _ hc hp ?_)⟩
  simp only[go_sem,hd',w2,ac,ad]
  exact Wk.mask [0,1,7,8] ⟨l.length - (j+1),by omega,j+1,by omega,rfl,rfl,rfl⟩
 ·have hd':decide ((j:Int)<(l.length:Int))=false:=by simp only[ay];omega
  simp only[go_sem,hd']
  exact cw h
theorem Bu{G:Glob}{g:FuncId}{first cap:List A}{Dm:Int→Prop}{Pk:St→Prop}(ha:Ans false G g first cap Dm Pk)(l:List Int)(hl:l.length≤1000)(hd:∀c∈l,Dm c)(Z:St)(hp:Pk Z)(R:A→St→Prop)(h:R (db false) Z):
  AC Tryz.prog G 151 [.d (bu l),.fn (.func g) first cap] Z R:=by
 refine bg a9 Tryz.func151 rfl Tryz.ntmps151 (by simp only[go_sem]) λ hbd=> ?_
 simp only[ae,aj,Nat.reduceAdd,Nat.reduceSub,af,ag,ah,ak]
 try simp only[go_sem]
 refine bH (index_p ha l hl hd _ hp _ ?_)
 try simp only[go_sem]
 exact cw h
structure Pred (G:Glob) (g:FuncId) (first cap:List A) (Dm:Int→Prop) (Pk:St→Prop):Prop where
 ans:Ans true G g first cap Dm Pk
 keep:∀st l,Pk st→Pk (st++l)
 bd:∀st,Pk st→(jo st.length first&&jo st.length cap)=true
theorem nc{G:Glob}{g:FuncId}{first cap:List A}{Dm:Int→Prop}{Pk:St→Prop}(ha:Pred G g first cap Dm Pk)(l:List Int)(hl:l.length≤1000)(hd:∀c∈l,Dm c)(Z:St)(hp:Pk Z)(R:A→St→Prop)(h:R (db true) Z):
  AC Tryz.prog G 133 [.d (bu l),.fn (.func g) first cap] Z R:=by
 refine bg a9 Tryz.func133 rfl Tryz.ntmps133 (by simp only[go_sem]) λ hbd=> ?_
 simp only[ae,aj,Nat.reduceAdd,Nat.reduceSub,af,ag,ah,ak]
 try simp only[go_sem]
 refine⟨ha.bd _ hp,bH (Bu (Cy ha.ans Z.length) l hl hd _ ⟨ha.keep _ _ hp,?_⟩ _ ?_)⟩
 ·rw[az (aE _),Et];rfl
 try simp only[go_sem]
 exact aQ hbd h
theorem over_p {G:Glob} (hG:G.g 0=some cB) {g:FuncId} {first cap:List A} {Dm:Int→Prop} {Pk:St→Prop} (ha:Pred G g first cap Dm Pk) (e:Ex) (hok:e.Ok) (hn:e.nodes≤600) (hd:e.deep 40=true)
  (h3:∀c∈jW 3 e,Dm c) (h2:∀c∈jW 2 e,Dm c) (Z:St) (hp:Pk Z) (R:A→St→Prop) (h:R (db true) Z):
  AC Tryz.prog G 138 [.d (eD e),.fn (.func g) first cap] Z R:=by
 have l3:=lP 3 e
 have l2:=lP 2 e
 have hs:=AG e hok hn hd
 rw[ed]at hs
 have hw3:=nc ha (jW 3 e) (by omega) h3
 have hw2:=nc ha (jW 2 e) (by omega) h2
 unfold eD at*
 refine bg a9 Tryz.func138 rfl Tryz.ntmps138 (by simp only[go_sem]) λ hbd=> ?_
 simp only[ae,aj,Nat.reduceAdd,Nat.reduceSub,af,ag,ah,ak]
 try simp only[go_sem]
 refine bH (hs _ _ hG _ ?_)
 try simp only[go_sem]
 refine bH (hw3 _ (ha.keep _ _ hp) _ ?_)
 try simp only[go_sem]
 refine gO (.bool true) ⟨λ _=> ?_,?_⟩
 ·refine⟨rfl,bH (hw2 _ (ha.keep _ _ hp) _ ?_)⟩
  simp only[go_sem]
 try simp only[go_sem]
 exact aQ hbd h
theorem jf{st l:St}{i:Nat}{o:Option Ob}(h:st[i]? =some o):(st++l)[i]? =some o:=by
 rw[aq (aA.1 h).1];exact h
theorem se(p:Prg){c:Int}(hr:0≤c∧c<p.cells.length)(Z:St)(G:Glob)(R:A→St→Prop)(h:R (db true) Z):AC Tryz.prog G 127 [di c,di ((p.cells.map fb).length:Nat)] Z R:=kK _ _ _ _ _ (by
 have hi:kj c p.cells.length=true:=by simp only[kj,av];exact hr
 rw[ac,hi];exact h)
theorem xk(p:Prg)(t:Int)(hn:p.cells.length≤1000)(G:Glob)(i j:Nat):Pred G 166 [] [.ref i 0,.ref j 0] (λ c=>p.owB t c=true) λ st=>st[i]? =some (bN p)∧st[j]? =some (some (.cells [di t])):=by
 refine⟨?_,λ st l h=>⟨jf h.1,jf h.2⟩,λ st h=> ?_⟩
 ·intro c st R hc ⟨h1,h2⟩ h
  rw[gB]at hc
  obtain⟨hr,ht⟩:=hc
  have hb:=se p hr
  have e1:=fZ p hr
  show AC Tryz.prog G 166 [di c,.ref i 0,.ref j 0] st R
  refine bM a9 Tryz.func166 rfl Tryz.ntmps166 (by simp only[go_sem]) λ hbd=> ?_
  simp only[ae,aj,Nat.reduceAdd,Nat.reduceSub,af,ag,ah,ak]
  try simp only[go_sem]
  refine bb (.tk 5 0<| .pure 5<| .tk 12 6<| .done) (by kernel_rfl) ?_
  simp only[aY,go_sem,aO h1,aX h1,aO h2,aX h2,ac]
  refine mN (db true) ⟨λ Z'=>bH (hb Z' G _ (And.intro rfl rfl)),?_⟩
  simp only[aY,go_sem,aO h1,aX h1,aO h2,aX h2,e1,fb,ht,ac]
  exact⟨hr,cw (by simpa using h)⟩
 ·have:=aL h.1
  have:=aL h.2
  simp only[jo,A.bd]
  simp;omega
theorem B7(p:Prg)(t:Int)(Z:St)(G:Glob)(R:A→St→Prop)(h:R (.fn (.func 166) [] [.ref Z.length 0,.ref (Z.length+1) 0]) (Z++[bN p,some (.cells [di t])])):AC Tryz.prog G 153 [.d (bK p),di t] Z R:=by
 unfold bK
 refine bg a9 Tryz.func153 rfl Tryz.ntmps153 (by simp only[go_sem]) λ hbd=> ?_
 simp only[ae,aj,Nat.reduceAdd,Nat.reduceSub,af,ag,ah,ak]
 try simp only[go_sem]
 exact⟨_,_,bw.refl _ _ _ _,h⟩
theorem nj(p:Prg)(hn:p.cells.length≤1000)(c:Int)(hc:0≤c∧c<p.cells.length)(Z:St)(G:Glob)(R:A→St→Prop)(h:R (db (decide ((p.cell c).thread= -1))) Z):AC Tryz.prog G 131 [.d (bK p),di c] Z R:=by
 have hb:=se p hc
 have e1:=fZ p hc
 have e2:((p.cell c).thread== -1)=decide ((p.cell c).thread= -1):=by rw[dD];simp
 unfold bK
 refine bg a9 Tryz.func131 rfl Tryz.ntmps131 (by simp only[go_sem]) λ hbd=> ?_
 simp only[ae,aj,Nat.reduceAdd,Nat.reduceSub,af,ag,ah,ak]
 simp only[aY,go_sem]
 refine bH (hb _ _ _ ?_)
 simp only[aY,go_sem,e1,fb,e2,ac]
 exact⟨hc,aQ hbd h⟩
theorem vA(p:Prg)(hn:p.cells.length≤1000)(G:Glob):Pred G 131 [.d (bK p)] [] (λ c=>p.shB c=true) λ _=>True:=by
 refine⟨λ c st R hc _ h=> ?_,λ _ _ h=>h,λ st h=>rfl⟩
 rw[eJ]at hc
 exact nj p hn c hc.1 _ _ _ (by rw[dU hc.2];exact h)
theorem oY(p:Prg)(t:Int)(hn:p.cells.length≤1000)(G:Glob)(i j a b:Nat):Pred G 154 [] [.ref i 0,.ref j 0] (λ c=>p.viB t c=true) λ st=>(st[i]? =some (bN p)∧st[j]? =some (some (.cells [.fn (.func 166) [] [.ref a 0,.ref b 0]])))∧(st[a]? =some (bN p)∧st[b]? =some (some (.cells [di t]))):=by
 refine⟨?_,λ st l h=>⟨⟨jf h.1.1,jf h.1.2⟩,⟨jf h.2.1,jf h.2.2⟩⟩,λ st h=> ?_⟩
 ·intro c st R hc ⟨⟨h1,h2⟩,h3⟩ h
  rw[jT]at hc
  obtain⟨hr,ht⟩:=hc
  have hs:=nj p hn c hr
  have ho:=(xk p t hn G a b).ans
  have e1:=fZ p hr
  show AC Tryz.prog G 154 [di c,.ref i 0,.ref j 0] st R
  unfold bK at hs
  by_cases hsh:(p.cell c).thread= -1
  ·rw[dU hsh]at hs
   refine bg a9 Tryz.func154 rfl Tryz.ntmps154 (by simp only[go_sem]) λ hbd=> ?_
   simp only[ae,aj,Nat.reduceAdd,Nat.reduceSub,af,ag,ah,ak]
   simp only[go_sem,aO h1,aX h1,aO h2,aX h2]
   refine bH (hs _ _ _ ?_)
   simp only[go_sem,aO h1,aX h1,aO h2,aX h2]
   refine gO (.bool true) ⟨λ q=>Bool.noConfusion q,?_⟩
   try simp only[go_sem]
   exact cw h
  ·rw[decide_eq_false hsh]at hs
   have hoo:p.owB t c=true:=gB.2 ⟨hr,by rcases ht with q|q;exact absurd q hsh;exact q⟩
   refine bg a9 Tryz.func154 rfl Tryz.ntmps154 (by simp only[go_sem]) λ hbd=> ?_
   simp only[ae,aj,Nat.reduceAdd,Nat.reduceSub,af,ag,ah,ak]
   simp only[go_sem,aO h1,aX h1,aO h2,aX h2]
   refine bH (hs _ _ _ ?_)
   simp only[go_sem,aO h1,aX h1,aO h2,aX h2]
   refine gO (.bool true) ⟨λ _=>⟨rfl,bH (ho c _ _ hoo h3 ?_)⟩,?_⟩
   ·simp only[go_sem]
   try simp only[go_sem]
   exact cw h
 ·have:=aL h.1.1
  have:=aL h.1.2
  simp only[jo,A.bd]
  simp;omega
theorem qK(p:Prg)(t:Int)(Z:St)(G:Glob)(R:A→St→Prop)(h:R (.fn (.func 154) [] [.ref Z.length 0,.ref (Z.length+3) 0]) (Z++[bN p,bN p,some (.cells [di t]),some (.cells [.fn (.func 166) [] [.ref (Z.length+1) 0,.ref (Z.length+2) 0]])])):AC Tryz.prog G 135 [.d (bK p),di t] Z R:=by
 have ho:=B7 p t
 unfold bK at*
 refine bg a9 Tryz.func135 rfl Tryz.ntmps135 (by simp only[go_sem]) λ hbd=> ?_
 simp only[ae,aj,Nat.reduceAdd,Nat.reduceSub,af,ag,ah,ak]
 try simp only[go_sem]
 refine bH (ho _ _ _ ?_)
 try simp only[go_sem]
 exact⟨_,_,bw.refl _ _ _ _,h⟩
theorem bit_p {G:Glob} (hG:G.g 0=some cB) {g:FuncId} {first cap:List A} {Dm:Int→Prop} {Pk:St→Prop} (ha:Pred G g first cap Dm Pk) (p:Prg) (e:Ex) (hok:e.Ok) (hn:e.nodes≤600) (pair:Bool) (hw:e.w=1) (hv:e.valid p.cells pair=true)
  (h3:∀c∈jW 3 e,Dm c) (h2:∀c∈jW 2 e,Dm c) (Z:St) (hp:Pk Z) (R:A→St→Prop) (h:R (db true) Z):
  AC Tryz.prog G 130 [.d (bK p),.d (eD e),db pair,.fn (.func g) first cap] Z R:=by
 obtain⟨_,hd,ho⟩:=Ex.valid_iff.1 hv
 have hva:=ng e hok hn p.cells pair
 rw[ed,hd,ho]at hva
 have hov:=over_p hG ha e hok hn hd h3 h2
 have e1:(e.w==1)=true:=by simp [hw]
 unfold eD bK at*
 refine bg a9 Tryz.func130 rfl Tryz.ntmps130 (by simp only[go_sem]) λ hbd=> ?_
 simp only[ae,aj,Nat.reduceAdd,Nat.reduceSub,af,ag,ah,ak]
 simp only[go_sem,e1]
 refine gO (.bool true) ⟨λ _=>⟨rfl,bH (hva _ _ hG _ ?_)⟩,?_⟩
 ·simp only[go_sem]
 simp only[go_sem,e1]
 refine gO (.bool true) ⟨λ _=>⟨rfl,bH (hov _ (ha.keep _ _ hp) _ ?_)⟩,?_⟩
 ·simp only[go_sem]
 simp only[go_sem,e1]
 exact aQ hbd h
abbrev celO(c:Cel):Option Ob:=some (.cells [.d (.str c.name),.d (iD c.w),.d (iD c.init),.d (iD c.thread),.d (.bool c.ghost),.d (iD c.mod)])
theorem kX{α β:Type}{f:α→β}{l:List α}{j:Nat}(d:α)(hlt:j<l.length)(h:((l.take j).map f).Nodup)(hk:∀k,k<j→f (l.getD k d)≠f (l.getD j d)):((l.take (j+1)).map f).Nodup:=by
 rw[bG d hlt,aJ,cW]
 refine⟨h,by simp,λ a ha b hb e=> ?_⟩
 simp only[aM,bq,cm]at hb
 obtain⟨x,hx,rfl⟩:=aI.1 ha
 obtain⟨k,hk2,rfl⟩:=bF hx
 have hkj:k<j:=by rw[aP]at hk2;omega
 refine hk k hkj ?_
 rw[List.getElem_take]at e
 rw[au,ap (by omega)]
 exact e.trans hb
theorem fm{α:Type}{P:α→Prop}{l:List α}{j:Nat}(d:α)(hlt:j<l.length)(h:∀x∈l.take j,P x)(hj:P (l.getD j d)):∀x∈l.take (j+1),P x:=by
 rw[bG d hlt]
 intro x hx
 rcases aW.1 hx with hx|hx
 ·exact h x hx
 ·rw[cm]at hx
  rw[hx];exact hj
theorem eN{c:Int}{Φ:Prop}(hc:c≠0)(h:¬Φ):c=0↔Φ:=⟨λ q=>absurd q hc,λ q=>absurd q h⟩
theorem ou{α β:Type}{f:α→β}{l:List α}{k j:Nat}(d:α)(hk:k<j)(hj:j<l.length)(e:f (l.getD k d)=f (l.getD j d)):¬(l.map f).Nodup:=λ h=>by
 rw[Da]at h
 have:=h k j (f (l.getD j d)) (by rw[aN,pk d (by omega),bJ,e]) (by rw[aN,pk d hj];rfl)
 omega
theorem Ad(p:Prg)(c:Cel):(!jj c.name||decide (c.w<1)||decide (8<c.w)||decide (c.init<0)||decide (((2^c.w.toNat:Nat):Int)≤c.init)||decide (c.thread< -1)||decide ((p.threads.length:Int)≤c.thread)|| !kj c.mod p.modules.length)=false↔CelOk p c:=by
 simp only[bA,cF,ay]
 have e2:((2:Int)^c.w.toNat)=((2^c.w.toNat:Nat):Int):=by simp
 constructor
 ·rintro⟨⟨⟨⟨⟨⟨⟨q1,q2⟩,q3⟩,q4⟩,q5⟩,q6⟩,q7⟩,q8⟩
  exact⟨q1,by omega,by omega,by omega,cS.1 q8⟩
 ·rintro⟨q1,q2,q3,q4,q5⟩
  exact⟨⟨⟨⟨⟨⟨⟨q1,by omega⟩,by omega⟩,by omega⟩,by omega⟩,by omega⟩,by omega⟩,cS.2 q5⟩
theorem yX(w:Int)(hw:0≤w∧w≤60)(Z:St)(G:Glob)(R:A→St→Prop)(h:R (di ((2^w.toNat:Nat):Int)) Z):AC Tryz.prog G 102 [di w] Z R:=by
 have hq:=pow_ac w.toNat (by omega) Z G R h
 have e:((w.toNat:Nat):Int)=w:=by omega
 unfold dn at hq
 rw[e]at hq
 exact hq
theorem cells_r(p:Prg)(hs:p.Small)(hnm:∀c∈p.cells,c.name.length≤reachBytes)(Z:St)(G:Glob)(R:A→St→Prop)(h:∀c:Int,(c=0↔lL p)→R (di c) Z):AC Tryz.prog G 64 [.d (bK p)] Z R:=by
 have hn:=hs.ncel
 unfold bK
 refine bD [5,7] a9 Tryz.func64 rfl Tryz.ntmps64 (by simp only[go_sem]) λ hbd=> ?_
 simp only[ae,aj,Nat.reduceAdd,Nat.reduceSub,af,ag,ah,ak]
 simp only[aY,go_sem,ac]
 refine aS (λ m fr st=>∃j:Nat,j≤p.cells.length∧m=p.cells.length - j∧(∀c∈p.cells.take j,CelOk p c)∧((p.cells.take j).map Cel.name).Nodup∧fr=%[.o,.ref Z.length 0,.o,dn j|D7 (D4 [.o,.o,.o,.o,.o])]∧st=Z++[bN p]) p.cells.length _ (Wk.mask [1,3] ⟨0,by omega,by omega,by simp,by simp,rfl,rfl⟩) ?_
 rintro m fr st ⟨j,hj,hm,hall,hnd,rfl,rfl⟩
 rcases aC j p.cells.length with hlt|hge
 ·have hd:decide ((j:Int)<(p.cells.length:Int))=true:=by simp only[av];omega
  have w2:=bC j (by omega)
  obtain⟨c,hc⟩:∃c,p.cells.getD j fU=c:=⟨_,rfl⟩
  have hcm:c∈p.cells:=by rw[←hc];exact bT fU hlt
  have g1:List.getD (p.cells.map fb) j default=fb c:=by rw[iM hlt,hc]
  simp only[aY,go_sem,hd,ac]
  refine bc (λ fr st=>fr=%[.o,.ref Z.length 0,.o,dn j,.ref (Z.length+1) 0|D7 (D4 [.o,.o,.o,.o])]∧st=Z++[bN p,celO c]) ?_ ?_
  ·simp only[aY,go_sem,hd,g1,fb,ac,ad]
   exact⟨⟨by omega,by omega⟩,Wk.mask [1,3,4] ⟨rfl,rfl⟩⟩
  rintro fr st ⟨rfl,rfl⟩
  refine bc (λ fr st=>CelOk p c∧fr=%[.o,.ref Z.length 0,.o,dn j,.ref (Z.length+1) 0|D7 (D4 [.o,.o,.o,.o])]∧st=Z++[bN p,celO c]) ?_ ?_
  ·simp only[aY,go_sem,ac,ad]
   refine bb (.tk 2 0<| .pure 2<| .tk 17 3<| .tk 2 22<| .pure 24<| .tk 2 20<| .tk 21 25<| .pure 46<| .tk 2 47<| .done) (by kernel_rfl) ?_
   simp only[aY,go_sem,ac,ad]
   refine Go.Ab.mN (db (jj c.name)) ⟨λ Z'=>bH (qg c.name (hnm c hcm) _ _ _ ⟨rfl,rfl⟩),?_⟩
   simp only[aY,go_sem,ac,ad]
   refine⟨λ q=>by simpa using q,Go.Ab.exQ (iD ((2^c.w.toNat:Nat):Int)) ⟨λ hg=> ?_,?_⟩⟩
   ·simp only[go_sem]
    refine⟨hg,λ Z'=> ?_⟩
    simp only[bQ,bA,ay]at hg
    exact bH (yX c.w (by omega) _ _ _ ⟨rfl,rfl⟩)
   simp only[aY,go_sem,ac,ad]
   refine Go.Ab.exQ (.bool (kj c.mod p.modules.length)) ⟨λ hg=> ?_,?_⟩
   ·simp only[go_sem]
    exact⟨hg,λ Z'=>bH (k8 _ _ _ _ _ ⟨by rw[ac],rfl⟩)⟩
   simp only[aY,go_sem,ac,ad]
   refine⟨λ q=>aQ hbd (h 1 (eN (by decide) λ k=> ?_)),λ q=>Wk.mask [1,3,4] ⟨(Ad p c).1 q,rfl,rfl⟩⟩
   rw[(Ad p c).2 (k.1 c hcm)]at q
   exact Bool.noConfusion q
  rintro fr st ⟨hco,rfl,rfl⟩
  simp only[aY,go_sem,ac,ad]
  refine aS (λ m fr st=>∃k:Nat,k≤j∧m=j - k∧(∀i,i<k→(p.cells.getD i fU).name≠c.name)∧fr=%[.o,.ref Z.length 0,.o,dn j,.ref (Z.length+1) 0,dn k|D7 (D4 [.o,.o,.o])]∧st=Z++[bN p,celO c]) j _ (Wk.mask [1,3,4,5] ⟨0,by omega,by omega,λ i hi=>absurd hi (by omega),rfl,rfl⟩) ?_
  rintro m2 fr st ⟨k,hk,hm2,hne,rfl,rfl⟩
  rcases aC k j with hkl|hkg
  ·have hd2:decide ((k:Int)<(j:Int))=true:=by simp only[av];omega
   have w3:=bC k (by omega)
   have g2:List.getD (p.cells.map fb) k default=fb (p.cells.getD k fU):=iM (by omega)
   simp only[aY,go_sem,hd2,ac]
   refine bb (.tk 9 0<| .done) (by kernel_rfl) ?_
   simp only[aY,go_sem,w3,g2,fb,ac,ad]
   refine⟨⟨by omega,by omega⟩,λ q=>aQ hbd (h 41 (eN (by decide) λ hh=>ou (f:=Cel.name) fU hkl hlt (by rw[hc];simpa using q) hh.2)),λ q=>Wk.mask [1,3,4,5] ⟨j - (k+1),by omega,k+1,by omega,rfl,λ i hi=> ?_,rfl,rfl⟩⟩
   rcases aC i k with h1|h1
   ·exact hne i h1
   ·obtain rfl:i=k:=by omega
    simpa using q
  ·have hd2:decide ((k:Int)<(j:Int))=false:=by simp only[ay];omega
   simp only[aY,go_sem,hd2,w2,ac,ad]
   obtain rfl:k=j:=by omega
   exact Wk.keep [1,3] [0] (by decide) (aE _) hbd ⟨p.cells.length - (k+1),by omega,k+1,by omega,rfl,fm fU hlt hall (by rw[hc];exact hco),kX fU hlt hnd (by rw[hc];exact hne),by simp only[go_sem],by simp only[go_sem]⟩
 ·have hd:decide ((j:Int)<(p.cells.length:Int))=false:=by simp only[ay];omega
  obtain rfl:j=p.cells.length:=by omega
  simp only[aY,go_sem,hd,ac]
  rw[bB]at hall hnd
  exact aQ hbd (h 0 ⟨λ _=>⟨hall,hnd⟩,λ _=>rfl⟩)
end
end Go.Proofs.YtdpdbokicanpoaaGreatDoor
