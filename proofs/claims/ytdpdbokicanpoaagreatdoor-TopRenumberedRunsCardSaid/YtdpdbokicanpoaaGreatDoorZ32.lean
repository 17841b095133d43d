import Derived.Test.YtdpdbokicanpoaaGreatDoorZ31
set_option linter.unusedSimpArgs false
set_option linter.unusedVariables false
set_option maxHeartbeats 64000000
set_option maxRecDepth 100000
namespace Go.Proofs.YtdpdbokicanpoaaGreatDoor
section
open Go Go.Ab
theorem pow_ac(n:Nat)(hn:n≤60)(Z:St)(G:Glob)(R:A→St→Prop)(h:R (di (2^n:Nat)) Z):AC Tryz.prog G 102 [dn n] Z R:=by
 refine bg a9 Tryz.func102 rfl Tryz.ntmps102 (by simp only[go_sem]) λ hbd=> ?_
 simp only[ae,aj,Nat.reduceAdd,Nat.reduceSub,af,ag,ah,ak]
 simp only[go_sem]
 refine aS (λ m fr st=>∃j:Nat,j≤n∧m=n - j∧fr=%[dn n,.o,.o,di (2^j:Nat),dn j|D4 []]∧st=Z) n _
  (Wk.mask [0,3,4] ⟨0,by omega,rfl,rfl,rfl⟩) ?_
 rintro m fr Z ⟨j,hj,hm,rfl,rfl⟩
 rcases aC j n with hlt|hge
 ·have hd:decide ((j:Int)<(n:Int))=true:=by simp;omega
  have w2:=bC j (by omega)
  have hp:(2^j:Nat)≤2^60:=gn (by omega) (by omega)
  have w1:IntKind.i64.wrap (((2^j:Nat):Int)*2)=((2^(j+1):Nat):Int):=by
   rw[Nat.pow_succ]
   generalize 2^j=q at hp
   rw[cq _ (by omega) (by omega)];omega
  simp only[go_sem,hd,w1,w2]
  exact Wk.mask [0,3,4] ⟨n - (j+1),by omega,j+1,hlt,rfl,rfl,rfl⟩
 ·have hd:decide ((j:Int)<(n:Int))=false:=by simp;omega
  obtain rfl:j=n:=by omega
  simp only[go_sem,hd]
  exact cw h
theorem arity_ac(o:Int)(Z:St)(G:Glob)(R:A→St→Prop)(h:R (di (Ex.arity o)) Z):AC Tryz.prog G 176 [di o] Z R:=by
 refine bg a9 Tryz.func176 rfl Tryz.ntmps176 (by simp only[go_sem]) λ hbd=> ?_
 simp only[ae,aj,Nat.reduceAdd,Nat.reduceSub,af,ag,ah,ak]
 simp only[go_sem]
 simp only[Ex.arity]at h
 refine⟨λ c1=>cw ?_,λ c1=>⟨λ c2=>cw ?_,λ c2=>⟨λ c3=>cw ?_,λ c3=>⟨λ c4=>cw ?_,λ c4=>cw ?_⟩⟩⟩⟩<;> simp at c1<;> (try simp at c2)<;> (try simp at c3)<;> (try simp at c4)
 ·rwa [if_pos (by omega)]at h
 ·rwa [if_neg (by omega),if_pos (by omega)]at h
 ·rwa [if_neg (by omega),if_neg (by omega),if_pos (by omega)]at h
 ·rwa [if_neg (by omega),if_neg (by omega),if_neg (by omega),if_pos (by omega)]at h
 ·rwa [if_neg (by omega),if_neg (by omega),if_neg (by omega),if_neg (by omega)]at h
theorem node_ac(e:Ex)(hk:e.kids.length≤reachBytes)(Z:St)(G:Glob)(R:A→St→Prop)(h:R (db e.fits) Z):AC Tryz.prog G 162 [.d e.d] Z R:=by
 rw[Ex.d_eq]
 refine bD [3] a9 Tryz.func162 rfl Tryz.ntmps162 (by simp only[go_sem]) λ hbd=> ?_
 simp only[ae,aj,Nat.reduceAdd,Nat.reduceSub,af,ag,ah,ak]
 simp only[go_sem]
 refine bc (λ fr st=>(Ex.arity e.op=e.kids.length∧1≤e.w∧e.w≤8)∧fr=%[.o,.ref Z.length 0|D7 (D7 (D4 [.o,.o,.o,.o]))]∧st=Z++[some (.cells [.d (iD e.op),.d (iD e.w),.d (iD e.n),.d (.sl 4 (e.kids.map Ex.d))])]) ?_ ?_
 ·simp only[go_sem]
  refine bb (.tk 2 0<| .pure 2<| .tk 14 3<| .done) (by kernel_rfl) ?_
  simp only[go_sem]
  refine mN (di (Ex.arity e.op)) ⟨λ Z'=>bH (arity_ac _ _ _ _ ⟨rfl,rfl⟩),?_⟩
  simp only[go_sem,ac]
  refine⟨λ c=>aQ hbd ?_,λ c=>Wk.mask [1] ⟨?_,rfl,rfl⟩⟩
  ·have:e.fits=false:=by
    simp only[Ex.fits,dw,ay]
    left
    rintro⟨h1,h2,h3⟩
    simp [h1]at c
    omega
   rwa [this]at h
  ·simp at c;omega
 ·rintro fr st ⟨⟨ha,h1,h2⟩,rfl,rfl⟩
  have hop:1≤e.op∧e.op≤14:=by
   unfold Ex.arity at ha
   split at ha
   ·omega
   ·split at ha
    ·omega
    ·split at ha
     ·omega
     ·split at ha<;> omega
  have hL:e.kids.length=(Ex.arity e.op).toNat:=by omega
  by_cases o1:e.op=1
  ·have b1:(e.op==1)=true:=by simp [o1]
   obtain⟨W,hW⟩:∃W:Nat,e.w=W:=⟨e.w.toNat,by omega⟩
   simp only[go_sem,b1]
   refine bb (.tk 4 0<| .tk 2 6<| .pure 8<| .tk 2 4<| .tk 3 9<| .done) (by kernel_rfl) ?_
   simp only[go_sem,hW]
   refine exQ (iD (2^W:Nat)) ⟨λ _=> ?_,?_⟩
   ·simp only[go_sem]
    refine⟨by assumption,λ Z'=>bH (pow_ac W (by omega) _ _ _ ⟨rfl,rfl⟩)⟩
   simp only[go_sem]
   refine aQ hbd ?_
   have:e.fits=(decide (0≤e.n)&&decide (e.n<((2^W:Nat):Int))):=by
    have hd:decide (Ex.arity e.op=e.kids.length∧1≤e.w∧e.w≤8)=true:=by simp;omega
    rw[hW]at hd
    simp only[Ex.fits,hW,hd,ca,if_pos o1,ad,gZ]
    simp
   rw[this]at h
   exact h
  have b1:(e.op==1)=false:=by simp [o1]
  have hd:decide (Ex.arity e.op=e.kids.length∧1≤e.w∧e.w≤8)=true:=by simp;omega
  by_cases o2:e.op=2∨e.op=3
  ·have hf:e.fits=(decide (0≤e.n)&&decide (e.n<32)):=by
    simp only[Ex.fits,hd,ca,if_neg o1,if_pos o2,gZ]
   rw[hf]at h
   rcases o2 with o2|o2
   ·have b2:(e.op==2)=true:=by simp [o2]
    simp only[go_sem,b1,b2]
    exact aQ hbd h
   ·have b2:(e.op==2)=false:=by simp [o2]
    have b3:(e.op==3)=true:=by simp [o2]
    simp only[go_sem,b1,b2,b3]
    exact aQ hbd h
  have b2:(e.op==2)=false:=by simp;omega
  have b3:(e.op==3)=false:=by simp;omega
  by_cases o4:e.op=4
  ·have b4:(e.op==4)=true:=by simp [o4]
   have hl:e.kids.length=1:=by rw[hL,o4];rfl
   have k0:=mY (e:=e) (i:=0) (by omega)
   have hf:e.fits=(e.n==0&&e.kw 0==e.w):=by
    simp only[Ex.fits,hd,ca,if_neg o1,if_neg o2,if_pos o4,gZ];rfl
   rw[hf]at h
   simp only[go_sem,b1,b2,b3,b4]
   refine bb (.tk 14 0<| .done) (by kernel_rfl) ?_
   simp only[go_sem,ac,hl,k0,bZ]
   exact⟨λ q=>⟨q,by omega,by omega⟩,aQ hbd h⟩
  have b4:(e.op==4)=false:=by simp [o4]
  by_cases o11:e.op=11∨e.op=12∨e.op=13
  ·have hl:e.kids.length=2:=by rw[hL];rcases o11 with o|o|o<;> rw[o]<;> rfl
   have k0:=mY (e:=e) (i:=0) (by omega)
   have k1:=mY (e:=e) (i:=1) (by omega)
   have hf:e.fits=(e.n==0&&(e.w==1&&e.kw 0==e.kw 1)):=by
    simp only[Ex.fits,hd,ca,if_neg o1,if_neg o2,if_neg o4,if_pos o11,gZ];rfl
   rw[hf,←Bool.and_assoc]at h
   rcases o11 with o|o|o<;>
   ·simp only[go_sem,o,Int.reduceBEq]
    refine bb (.tk 22 0<| .done) (by kernel_rfl) ?_
    simp only[go_sem,ac,hl,k0,k1,bZ,dI]
    exact⟨λ q=>⟨q,by omega,by omega⟩,λ q=>⟨q,by omega,by omega⟩,aQ hbd h⟩
  have b11:(e.op==11)=false:=by simp;omega
  have b12:(e.op==12)=false:=by simp;omega
  have b13:(e.op==13)=false:=by simp;omega
  by_cases o14:e.op=14
  ·have hl:e.kids.length=3:=by rw[hL,o14];rfl
   have k0:=mY (e:=e) (i:=0) (by omega)
   have k1:=mY (e:=e) (i:=1) (by omega)
   have k2:=mY (e:=e) (i:=2) (by omega)
   have b14:(e.op==14)=true:=by simp [o14]
   have hf:e.fits=(e.n==0&&(e.kw 0==1&&(e.kw 1==e.w&&e.kw 2==e.w))):=by
    simp only[Ex.fits,hd,ca,if_neg o1,if_neg o2,if_neg o4,if_neg o11,if_pos o14,gZ];rfl
   rw[hf,←Bool.and_assoc,←Bool.and_assoc]at h
   simp only[go_sem,b1,b2,b3,b4,b11,b12,b13,b14]
   refine bb (.tk 32 0<| .done) (by kernel_rfl) ?_
   simp only[go_sem,ac,hl,k0,k1,k2,bZ,dI,show Int.toNat 2=2 from rfl]
   exact⟨λ q=>⟨q,by omega,by omega⟩,λ q=>⟨q,by omega,by omega⟩,λ q=>⟨q,by omega,by omega⟩,aQ hbd h⟩
  ·have b14:(e.op==14)=false:=by simp [o14]
   have hl:e.kids.length=2:=by
    rw[hL]
    have:Ex.arity e.op=2:=by simp only[Ex.arity];rw[if_neg (by omega),if_neg (by omega),if_pos (by omega)]
    rw[this];rfl
   have k0:=mY (e:=e) (i:=0) (by omega)
   have k1:=mY (e:=e) (i:=1) (by omega)
   have hf:e.fits=(e.n==0&&(e.kw 0==e.w&&e.kw 1==e.w)):=by
    simp only[Ex.fits,hd,ca,if_neg o1,if_neg o2,if_neg o4,if_neg o11,if_neg o14,gZ];rfl
   rw[hf,←Bool.and_assoc]at h
   simp only[go_sem,b1,b2,b3,b4,b11,b12,b13,b14]
   refine bb (.tk 24 0<| .done) (by kernel_rfl) ?_
   simp only[go_sem,ac,hl,k0,k1,bZ,dI]
   exact⟨λ q=>⟨q,by omega,by omega⟩,λ q=>⟨q,by omega,by omega⟩,aQ hbd h⟩
theorem deep_ac(l:Nat):∀(e:Ex) (hok:e.Ok) (hl:l≤1000) (Z:St) (G:Glob) (R:A→St→Prop) (h:R (db (e.deep l)) Z),AC Tryz.prog G 142 [.d e.d,dn l] Z R:=by
 induction l with
 |zero=>
  intro e hok hl Z G R h
  rw[Ex.d_eq]
  refine bg a9 Tryz.func142 rfl Tryz.ntmps142 (by simp only[go_sem]) λ hbd=> ?_
  simp only[ae,aj,Nat.reduceAdd,Nat.reduceSub,af,ag,ah,ak]
  have d1:decide (((0:Nat):Int)<1)=true:=by decide
  simp only[go_sem,d1]
  refine gO (.bool true) ⟨λ hc=>Bool.noConfusion hc,?_⟩
  simp only[go_sem]
  exact aQ hbd h
 |succ l ih=>
  intro e hok hl Z G R h
  obtain⟨hk,hks⟩:=hok
  rw[Ex.d_eq]
  refine iN [3] a9 Tryz.func142 rfl Tryz.ntmps142 (by simp only[go_sem]) λ hbd=> ?_
  simp only[ae,aj,Nat.reduceAdd,Nat.reduceSub,af,ag,ah,ak]
  have d1:decide (((l+1:Nat):Int)<1)=false:=by simp;omega
  simp only[go_sem]
  refine bc (λ fr st=>e.fits=true∧fr=%[.o,dn (l+1),.ref Z.length 0|D5 (D4 [.o,.o])]∧st=Z++[some (.cells [.d (iD e.op),.d (iD e.w),.d (iD e.n),.d (.sl 4 (e.kids.map Ex.d))])]) ?_ ?_
  ·simp only[go_sem,d1]
   refine gO (.bool e.fits) ⟨λ hc=> ?_,?_⟩
   ·simp only[go_sem]
    rw[←Ex.d_eq e]
    exact bH (node_ac e hk _ _ _ ⟨rfl,rfl⟩)
   simp only[go_sem]
   refine⟨λ c=>aQ hbd ?_,λ c=>Wk.mask [1,2] ⟨by simpa using c,rfl,rfl⟩⟩
   simp only[Ex.deep]at h
   rw[show e.fits=false by simpa using c]at h
   exact h
  ·rintro fr st ⟨hf,rfl,rfl⟩
   simp only[Ex.deep,hf,ca]at h
   simp only[go_sem]
   refine aS (λ m fr st=>∃j:Nat,j≤e.kids.length∧m=e.kids.length - j∧R (db ((e.kids.drop j).all λ k=>k.deep l)) Z∧
    fr=%[.o,dn (l+1),.ref Z.length 0,.o,.o,dn j|D5 [.o,.o,.o,.o,.o,.o,.o]]∧st=Z++[some (.cells [.d (iD e.op),.d (iD e.w),.d (iD e.n),.d (.sl 4 (e.kids.map Ex.d))])]) e.kids.length _
    (Wk.mask [1,2,5] ⟨0,by omega,rfl,h,rfl,rfl⟩) ?_
   rintro m fr st ⟨j,hj,hm,hR,rfl,rfl⟩
   rcases aC j e.kids.length with hlt|hge
   ·have hd:decide ((j:Int)<(e.kids.length:Int))=true:=by simp;omega
    obtain⟨k,hkk⟩:∃k,e.kids.getD j (.mk 0 0 0 [])=k:=⟨_,rfl⟩
    have hmem:k∈e.kids:=hkk▸mK hlt
    have e1:=pu hlt hkk
    have w1:IntKind.i64.wrap (((l+1:Nat):Int) - 1)=(l:Int):=by rw[cq _ (by omega) (by omega)];omega
    have w2:=bC j (by simp only[reachBytes]at hk;omega)
    rw[ry (.mk 0 0 0 []) hlt,hkk,dH]at hR
    simp only[go_sem,ac,hd,e1,w1]
    rw[←Ex.d_eq k]
    refine⟨⟨by omega,by omega⟩,bH (ih k (hks k hmem) (by omega) _ _ _ ?_)⟩
    simp only[go_sem,w2]
    refine⟨λ c=>aQ hbd ?_,λ c=>Wk.mask [1,2,5] ⟨e.kids.length - (j+1),by omega,j+1,hlt,rfl,?_,rfl,rfl⟩⟩
    ·rw[show k.deep l=false by simpa using c]at hR;exact hR
    ·rw[show k.deep l=true by simpa using c]at hR;exact hR
   ·have hd:decide ((j:Int)<(e.kids.length:Int))=false:=by simp;omega
    simp only[go_sem,ac,hd]
    rw[d7 hge]at hR
    exact aQ hbd hR
theorem kO(e:Ex)(hok:e.Ok)(Z:St)(G:Glob)(R:A→St→Prop)(h:R (db e.formed) Z):AC Tryz.prog G 114 [.d e.d] Z R:=by
 rw[Ex.d_eq]
 refine bg a9 Tryz.func114 rfl Tryz.ntmps114 (by simp only[go_sem]) λ hbd=> ?_
 simp only[ae,aj,Nat.reduceAdd,Nat.reduceSub,af,ag,ah,ak]
 simp only[go_sem]
 rw[←Ex.d_eq e]
 refine bH (w9 e hok 601 (by omega) _ _ _ ?_)
 have:decide (((min e.nodes 601:Nat):Int)≤600)=decide (e.nodes≤600):=by
  apply decide_eq_decide.2;omega
 simp only[go_sem,this]
 refine gO (.bool (e.deep 40)) ⟨λ hc=> ?_,?_⟩
 ·simp only[go_sem]
  rw[←Ex.d_eq e]
  refine⟨by assumption,bH (deep_ac 40 e hok (by omega) _ _ _ ?_)⟩
  exact⟨rfl,rfl⟩
 simp only[go_sem]
 exact aQ hbd h
theorem over_ac(cells:List Cel)(hc:cells.length≤reachBytes)(pair:Bool)(l:Nat):∀(e:Ex) (hok:e.Ok) (hd:e.deep l=true) (Z:St) (G:Glob) (R:A→St→Prop) (h:R (db (e.over cells pair)) Z),AC Tryz.prog G 140 [.d e.d,.d (aY cells),db pair] Z R:=by
 induction l with
 |zero=>intro e hok hd;simp [Ex.deep]at hd
 |succ l ih=>
  intro e hok hdp Z G R h
  obtain⟨hk,hks⟩:=hok
  have hkd:∀k∈e.kids,k.deep l=true:=λ k hk=>jc hdp hk
  have hn:0≤e.n:=by
   simp only[Ex.deep,aB]at hdp
   exact uj hdp.1
  rw[Ex.d_eq]
  refine bD [5] a9 Tryz.func140 rfl Tryz.ntmps140 (by simp only[go_sem]) λ hbd=> ?_
  simp only[ae,aj,Nat.reduceAdd,Nat.reduceSub,af,ag,ah,ak]
  simp only[aY,go_sem]
  refine⟨λ c=>aQ hbd ?_,λ c=> ?_⟩
  ·rw[Ex.over_eq,Ex.overN,c]at h;exact h
  refine bc (λ fr st=>e.overN cells pair=true∧fr=%[.o,.d (.sl 6 (cells.map fb)),db pair,.ref Z.length 0|D6 (D5 [.o,.o,.o,.o,.o])]∧st=Z++[some (.cells [.d (iD e.op),.d (iD e.w),.d (iD e.n),.d (.sl 4 (e.kids.map Ex.d))])]) ?_ ?_
  ·simp only[go_sem]
   refine bb (.tk 26 0<| .done) (by kernel_rfl) ?_
   rcases Int.lt_or_le e.n cells.length with hlt|hge
   ·have d1:decide ((cells.length:Int)≤e.n)=false:=by simp;omega
    have e1:=iM (l:=cells) (j:=e.n.toNat) (by omega)
    simp only[fb]at e1
    simp only[go_sem,ac,d1,e1]
    have ho:e.overN cells pair= !((e.op==3||e.op==2)&&(cells.getD e.n.toNat fU).w !=e.w):=by simp only[Ex.overN,c,d1,fj,eC,ca]
    refine⟨λ q=>⟨q,by omega,by omega⟩,λ c2=>aQ hbd ?_,λ c2=>Wk.mask [1,2,3] ⟨by rw[ho,c2];rfl,rfl,rfl⟩⟩
    rw[Ex.over_eq,ho,c2]at h;exact h
   ·have d1:decide ((cells.length:Int)≤e.n)=true:=by simp;omega
    simp only[go_sem,ac,d1]
    have ho:e.overN cells pair= !(e.op==3||e.op==2):=by simp only[Ex.overN,c,d1,gQ,eC,ca,dJ]
    refine⟨λ c2=>aQ hbd ?_,λ c2=>Wk.mask [1,2,3] ⟨by rw[ho,c2];rfl,rfl,rfl⟩⟩
    rw[Ex.over_eq,ho,c2]at h;exact h
  ·rintro fr st ⟨hf,rfl,rfl⟩
   rw[Ex.over_eq,hf,ca]at h
   simp only[go_sem]
   refine aS (λ m fr st=>∃j:Nat,j≤e.kids.length∧m=e.kids.length - j∧R (db ((e.kids.drop j).all λ k=>k.over cells pair)) Z∧
    fr=%[.o,.d (.sl 6 (cells.map fb)),db pair,.ref Z.length 0,.o,.o,.o,dn j|D6 (D5 [.o])]∧st=Z++[some (.cells [.d (iD e.op),.d (iD e.w),.d (iD e.n),.d (.sl 4 (e.kids.map Ex.d))])]) e.kids.length _
    (Wk.mask [1,2,3,7] ⟨0,by omega,rfl,h,rfl,rfl⟩) ?_
   rintro m fr st ⟨j,hj,hm,hR,rfl,rfl⟩
   rcases aC j e.kids.length with hlt|hge
   ·have hd:decide ((j:Int)<(e.kids.length:Int))=true:=by simp;omega
    obtain⟨k,hkk⟩:∃k,e.kids.getD j (.mk 0 0 0 [])=k:=⟨_,rfl⟩
    have hmem:k∈e.kids:=hkk▸mK hlt
    have e1:=pu hlt hkk
    have w2:=bC j (by simp only[reachBytes]at hk;omega)
    rw[ry (.mk 0 0 0 []) hlt,hkk,dH]at hR
    simp only[go_sem,ac,hd,e1]
    rw[←Ex.d_eq k]
    refine⟨⟨by omega,by omega⟩,bH (ih k (hks k hmem) (hkd k hmem) _ _ _ ?_)⟩
    simp only[go_sem,w2]
    refine⟨λ c=>aQ hbd ?_,λ c=>Wk.mask [1,2,3,7] ⟨e.kids.length - (j+1),by omega,j+1,hlt,rfl,?_,rfl,rfl⟩⟩
    ·rw[show k.over cells pair=false by simpa using c]at hR;exact hR
    ·rw[show k.over cells pair=true by simpa using c]at hR;exact hR
   ·have hd:decide ((j:Int)<(e.kids.length:Int))=false:=by simp;omega
    simp only[go_sem,ac,hd]
    rw[d7 hge]at hR
    exact aQ hbd hR
theorem qS(e:Ex)(hok:e.Ok)(cells:List Cel)(hc:cells.length≤reachBytes)(pair:Bool)(Z:St)(G:Glob)(R:A→St→Prop)(h:R (db (e.formed&&e.over cells pair)) Z):AC Tryz.prog G 108 [.d e.d,.d (aY cells),db pair] Z R:=by
 rw[Ex.d_eq]
 refine bg a9 Tryz.func108 rfl Tryz.ntmps108 (by simp only[go_sem]) λ hbd=> ?_
 simp only[ae,aj,Nat.reduceAdd,Nat.reduceSub,af,ag,ah,ak]
 simp only[go_sem]
 rw[←Ex.d_eq e]
 refine bH (kO e hok _ _ _ ?_)
 simp only[go_sem]
 refine gO (.bool (e.over cells pair)) ⟨λ hc'=> ?_,?_⟩
 ·simp only[go_sem]
  rw[←Ex.d_eq e]
  have hf:e.formed=true:=by assumption
  refine⟨hf,bH (over_ac cells hc pair 40 e hok ?_ _ _ _ ?_)⟩
  ·simp only[Ex.formed,aB]at hf;exact hf.2
  ·exact⟨rfl,rfl⟩
 simp only[go_sem]
 exact aQ hbd h
end
section
open Go Go.Ab
theorem gU{τ l:St}{i:Nat}{cs:List A}{k:List A→Prop}(h:τ[i]? =some (some (.cells cs))):jz (τ++l) i k=k cs:=aX (by rw[aq (aL h)];exact h)
theorem iY{τ l:St}{i:Nat}{o:Ob}(h:τ[i]? =some (some o)):dr (τ++l) i=true:=aO (o:=o) (by rw[aq (aL h)];exact h)
theorem BV{τ l:St}{i:Nat}{x:Option Ob}(h:i<τ.length):List.set (τ++l) i x=List.set τ i x++l:=dN _ _ h
theorem xE(n:Nat):(List.replicate n [A.d (.bool false)]).flatten=(List.replicate n false).map λ x=>A.d (.bool x):=by
 induction n with
 |zero=>rfl
 |succ n ih=>rw[af,List.flatten_cons,ih,af,aM];rfl
theorem r6{e:Ex}(h:e.formed=true):e.deep 40=true:=by
 simp only[Ex.formed,aB]at h;exact h.2
abbrev exA(o w n:Int)(k:List D):Option Ob:=some (.cells [.d (iD o),.d (iD w),.d (iD n),.d (.sl 4 k)])
def na(io inw:Nat)(Z:St)(a b:List Bool):St:=(Z.set io (dk a)).set inw (dk b)
section
variable {io inw:Nat} {Z l:St} {a b c d:List Bool}
theorem oe:(na io inw Z a b).length=Z.length:=by simp [na]
theorem Cc(h1:io<Z.length)(h2:inw<Z.length):na io inw (Z++l) a b=na io inw Z a b++l:=by
 rw[na,na,dN _ _ h1,dN _ _ (by simpa using h2)]
theorem mk2_mk2(hne:io≠inw):na io inw (na io inw Z a b) c d=na io inw Z c d:=by
 simp only[na]
 rw[EC (dk b) (dk c) (Ne.symm hne),dT,dT]
theorem mk2_o(hne:io≠inw)(h1:io<Z.length):(na io inw Z a b)[io]? =some (dk a):=by
 rw[na,aD (Ne.symm hne),aT h1]
theorem mk2_n(h2:inw<Z.length):(na io inw Z a b)[inw]? =some (dk b):=by
 rw[na,aT (by simpa using h2)]
theorem Di(hne:io≠inw):(na io inw Z a b).set io (dk c)=na io inw Z c b:=by
 simp only[na]
 rw[EC (dk b) (dk c) (Ne.symm hne),dT]
theorem Dj:(na io inw Z a b).set inw (dk c)=na io inw Z a c:=by simp only[na];rw[dT]
theorem mk2_self(h1:Z[io]? =some (dk a))(h2:Z[inw]? =some (dk b)):na io inw Z a b=Z:=by
 have e1:Z.set io (dk a)=Z:=by
  apply cz
  intro i
  by_cases hi:io=i
  ·subst hi;rw[aT (aL h1),h1]
  ·rw[aD hi]
 rw[na,e1]
 apply cz
 intro i
 by_cases hi:inw=i
 ·subst hi;rw[aT (aL h2),h2]
 ·rw[aD hi]
theorem mk2_bd(hb:Bd Z.length Z):Bd (na io inw Z a b).length (na io inw Z a b):=by
 rw[oe]
 have hc:∀(bs:List Bool) (o:Ob),dk bs=some o→o.bd Z.length=true:=λ bs o ho=>by
  simp only[dk,Option.some.injEq]at ho
  subst ho
  exact gI λ x hx=>by
   obtain⟨y,_,rfl⟩:=aI.1 hx
   rfl
 exact(hb.set io (hc a)).set inw (hc b)
end
theorem mI(o:Int):∀(l m:List Ex) (bs:List Bool),fJ o (l++m) bs=fJ o m (fJ o l bs)
 |[],m,bs=>rfl
 |x::l,m,bs=>by simp only[ah,fJ];exact mI o l m _
theorem marks_ac(l:Nat):∀(e:Ex) (hok:e.Ok) (hd:e.deep l=true) {io inw:Nat} (hne:io≠inw) (bo bn:List Bool) (hlo:bo.length=32) (hln:bn.length=32) (Z:St) (h1:io<Z.length) (h2:inw<Z.length) (G:Glob) (R:A→St→Prop)
  (h:∀r,R r (na io inw Z (fJ 3 e.lvs bo) (fJ 2 e.lvs bn))),AC Tryz.prog G 160 [.d e.d,.rs io 1 0 32 (some 4),.rs inw 1 0 32 (some 4)] (na io inw Z bo bn) R:=by
 induction l with
 |zero=>intro e hok hd;simp [Ex.deep]at hd
 |succ l ih=>
  intro e hok hdp io inw hne bo bn hlo hln Z h1 h2 G R h
  obtain⟨hk,hks⟩:=hok
  have hkd:∀k∈e.kids,k.deep l=true:=λ k hk=>jc hdp hk
  have hf:e.fits=true:=by simp only[Ex.deep,aB]at hdp;exact hdp.1
  have hn0:=uj hf
  have harity:=hf
  simp only[Ex.fits,aB,av]at harity
  have hL:e.kids.length=(Ex.arity e.op).toNat:=by omega
  have hrng:(e.op=2∨e.op=3)→0≤e.n∧e.n<32:=λ ho=>by
   have:=harity.2
   rw[if_neg (by omega),if_pos ho,av]at this
   exact this
  obtain⟨a1,ha1⟩:∃a1,(if e.op=3 then bo.set e.n.toNat true else bo)=a1:=⟨_,rfl⟩
  obtain⟨b1,hb1⟩:∃b1,(if e.op=2 then bn.set e.n.toNat true else bn)=b1:=⟨_,rfl⟩
  have hla:a1.length=32:=by rw[←ha1];split<;> simpa using hlo
  have hlb:b1.length=32:=by rw[←hb1];split<;> simpa using hln
  have hfa:fJ 3 e.lvs bo=fJ 3 (e.kids.flatMap Ex.lvs) a1∧fJ 2 e.lvs bn=fJ 2 (e.kids.flatMap Ex.lvs) b1:=by
   by_cases hke:e.kids=[]
   ·rw[Ex.lvs_leaf hke,hke,←ha1,←hb1];exact⟨rfl,rfl⟩
   ·have hlen:0<e.kids.length:=List.length_pos_iff.2 hke
    have ho:e.op≠3∧e.op≠2:=by
     constructor<;> intro ho<;> rw[hL,ho]at hlen<;> simp [Ex.arity]at hlen
    rw[if_neg ho.1]at ha1
    rw[if_neg ho.2]at hb1
    rw[Ex.lvs_node hke,ha1,hb1];exact⟨rfl,rfl⟩
  rw[hfa.1,hfa.2]at h
  have g1:=mk2_o (Z:=Z) (a:=bo) (b:=bn) hne h1
  have g2:=mk2_n (io:=io) (Z:=Z) (a:=bo) (b:=bn) h2
  simp only[dk]at g1 g2
  have hml:=oe (io:=io) (inw:=inw) (Z:=Z) (a:=bo) (b:=bn)
  rw[Ex.d_eq]
  refine bD [3,5] a9 Tryz.func160 rfl Tryz.ntmps160 (by simp only[go_sem]) λ hbd=> ?_
  simp only[ae,aj,Nat.reduceAdd,Nat.reduceSub,af,ag,ah,ak]
  simp only[go_sem]
  refine bc (λ fr st=>fr=%[.o,.rs io 1 0 32 (some 4),.rs inw 1 0 32 (some 4),.ref (na io inw Z a1 bn).length 0|D6 []]∧st=na io inw Z a1 bn++[exA e.op e.w e.n (e.kids.map Ex.d)]) ?_ ?_
  ·by_cases o3:e.op=3
   ·have b3:(e.op==3)=true:=by simp [o3]
    rw[if_pos o3]at ha1
    have hr:=hrng (.inr o3)
    have hsp:=my (l:=bo.map λ b=>A.d (.bool b)) (k:=e.n.toNat) (by simp;omega) (db true)
    rw[DO,ha1]at hsp
    simp only[go_sem,b3,iY g1,gU g1,BV (aL g1),ac,hlo,ci,hsp]
    exact⟨by omega,by omega,Wk.mask [1,2,3] ⟨by simp only[go_sem,oe],by show List.set (na io inw Z bo bn) io (dk a1)++_=_;rw[Di hne]⟩⟩
   have b3:(e.op==3)=false:=by simp [o3]
   rw[if_neg o3]at ha1
   subst ha1
   simp only[go_sem,b3]
   exact Wk.mask [1,2,3] ⟨rfl,rfl⟩
  rintro fr st ⟨rfl,rfl⟩
  refine bc (λ fr st=>fr=%[.o,.rs io 1 0 32 (some 4),.rs inw 1 0 32 (some 4),.ref (na io inw Z a1 b1).length 0|D6 []]∧st=na io inw Z a1 b1++[exA e.op e.w e.n (e.kids.map Ex.d)]) ?_ ?_
  ·have g2:=mk2_n (io:=io) (Z:=Z) (a:=a1) (b:=bn) h2
   simp only[dk]at g2
   by_cases o2:e.op=2
   ·have b2:(e.op==2)=true:=by simp [o2]
    rw[if_pos o2]at hb1
    have hr:=hrng (.inl o2)
    have hsp:=my (l:=bn.map λ b=>A.d (.bool b)) (k:=e.n.toNat) (by simp;omega) (db true)
    rw[DO,hb1]at hsp
    simp only[go_sem,b2,iY g2,gU g2,BV (aL g2),ac,hln,ci,hsp]
    exact⟨by omega,by omega,Wk.mask [1,2,3] ⟨by simp only[go_sem,oe],by show List.set (na io inw Z a1 bn) inw (dk b1)++_=_;rw[Dj]⟩⟩
   have b2:(e.op==2)=false:=by simp [o2]
   rw[if_neg o2]at hb1
   subst hb1
   simp only[go_sem,b2]
   exact Wk.mask [1,2,3] ⟨rfl,rfl⟩
  rintro fr st ⟨rfl,rfl⟩
  simp only[go_sem]
  have hkl:e.kids.length≤3:=by
   rw[hL];unfold Ex.arity
   split
   ·decide
   ·split
    ·decide
    ·split
     ·decide
     ·split<;> decide
  refine aS (λ m fr st=>∃j:Nat,j≤e.kids.length∧m=e.kids.length - j∧∃x y:List Bool,x=fJ 3 ((e.kids.take j).flatMap Ex.lvs) a1∧y=fJ 2 ((e.kids.take j).flatMap Ex.lvs) b1∧fr=%[.o,.rs io 1 0 32 (some 4),.rs inw 1 0 32 (some 4),.ref (na io inw Z x y).length 0,.o,.o,dn j|D5 (D4 [.o,.o,.o,.o,.o])]∧st=na io inw Z x y++[exA e.op e.w e.n (e.kids.map Ex.d)]) e.kids.length _ (Wk.mask [1,2,3,6] ⟨0,by omega,rfl,a1,b1,rfl,rfl,rfl,rfl⟩) ?_
  rintro m fr st ⟨j,hj,hm,x,y,hx,hy,rfl,rfl⟩
  rcases aC j e.kids.length with hlt|hge
  ·have hd:decide ((j:Int)<(e.kids.length:Int))=true:=by simp;omega
   have hkk:=mY hlt
   simp only[go_sem,hd,hkk,ac,ad]
   refine⟨⟨by omega,by omega⟩,bH ?_⟩
   have e1:D.agg [iD (e.kids.getD j (Ex.mk 0 0 0 [])).op,iD (e.kw j),iD (e.kids.getD j (Ex.mk 0 0 0 [])).n,D.sl 4 (List.map Ex.d (e.kids.getD j (Ex.mk 0 0 0 [])).kids)]=(e.kids.getD j (Ex.mk 0 0 0 [])).d:=(Ex.d_eq _).symm
   have hm:=bT (Ex.mk 0 0 0 []) hlt
   have htk:e.kids.take (j+1)=e.kids.take j++[e.kids.getD j (Ex.mk 0 0 0 [])]:=bG _ hlt
   generalize e.kids.getD j (Ex.mk 0 0 0 [])=k at*
   have hx2:fJ 3 k.lvs x=fJ 3 ((e.kids.take (j+1)).flatMap Ex.lvs) a1:=by
    rw[htk,dB,mI,←hx];simp
   have hy2:fJ 2 k.lvs y=fJ 2 ((e.kids.take (j+1)).flatMap Ex.lvs) b1:=by
    rw[htk,dB,mI,←hy];simp
   have w1:=bC j (by omega)
   rw[e1,←Cc h1 h2]
   refine ih k (hks k hm) (hkd k hm) hne x y (by rw[hx,ol,hla]) (by rw[hy,ol,hlb]) _ (by simp;omega) (by simp;omega) G _ λ r=> ?_
   rw[Cc h1 h2,hx2,hy2]
   simp only[go_sem,w1]
   exact Wk.mask [1,2,3,6] ⟨e.kids.length - (j+1),by omega,j+1,by omega,rfl,_,_,rfl,rfl,by simp only[go_sem,oe],rfl⟩
  ·have hd:decide ((j:Int)<(e.kids.length:Int))=false:=by simp;omega
   obtain rfl:j=e.kids.length:=by omega
   rw[bB]at hx hy
   subst hx hy
   simp only[go_sem,hd,ac]
   have hb:=mk2_bd (io:=io) (inw:=inw) (a:=fJ 3 (e.kids.flatMap Ex.lvs) a1) (b:=fJ 2 (e.kids.flatMap Ex.lvs) b1) hbd
   rw[mk2_mk2 hne]at hb
   exact⟨.tup [],_,bw.cut (by simp only[oe,aE]) hb rfl,h _⟩
theorem yE(e:Ex)(hok:e.Ok)(hf:e.formed=true)(Z:St)(G:Glob)(R:A→St→Prop)(h:R (.tup [.d (bu (kq (lh 3 e) 32)),.d (bu (kq (lh 2 e) 32))]) Z):AC Tryz.prog G 141 [.d e.d] Z R:=by
 rw[Ex.d_eq]
 refine bM a9 Tryz.func141 rfl Tryz.ntmps141 (by simp only[go_sem]) λ hbd=> ?_
 simp only[ae,aj,Nat.reduceAdd,Nat.reduceSub,af,ag,ah,ak]
 simp only[go_sem]
 rw[←Ex.d_eq e]
 refine bH (kO e hok _ _ _ ?_)
 rw[hf]
 simp only[go_sem,g9]
 refine⟨by decide,by decide,?_⟩
 have hT:Int.toNat 32=32:=rfl
 rw[hT,xE]
 rw[←Ex.d_eq e]
 have hS:Z++[exA e.op e.w e.n (e.kids.map Ex.d),dk (List.replicate 32 false),dk (List.replicate 32 false)]=na (Z.length+1) (Z.length+2) (Z++[exA e.op e.w e.n (e.kids.map Ex.d),dk (List.replicate 32 false),dk (List.replicate 32 false)]) (List.replicate 32 false) (List.replicate 32 false):=(mk2_self (by simp) (by simp)).symm
 refine bH ?_
 show AC _ _ _ _ (Z++[exA e.op e.w e.n (e.kids.map Ex.d),dk (List.replicate 32 false),dk (List.replicate 32 false)]) _
 rw[hS]
 refine marks_ac 40 e hok (r6 hf) (by omega) _ _ (by simp) (by simp) _ (by simp) (by simp) G _ λ r=> ?_
 have hS2:na (Z.length+1) (Z.length+2) (Z++[exA e.op e.w e.n (e.kids.map Ex.d),dk (List.replicate 32 false),dk (List.replicate 32 false)]) (fJ 3 e.lvs (List.replicate 32 false)) (fJ 2 e.lvs (List.replicate 32 false))=Z++[exA e.op e.w e.n (e.kids.map Ex.d),dk (lh 3 e),dk (lh 2 e)]:=by
  simp [na,lh]
 rw[hS2]
 simp only[dk,go_sem]
 refine bH (xS 1 1 0 ((lh 3 e).map D.bool) rfl (gV D.bool (λ _=>⟨rfl,rfl⟩) _) ?_)
 simp only[go_sem]
 have l1:((lh 3 e).map D.bool).length=32:=by rw[ac,jX]
 have l2:((lh 2 e).map D.bool).length=32:=by rw[ac,jX]
 rw[if_pos l1.symm]
 refine vV (lh 3 e) (by rw[jX];decide) _ _ _ ?_
 rw[jX]
 refine bH (xS 2 1 0 ((lh 2 e).map D.bool) rfl (gV D.bool (λ _=>⟨rfl,rfl⟩) _) ?_)
 simp only[go_sem]
 rw[if_pos l2.symm]
 refine vV (lh 2 e) (by rw[jX];decide) _ _ _ ?_
 rw[jX]
 try simp only[go_sem]
 exact dq hbd rfl h
end
end Go.Proofs.YtdpdbokicanpoaaGreatDoor
section
namespace Go.Proofs.YtdpdbokicanpoaaGreatDoor
structure Vis where
 cfg:Cfg
 frm:Int
 cho:Cho
def e8:Vis:=⟨jm,0,fE⟩
structure BS where
 V:List Vis
 i:Nat
 xs:List Cho
def eX(p:Prg)(m:Int):BS→Option BS
 |⟨V,i,x::r⟩=>some (if fV p m (V.getD i e8).cfg x∈V.map Vis.cfg then⟨V,i,r⟩else⟨V++[⟨fV p m (V.getD i e8).cfg x,i,x⟩],i,r⟩)
 |⟨V,i,[]⟩=>if i+1<V.length then some ⟨V,i+1,fY p m (V.getD (i+1) e8).cfg⟩else none
def kP(p:Prg)(m:Int):BS:=⟨[⟨bS p,-1,fE⟩],0,fY p m (bS p)⟩
inductive Steps (p:Prg) (m:Int) (S:BS):BS→Prop where
 |refl:Steps p m S S
 |tail {T ρ:BS} (h:Steps p m S T) (hb:eX p m T=some ρ):Steps p m S ρ
section
variable {p:Prg} {m:Int} {S T ρ:BS}
theorem Steps.trans(h:Steps p m S T)(k:Steps p m T ρ):Steps p m S ρ:=by
 induction k with
 |refl=>exact h
 |tail _ hb ih=>exact ih.tail hb
theorem Steps.head(hb:eX p m S=some ρ)(h:Steps p m S T):T=S∨Steps p m ρ T:=by
 induction h with
 |refl=>exact .inl rfl
 |tail _ hb2 ih=>
  rcases ih with e|ih
  ·subst e
   rw[hb]at hb2
   cases hb2
   exact .inr .refl
  ·exact .inr (ih.tail hb2)
theorem Steps.linear(h:Steps p m S T)(k:Steps p m S ρ):Steps p m T ρ∨Steps p m ρ T:=by
 induction k with
 |refl=>exact .inr h
 |tail _ hb ih=>
  rcases ih with ih|ih
  ·exact .inl (ih.tail hb)
  ·rcases Steps.head hb ih with e|h2
   ·rw[e];exact .inl (Steps.refl.tail hb)
   ·exact .inr h2
theorem Steps.last(h:Steps p m S T)(hS:eX p m S=none):T=S:=by
 induction h with
 |refl=>rfl
 |tail _ hb ih=>rw[ih,hS]at hb;cases hb
theorem BC(h:eX p m S=some T):∃W,T.V=S.V++W:=by
 obtain⟨V,i,xs⟩:=S
 cases xs with
 |nil=>
  simp only[eX]at h
  split at h
  ·cases h;exact⟨[],by simp⟩
  ·cases h
 |cons x r=>
  simp only[eX,Option.some.injEq]at h
  subst h
  split
  ·exact⟨[],by simp⟩
  ·exact⟨_,rfl⟩
theorem Steps.grow(h:Steps p m S T):∃W,T.V=S.V++W:=by
 induction h with
 |refl=>exact⟨[],by simp⟩
 |tail _ hb ih=>
  obtain⟨W,hW⟩:=ih
  obtain⟨X,hX⟩:=BC hb
  exact⟨W++X,by rw[hX,hW,aU]⟩
end
def Met(p:Prg)(m:Int)(V:List Vis)(j:Nat)(x:Cho):Prop:=∃(k:Nat) (v:Vis),V[k]? =some v∧v.cfg=fV p m (V.getD j e8).cfg x∧v.frm≤j
structure BInv (p:Prg) (m:Int) (S:BS):Prop where
 lt:S.i<S.V.length
 root:∃v,S.V[0]? =some v∧v.cfg=bS p∧v.frm= -1
 fits:∀v∈S.V,Fits p m v.cfg
 nodup:(S.V.map Vis.cfg).Nodup
 from_:∀(k:Nat) (v:Vis),S.V[k]? =some v→0<k→∃j:Nat,v.frm=j∧j<k∧j≤S.i∧v.cho∈fY p m (S.V.getD j e8).cfg∧v.cfg=fV p m (S.V.getD j e8).cfg v.cho
 mono:∀(k l:Nat) (v w:Vis),S.V[k]? =some v→S.V[l]? =some w→k≤l→v.frm≤w.frm
 done:∀j,j<S.i→∀x∈fY p m (S.V.getD j e8).cfg,Met p m S.V j x
 now:∃d,fY p m (S.V.getD S.i e8).cfg=d++S.xs∧∀x∈d,Met p m S.V S.i x
theorem Met.grow{p:Prg}{m:Int}{V W:List Vis}{j:Nat}{x:Cho}(hj:j<V.length)(h:Met p m V j x):Met p m (V++W) j x:=by
 obtain⟨k,v,hk,hv,hf⟩:=h
 refine⟨k,v,?_,?_,hf⟩
 ·rw[aq]
  ·exact hk
  ·exact(aA.1 hk).1
 ·rw[hv,au,au,aq hj]
theorem kl{V W:List Vis}{j:Nat}(h:j<V.length):(V++W).getD j e8=V.getD j e8:=by
 rw[au,au,aq h]
theorem binv_0{p:Prg}(hp:p.Ok)(m:Int):BInv p m (kP p m) where
 lt:=by simp [kP]
 root:=⟨_,rfl,rfl,rfl⟩
 fits v hv:=by
  simp only[kP,cm]at hv
  rw[hv];exact jl hp m
 nodup:=by simp [kP]
 from_ k v hk h0:=by
  have:=(aA.1 hk).1
  simp only[kP,List.length_singleton]at this
  omega
 mono k l v w hk hl h:=by
  have h1:=(aA.1 hk).1
  have h2:=(aA.1 hl).1
  simp only[kP,List.length_singleton]at h1 h2
  obtain rfl:k=0:=by omega
  obtain rfl:l=0:=by omega
  rw[hk]at hl
  cases hl
  exact Int.le_refl _
 done j hj:=by simp [kP]at hj
 now:=⟨[],rfl,λ x hx=>by cases hx⟩
theorem DP{p:Prg}(hp:p.Ok){m:Int}{S T:BS}(h:BInv p m S)(hb:eX p m S=some T):BInv p m T:=by
 obtain⟨V,i,xs⟩:=S
 have hlt:=h.lt
 obtain⟨d,hd,hdm⟩:=h.now
 cases xs with
 |nil=>
  simp only[eX]at hb
  split at hb
  ·rename_i hi
   cases hb
   refine⟨hi,h.root,h.fits,h.nodup,λ k v hk h0=> ?_,h.mono,λ j hj x hx=> ?_,⟨[],rfl,λ x hx=>by cases hx⟩⟩
   ·obtain⟨j,h1,h2,h3,h4⟩:=h.from_ k v hk h0
    exact⟨j,h1,h2,Nat.le_succ_of_le h3,h4⟩
   ·rcases aC j i with hji|hji
    ·exact h.done j hji x hx
    ·obtain rfl:j=i:=by
      have:j<i+1:=hj
      omega
     refine hdm x ?_
     simp only[bt]at hd
     rw[←hd];exact hx
  ·cases hb
 |cons x r=>
  simp only[eX,Option.some.injEq]at hb
  have hlt:i<V.length:=hlt
  have hxc:x∈fY p m (V.getD i e8).cfg:=by
   have:fY p m (V.getD i e8).cfg=d++x::r:=hd
   rw[this];simp
  split at hb
  ·rename_i hin
   subst hb
   refine⟨hlt,h.root,h.fits,h.nodup,h.from_,h.mono,h.done,⟨d++[x],by simpa using hd,λ y hy=> ?_⟩⟩
   rcases aW.1 hy with hy|hy
   ·exact hdm y hy
   ·rw[cm]at hy
    subst hy
    obtain⟨v,hv,hve⟩:=aI.1 hin
    obtain⟨k,hk,hkv⟩:=bF hv
    have hk':V[k]? =some v:=by rw[ap hk,hkv]
    refine⟨k,v,hk',hve,?_⟩
    rcases cv k with h0|h0
    ·subst h0
     obtain⟨w,hw,_,hw2⟩:=h.root
     rw[hk']at hw
     cases hw
     show v.frm≤(i:Int)
     omega
    ·obtain⟨j,h1,_,h3,_⟩:=h.from_ k v hk' h0
     have h3:j≤i:=h3
     show v.frm≤(i:Int)
     omega
  ·rename_i hin
   subst hb
   obtain⟨n,hn⟩:∃n,fV p m (V.getD i e8).cfg x=n:=⟨_,rfl⟩
   rw[hn]at hin ⊢
   have hvi:V.getD i e8∈V:=by rw[au,ap hlt];exact bI hlt
   have hold:∀{k v},(V++[Vis.mk n i x])[k]? =some v→(k<V.length∧V[k]? =some v)∨(k=V.length∧v=Vis.mk n i x):=λ {k v} hk=>by
    rcases aC k V.length with hlt|hge
    ·rw[aq hlt]at hk;exact .inl ⟨hlt,hk⟩
    ·rw[az hge]at hk
     have h0:=(aA.1 hk).1
     simp only[List.length_singleton]at h0
     have e:k - V.length=0:=by omega
     rw[e]at hk
     simp only[cA,Option.some.injEq]at hk
     exact .inr ⟨by omega,hk.symm⟩
   have hnew:(V++[Vis.mk n i x])[V.length]? =some (Vis.mk n i x):=by rw[az (aE _)];simp
   refine⟨by rw[aF];show i<_;omega,?_,?_,?_,?_,?_,?_,?_⟩
   ·obtain⟨w,hw,hw2⟩:=h.root
    exact⟨w,by show(V++_)[0]? =_;rw[aq (by omega)];exact hw,hw2⟩
   ·intro v hv
    rcases aW.1 hv with hv|hv
    ·exact h.fits v hv
    ·rw[cm]at hv
     subst hv
     rw[←hn]
     exact rp hp (h.fits _ hvi) hxc
   ·show((V++[_]).map Vis.cfg).Nodup
    rw[aJ,cW]
    refine⟨h.nodup,by simp,λ a ha b hb e=> ?_⟩
    simp only[aM,bq,cm]at hb
    subst hb
    exact hin (e▸ha)
   ·intro k v hk h0
    rcases hold hk with⟨hkl,hk⟩|⟨hkl,rfl⟩
    ·obtain⟨j,h1,h2,h3,h4,h5⟩:=h.from_ k v hk h0
     refine⟨j,h1,h2,h3,?_,?_⟩
     ·show _∈fY p m ((V++_).getD j e8).cfg
      rw[kl (by omega)];exact h4
     ·show _=fV p m ((V++_).getD j e8).cfg _
      rw[kl (by omega)];exact h5
    ·refine⟨i,rfl,by omega,aE _,?_,?_⟩
     ·show _∈fY p m ((V++_).getD i e8).cfg
      rw[kl hlt];exact hxc
     ·show _=fV p m ((V++_).getD i e8).cfg _
      rw[kl hlt];exact hn.symm
   ·intro k l v w hk hl hkl
    rcases hold hl with⟨hll,hl⟩|⟨hll,rfl⟩
    ·rcases hold hk with⟨_,hk⟩|⟨hk2,_⟩
     ·exact h.mono k l v w hk hl hkl
     ·omega
    ·rcases hold hk with⟨hkl2,hk⟩|⟨_,rfl⟩
     ·rcases cv k with h0|h0
      ·subst h0
       obtain⟨w,hw,_,hw2⟩:=h.root
       rw[hk]at hw
       cases hw
       show v.frm≤(i:Int)
       omega
      ·obtain⟨j,h1,_,h3,_⟩:=h.from_ k v hk h0
       have h3:j≤i:=h3
       show v.frm≤(i:Int)
       omega
     ·exact Int.le_refl _
   ·intro j hj y hy
    have hj:j<i:=hj
    have hy':y∈fY p m (V.getD j e8).cfg:=by
     have:y∈fY p m ((V++[Vis.mk n i x]).getD j e8).cfg:=hy
     rwa [kl (by omega)]at this
    exact(h.done j hj y hy').grow (by show j<V.length;omega)
   ·refine⟨d++[x],?_,λ y hy=> ?_⟩
    ·show fY p m ((V++_).getD i e8).cfg=_
     rw[kl hlt]
     simpa using hd
    ·rcases aW.1 hy with hy|hy
     ·exact(hdm y hy).grow hlt
     ·rw[cm]at hy
      subst hy
      refine⟨V.length,_,hnew,?_,Int.le_refl _⟩
      show n=fV p m ((V++_).getD i e8).cfg _
      rw[kl hlt];exact hn.symm
theorem fx{p:Prg}(hp:p.Ok){m:Int}{S:BS}(h:Steps p m (kP p m) S):BInv p m S:=by
 induction h with
 |refl=>exact binv_0 hp m
 |tail _ hb ih=>exact DP hp ih hb
inductive Back (V:List Vis):Nat→List Cho→Prop where
 |root {k:Nat} {v:Vis} (hk:V[k]? =some v) (h:v.frm<0):Back V k []
 |step {k j:Nat} {v:Vis} {l:List Cho} (hk:V[k]? =some v) (h:v.frm=j) (hb:Back V j l):Back V k (v.cho::l)
def jG(p:Prg)(m:Int)(c:Cfg)(l:List Cho):Cfg:=l.foldl (fV p m) c
theorem mz{p:Prg}{m:Int}{x:Cho}:∀{l:List Cho} {c:Cfg},fK p m c (l++[x])↔fK p m c l∧x∈fY p m (jG p m c l)
 |[],c=>by simp [fK,jG]
 |y::l,c=>by
  simp only[ah,fK,mz (l:=l),jG,cc,and_assoc]
theorem nX{p:Prg}{m:Int}:∀{l:List Cho} {c:Cfg} {i:Nat},i≤l.length→(iS p m c l)[i]? =some (jG p m c (l.take i))
 |[],c,i,hi=>by
  obtain rfl:i=0:=by simpa using hi
  rfl
 |x::l,c,0,_=>rfl
 |x::l,c,i+1,hi=>by
  simp only[iS,cN,dR]
  rw[nX (by simpa using hi)]
  rfl
section
variable {p:Prg} {m:Int} {S:BS}
theorem BInv.back(h:BInv p m S):∀k,k<S.V.length→∃l,Back S.V k l:=by
 intro k
 induction k using Nat.strongRecOn with
 |ind k ih=>
  intro hk
  have hv:=pk e8 hk
  rcases cv k with h0|h0
  ·subst h0
   obtain⟨w,hw,_,hw2⟩:=h.root
   exact⟨[],.root hw (by omega)⟩
  ·obtain⟨j,h1,h2,h3,h4,h5⟩:=h.from_ k _ hv h0
   obtain⟨l,hl⟩:=ih j h2 (by omega)
   exact⟨_,.step hv h1 hl⟩
theorem Back.uniq{V:List Vis}{k:Nat}{l l':List Cho}(h:Back V k l)(h':Back V k l'):l=l':=by
 induction h generalizing l' with
 |root hk hf=>
  cases h' with
  |root=>rfl
  |step hk2 hf2 _=>rw[hk]at hk2;cases hk2;omega
 | @step k j v l hk hf hb ih=>
  cases h' with
  |root hk2 hf2=>rw[hk]at hk2;cases hk2;omega
  | @step _ j2 v2 l2 hk2 hf2 hb2=>
   rw[hk]at hk2
   obtain rfl:v=v2:=Option.some.inj hk2
   obtain rfl:j=j2:=by omega
   rw[ih hb2]
theorem Back.grow{V W:List Vis}{k:Nat}{l:List Cho}(h:Back V k l):Back (V++W) k l:=by
 induction h with
 |root hk hf=>exact .root (by rw[aq (aA.1 hk).1];exact hk) hf
 |step hk hf hb ih=>exact .step (by rw[aq (aA.1 hk).1];exact hk) hf ih
theorem Back.path(h:BInv p m S){k:Nat}{l:List Cho}(hb:Back S.V k l):fK p m (bS p) l.reverse∧jG p m (bS p) l.reverse=(S.V.getD k e8).cfg:=by
 induction hb with
 |root hk hf=>
  rename_i k v
  refine⟨trivial,?_⟩
  rcases cv k with h0|h0
  ·subst h0
   obtain⟨w,hw,hw1,hw2⟩:=h.root
   rw[jA hw,hw1];rfl
  ·obtain⟨j,h1,_⟩:=h.from_ k v hk h0
   omega
 |step hk hf hb ih=>
  rename_i k j v l
  rcases cv k with h0|h0
  ·subst h0
   obtain⟨w,hw,hw1,hw2⟩:=h.root
   rw[hk]at hw;cases hw
   omega
  ·obtain⟨j2,h1,h2,h3,h4,h5⟩:=h.from_ k v hk h0
   obtain rfl:j=j2:=by omega
   rw[List.reverse_cons]
   refine⟨mz.2 ⟨ih.1,by rw[ih.2];exact h4⟩,?_⟩
   unfold jG
   rw[dG]
   show fV p m (jG p m (bS p) l.reverse) v.cho=_
   rw[ih.2,jA hk,h5]
end
end Go.Proofs.YtdpdbokicanpoaaGreatDoor
end
section
namespace Go.Proofs.YtdpdbokicanpoaaGreatDoor
theorem nu:∀{n:Nat} {l:List Nat},l.Nodup→(∀x∈l,x<n)→l.length≤n
 |0,l,_,hx=>by
  cases l with
  |nil=>exact aE _
  |cons a t=>exact absurd (hx a (by simp)) (by omega)
 |n+1,l,h,hx=>by
  by_cases hm:n∈l
  ·have h1:=nu (n:=n) (l:=l.erase n) (h.erase n) λ x hx'=>by
    rw[h.mem_erase_iff]at hx'
    have:=hx x hx'.2
    have:=hx'.1
    omega
   rw[List.length_erase_of_mem hm]at h1
   omega
  ·have h1:=nu (n:=n) (l:=l) h λ x hx'=>by
    have:=hx x hx'
    have:x≠n:=λ e=>hm (e▸hx')
    omega
   omega
def oz(v:Int):UInt8:=UInt8.ofNat (v % 256).toNat
theorem oy{a b:Int}(ha:0≤a∧a<256)(hb:0≤b∧b<256)(h:oz a=oz b):a=b:=by
 have h1:=congrArg UInt8.toNat h
 unfold oz at h1
 simp only[UInt8.toNat_ofNat']at h1
 omega
def sD(e:Ent):List UInt8:=oz e.cells.length::(e.cells.zip e.vals).flatMap λ q=>[oz q.1,oz q.2]
def sE(l:List Ent):List UInt8:=oz l.length::l.flatMap sD
def sw(c:Cfg):List UInt8:=c.mem.map oz++(c.pos.map λ a=>oz (a+1))++c.buf.flatMap sE
theorem xo{f:Int→UInt8}{P:Int→Prop}(hf:∀a b,P a→P b→f a=f b→a=b):∀{x y:List Int},(∀a∈x,P a)→(∀a∈y,P a)→x.map f=y.map f→x=y
 |[],[],_,_,_=>rfl
 |[],b::y,_,_,h=>by simp at h
 |a::x,[],_,_,h=>by simp at h
 |a::x,b::y,hx,hy,h=>by
  simp only[aM,List.cons.injEq]at h
  rw[hf a b (hx a (by simp)) (hy b (by simp)) h.1,xo hf (λ c hc=>hx c (by simp [hc])) (λ c hc=>hy c (by simp [hc])) h.2]
structure EntSm (e:Ent):Prop where
 len:e.vals.length=e.cells.length
 few:e.cells.length<256
 cell:∀c∈e.cells,0≤c∧c<256
 val:∀v∈e.vals,0≤v∧v<256
theorem vN:∀{a b x y:List Int} {r s:List UInt8},a.length=x.length→b.length=a.length→y.length=x.length→(∀c∈a,0≤c∧c<256)→(∀c∈b,0≤c∧c<256)→(∀c∈x,0≤c∧c<256)→(∀c∈y,0≤c∧c<256)→
  ((a.zip b).flatMap λ q=>[oz q.1,oz q.2])++r=((x.zip y).flatMap λ q=>[oz q.1,oz q.2])++s→a=x∧b=y∧r=s
 |[],b,x,y,r,s,h1,h2,h3,_,_,_,_,h=>by
  obtain rfl:=cM.1 (show b.length=0 by simpa using h2)
  obtain rfl:=cM.1 (show x.length=0 by simpa using h1.symm)
  obtain rfl:=cM.1 (show y.length=0 by simpa using h3)
  exact⟨rfl,rfl,by simpa using h⟩
 |a::asZ,[],_,_,_,_,_,h2,_,_,_,_,_,_=>by simp at h2
 |a::asZ,b::bs,[],_,_,_,h1,_,_,_,_,_,_,_=>by simp at h1
 |a::asZ,b::bs,x::xs,[],_,_,_,_,h3,_,_,_,_,_=>by simp at h3
 |a::asZ,b::bs,x::xs,y::ys,r,s,h1,h2,h3,ka,kb,kx,ky,h=>by
  simp only[List.zip_cons_cons,cP,ah,ak,List.cons.injEq]at h
  obtain⟨e1,e2,h⟩:=h
  obtain⟨g1,g2,g3⟩:=vN (by simpa using h1) (by simpa using h2) (by simpa using h3) (λ c hc=>ka c (by simp [hc])) (λ c hc=>kb c (by simp [hc])) (λ c hc=>kx c (by simp [hc])) (λ c hc=>ky c (by simp [hc])) h
  rw[oy (ka a (by simp)) (kx x (by simp)) e1,oy (kb b (by simp)) (ky y (by simp)) e2,g1,g2]
  exact⟨rfl,rfl,g3⟩
theorem encE_inj{e f:Ent}{r s:List UInt8}(he:EntSm e)(hf:EntSm f)(h:sD e++r=sD f++s):e=f∧r=s:=by
 unfold sD at h
 simp only[ah,List.cons.injEq]at h
 have hl:=oy (a:=e.cells.length) (b:=f.cells.length) ⟨by omega,by have:=he.few;omega⟩ ⟨by omega,by have:=hf.few;omega⟩ h.1
 obtain⟨h1,h2,h3⟩:=vN (by omega) he.len hf.len he.cell he.val hf.cell hf.val h.2
 refine⟨?_,h3⟩
 cases e;cases f
 simp only at h1 h2
 rw[h1,h2]
theorem zW:∀{l k:List Ent} {r s:List UInt8},l.length=k.length→(∀e∈l,EntSm e)→(∀e∈k,EntSm e)→l.flatMap sD++r=k.flatMap sD++s→l=k∧r=s
 |[],[],_,_,_,_,_,h=>⟨rfl,by simpa using h⟩
 |[],_::_,_,_,hl,_,_,_=>by simp at hl
 |_::_,[],_,_,hl,_,_,_=>by simp at hl
 |e::l,f::k,r,s,hl,he,hf,h=>by
  simp only[cP,aU]at h
  obtain⟨h1,h2⟩:=encE_inj (he e (by simp)) (hf f (by simp)) h
  obtain⟨h3,h4⟩:=zW (by simpa using hl) (λ x hx=>he x (by simp [hx])) (λ x hx=>hf x (by simp [hx])) h2
  rw[h1,h3]
  exact⟨rfl,h4⟩
theorem encB_inj{l k:List Ent}{r s:List UInt8}(hl:l.length<256)(hk:k.length<256)(he:∀e∈l,EntSm e)(hf:∀e∈k,EntSm e)(h:sE l++r=sE k++s):l=k∧r=s:=by
 unfold sE at h
 simp only[ah,List.cons.injEq]at h
 exact zW (by have:=oy (a:=l.length) (b:=k.length) ⟨by omega,by omega⟩ ⟨by omega,by omega⟩ h.1;omega) he hf h.2
theorem Ak:∀{x y:List (List Ent)} {r s:List UInt8},x.length=y.length→(∀l∈x,l.length<256∧∀e∈l,EntSm e)→(∀l∈y,l.length<256∧∀e∈l,EntSm e)→x.flatMap sE++r=y.flatMap sE++s→x=y∧r=s
 |[],[],_,_,_,_,_,h=>⟨rfl,by simpa using h⟩
 |[],_::_,_,_,hl,_,_,_=>by simp at hl
 |_::_,[],_,_,hl,_,_,_=>by simp at hl
 |e::l,f::k,r,s,hl,he,hf,h=>by
  simp only[cP,aU]at h
  obtain⟨h1,h2⟩:=encB_inj (he e (by simp)).1 (hf f (by simp)).1 (he e (by simp)).2 (hf f (by simp)).2 h
  obtain⟨h3,h4⟩:=Ak (by simpa using hl) (λ x hx=>he x (by simp [hx])) (λ x hx=>hf x (by simp [hx])) h2
  rw[h1,h3]
  exact⟨rfl,h4⟩
theorem v7{l:List Int}{n:Nat}(h:l.Nodup)(hx:∀x∈l,0≤x∧x<n):l.length≤n:=by
 have:=nu (n:=n) (l:=l.map Int.toNat) ?_ ?_
 ·simpa using this
 ·have:∀{l:List Int},l.Nodup→(∀x∈l,0≤x)→(l.map Int.toNat).Nodup:=by
   intro l
   induction l with
   |nil=>intro _ _;simp
   |cons a l ih=>
    intro h hx
    rw[cR]at h
    rw[aM,cR]
    refine⟨λ hm=> ?_,ih h.2 λ x hm=>hx x (by simp [hm])⟩
    obtain⟨b,hb,e⟩:=aI.1 hm
    have h1:=hx a (by simp)
    have h2:=hx b (by simp [hb])
    have:b=a:=by omega
    exact h.1 (this▸hb)
  exact this h λ x hm=>(hx x hm).1
 ·intro x hm
  obtain⟨y,hy,rfl⟩:=aI.1 hm
  have:=hx y hy
  omega
theorem AD{p:Prg}(hp:p.Ok){c:Int}(h0:0≤c)(hc:c<p.cells.length):1≤(p.cell c).w∧(p.cell c).w≤8:=by
 refine(hp.cells _ ?_).w
 unfold Prg.cell
 rw[au,ap (by omega)]
 exact bI _
theorem vM{w:Int}(h:w≤8):(2:Int)^w.toNat≤256:=by
 have:2^w.toNat≤2^8:=gn (by omega) (by omega)
 have h2:((2:Int)^w.toNat)=((2^w.toNat:Nat):Int):=by simp
 omega
theorem ent_sm{p:Prg}(hp:p.Ok)(hn:p.cells.length≤32){e:Ent}(he:EntOk p e):EntSm e:=by
 have hc:∀c∈e.cells,0≤c∧c<p.cells.length:=λ c hc=>by
  obtain⟨i,hi,rfl⟩:=bF hc
  exact(eJ.1 (he.cell i _ (ap hi)).1).1
 refine⟨he.len,?_,λ c h=> ?_,λ v h=> ?_⟩
 ·have:=v7 he.nodup hc
  omega
 ·have:=hc c h
  omega
 ·obtain⟨i,hi,rfl⟩:=bF h
  have hi2:i<e.cells.length:=by rw[←he.len];exact hi
  have h1:=he.val i _ _ (ap hi2) (ap hi)
  have h2:=hc _ (bI hi2)
  have h3:=vM (AD hp h2.1 h2.2).2
  omega
theorem mem_sm{p:Prg}(hp:p.Ok){mem:List Int}(h:MemOk p mem):∀v∈mem,0≤v∧v<256:=λ v hv=>by
 obtain⟨i,hi,rfl⟩:=bF hv
 have h1:=h.val i _ (ap hi)
 have h3:=vM (AD hp (c:=(i:Int)) (by omega) (by rw[←h.len];omega)).2
 omega
theorem key_inj{p:Prg}(hp:p.Ok)(hs:p.Small){m:Int}{c d:Cfg}(hc:Fits p m c)(hd:Fits p m d)(h:sw c=sw d):c=d:=by
 unfold sw at h
 rw[aU,aU]at h
 have hn:p.cells.length≤32:=by have:=hs.ncel;omega
 obtain⟨h1,h2⟩:=List.append_inj h (by rw[ac,ac,hc.mem.len,hd.mem.len])
 obtain⟨h2,h3⟩:=List.append_inj h2 (by rw[ac,ac,hc.npos,hd.npos])
 have hps:∀{c:Cfg},Fits p m c→∀a∈c.pos,-1≤a∧a<9:=λ {c} hf a ha=>by
  obtain⟨t,ht,rfl⟩:=bF ha
  obtain⟨g1,g2,_⟩:=hf.pos t _ (ap ht)
  have ht2:t<p.threads.length:=by rw[←hf.npos];exact ht
  have:(p.thr t).points≤8:=by
   refine(hs.threads _ ?_).points
   unfold Prg.thr
   rw[au,ap ht2]
   exact bI _
  omega
 have hbs:∀{c:Cfg},Fits p m c→∀l∈c.buf,l.length<256∧∀e∈l,EntSm e:=λ {c} hf l hl=>by
  obtain⟨t,ht,rfl⟩:=bF hl
  obtain⟨g1,g2⟩:=hf.few t _ (ap ht)
  exact⟨by omega,λ e he=>ent_sm hp hn (g2 e he)⟩
 have k1:=xo (P:=λ a=>0≤a∧a<256) (λ a b ha hb=>oy ha hb) (mem_sm hp hc.mem) (mem_sm hp hd.mem) h1
 have k2:=xo (P:=λ a=> -1≤a∧a<9) (f:=λ a=>oz (a+1)) (λ a b ha hb hab=>by have:=oy (a:=a+1) (b:=b+1) (by omega) (by omega) hab;omega) (hps hc) (hps hd) h2
 have k3:=(Ak (r:=[]) (s:=[]) (by rw[hc.nbuf,hd.nbuf]) (hbs hc) (hbs hd) (by rw[h3])).1
 cases c;cases d
 simp only at k1 k2 k3
 rw[k1,k2,k3]
end Go.Proofs.YtdpdbokicanpoaaGreatDoor
end
section
namespace Go.Proofs.YtdpdbokicanpoaaGreatDoor
def Fa(c:Cfg):Nat:=(c.buf.map List.length).sum
def y9(p:Prg)(m:Int)(c:Cfg)(t:Nat):List Cho:=(fY p m c).filter λ x=>x.step== -1&&x.thread==(t:Int)
theorem all_nil{p:Prg}{m:Int}{c:Cfg}(hf:Fits p m c)(h:∀u,u<p.threads.length→c.bufAt u=[]):∀l∈c.buf,l=[]:=λ l hl=>by
 obtain⟨u,hu,rfl⟩:=bF hl
 have:=h u (by rw[←hf.nbuf];exact hu)
 unfold Cfg.bufAt at this
 rw[au,ap hu]at this
 exact this
theorem yi{c:Cfg}{t:Nat}(h:c.bufAt t=[]):cT c t=c.mem:=by unfold cT;rw[h];rfl
end Go.Proofs.YtdpdbokicanpoaaGreatDoor
end
section
namespace Go.Proofs.YtdpdbokicanpoaaGreatDoor
structure Perm (n:Nat) (to:List Int):Prop where
 len:to.length=n
 rng:∀x∈to,0≤x∧x<n
 nodup:to.Nodup
def mv(to:List Int)(c:Int):Int:=if 0≤c∧c<to.length then to.getD c.toNat 0 else c
section
variable {n:Nat} {to:List Int}
theorem Perm.at_(h:Perm n to){i:Nat}(hi:i<n):0≤to.getD i 0∧to.getD i 0<n:=by
 refine h.rng _ ?_
 rw[au,ap (by rw[h.len];exact hi)]
 exact bI _
theorem Perm.inj(h:Perm n to){i j:Nat}(hi:i<n)(hj:j<n)(e:to.getD i 0=to.getD j 0):i=j:=by
 have hi:i<to.length:=by rw[h.len];exact hi
 have hj:j<to.length:=by rw[h.len];exact hj
 rw[au,au,ap hi,ap hj]at e
 exact(List.getElem_inj h.nodup).1 e
theorem Perm.surj(h:Perm n to){k:Nat}(hk:k<n):∃i,i<n∧to.getD i 0=k:=by
 refine Classical.byContradiction λ hn=> ?_
 have hm:(k:Int)∉to:=λ hm=>by
  obtain⟨i,hi,e⟩:=bF hm
  refine hn ⟨i,by rw[←h.len];exact hi,?_⟩
  rw[au,ap hi,e];rfl
 have:=v7 (l:=(k:Int)::to) (n:=n) (cR.2 ⟨hm,h.nodup⟩) λ x hx=>by
  rcases aV.1 hx with rfl|hx
  ·omega
  ·exact h.rng x hx
 rw[ae,h.len]at this
 omega
theorem EW(h:Perm n to){c:Int}(hc:0≤c∧c<n):mv to c=to.getD c.toNat 0:=by
 unfold mv
 rw[h.len,if_pos hc]
theorem EV(h:Perm n to){c:Int}(hc:0≤c∧c<n):0≤mv to c∧mv to c<n:=by
 rw[EW h hc]
 exact h.at_ (by omega)
theorem FSm(h:Perm n to){c d:Int}(hc:0≤c∧c<n)(hd:0≤d∧d<n)(e:mv to c=mv to d):c=d:=by
 rw[EW h hc,EW h hd]at e
 have:=h.inj (by omega) (by omega) e
 omega
end
section
variable {α:Type}
theorem Gq{β:Type}:∀(a:List β) (b:List α),((a.zip b).map Prod.fst).Sublist a
 |[],_=>by simp
 |x::a,[]=>by simp
 |x::a,y::b=>by
  rw[List.zip_cons_cons,aM]
  exact(Gq a b).cons_cons x
def EK(acc:List α)(ps:List (Int×α)):List α:=ps.foldl (λ m q=>m.set q.1.toNat q.2) acc
def Eu(d:α)(to:List Int)(l:List α):List α:=EK (List.replicate to.length d) (to.zip l)
theorem E1:∀(ps:List (Int×α)) (acc:List α),(EK acc ps).length=acc.length
 |[],_=>rfl
 |q::ps,acc=>by
  unfold EK
  rw[cc]
  have:=E1 ps (acc.set q.1.toNat q.2)
  unfold EK at this
  rw[this,aH]
theorem FI:∀(ps:List (Int×α)) (acc:List α) (k:Nat),(∀q∈ps,q.1.toNat≠k)→(EK acc ps)[k]? =acc[k]?
 |[],_,_,_=>rfl
 |q::ps,acc,k,h=>by
  have:=FI ps (acc.set q.1.toNat q.2) k λ r hr=>h r (by simp [hr])
  unfold EK at this ⊢
  rw[cc,this,aD (h q (by simp))]
theorem F2:∀(ps:List (Int×α)) (acc:List α) (q:Int×α),q∈ps→(ps.map λ r=>r.1.toNat).Nodup→q.1.toNat<acc.length→(EK acc ps)[q.1.toNat]? =some q.2
 |[],_,_,hq,_,_=>by cases hq
 |r::ps,acc,q,hq,hn,hl=>by
  rw[aM,cR]at hn
  rcases aV.1 hq with rfl|hq
  ·have:=FI ps (acc.set q.1.toNat q.2) q.1.toNat λ s hs e=>hn.1 (aI.2 ⟨s,hs,e⟩)
   unfold EK at this ⊢
   rw[cc,this,aT hl]
  ·have:=F2 ps (acc.set r.1.toNat r.2) q hq hn.2 (by rw[aH];exact hl)
   unfold EK at this ⊢
   rw[cc,this]
variable {n:Nat} {to:List Int} {d:α} {l:List α}
theorem EJ:(Eu d to l).length=to.length:=by unfold Eu;rw[E1];simp
theorem EH(h:Perm n to){i:Nat}{x:α}(hx:l[i]? =some x)(hi:i<n):(Eu d to l)[(to.getD i 0).toNat]? =some x:=by
 have hi2:i<to.length:=by rw[h.len];exact hi
 have hl:=(aA.1 hx).1
 have hmem:(to.getD i 0,x)∈to.zip l:=by
  have hz:i<(to.zip l).length:=by rw[f9];omega
  have:(to.zip l)[i]=(to.getD i 0,x):=by
   rw[List.getElem_zip,au,ap hi2]
   have e:=(aA.1 hx).2
   rw[e];rfl
  rw[←this]
  exact bI hz
 refine F2 _ _ (to.getD i 0,x) hmem ?_ (by have h1:=h.at_ hi;have h2:=h.len;rw[fd];show(to.getD i 0).toNat<_;omega)
 have hnd:(to.map Int.toNat).Nodup:=by
  have:∀{l:List Int},l.Nodup→(∀x∈l,0≤x)→(l.map Int.toNat).Nodup:=by
   intro l
   induction l with
   |nil=>intro _ _;simp
   |cons a l ih=>
    intro h hx
    rw[cR]at h
    rw[aM,cR]
    refine⟨λ hm=> ?_,ih h.2 λ x hm=>hx x (by simp [hm])⟩
    obtain⟨b,hb,e⟩:=aI.1 hm
    have h1:=hx a (by simp)
    have h2:=hx b (by simp [hb])
    have:b=a:=by omega
    exact h.1 (this▸hb)
  exact this h.nodup λ x hx=>(h.rng x hx).1
 have hsub:((to.zip l).map λ r=>r.1.toNat).Sublist (to.map Int.toNat):=by
  have:((to.zip l).map λ r=>r.1.toNat)=((to.zip l).map Prod.fst).map Int.toNat:=by rw[dZ];rfl
  rw[this]
  refine List.Sublist.map _ ?_
  exact Gq to l
 exact hnd.sublist hsub
theorem F1(h:Perm n to){a b:List α}(ha:a.length=n)(hb:b.length=n)(hab:∀i,i<n→a[(to.getD i 0).toNat]? =b[(to.getD i 0).toNat]?):a=b:=by
 refine cz λ k=> ?_
 rcases aC k n with hk|hk
 ·obtain⟨i,hi,e⟩:=h.surj hk
  have:=hab i hi
  rw[e]at this
  simpa using this
 ·rw[bm (by omega),bm (by omega)]
theorem FZ(h:Perm n to)(hl:l.length=n){i:Nat}(hi:i<n){v:α}:Eu d to (l.set i v)=(Eu d to l).set (to.getD i 0).toNat v:=by
 refine F1 h (by rw[EJ,h.len]) (by rw[aH,EJ,h.len]) λ j hj=> ?_
 rcases Nat.decEq i j with e|e
 ·have ht:(to.getD i 0).toNat≠(to.getD j 0).toNat:=λ ht=>by
   have h1:=h.at_ hi
   have h2:=h.at_ hj
   exact e (h.inj hi hj (by omega))
  rw[aD ht]
  obtain⟨x,hx⟩:∃x,l[j]? =some x:=⟨_,ap (by omega)⟩
  rw[EH h hx hj,EH h (x:=x) (by rw[aD e];exact hx) hj]
 ·subst e
  have h1:=h.at_ hi
  rw[EH h (x:=v) (by rw[aT (by omega)]) hi,aT (by rw[EJ,h.len];omega)]
theorem scat_inj(h:Perm n to){a b:List α}(ha:a.length=n)(hb:b.length=n)(e:Eu d to a=Eu d to b):a=b:=by
 refine cz λ i=> ?_
 rcases aC i n with hi|hi
 ·obtain⟨x,hx⟩:∃x,a[i]? =some x:=⟨_,ap (by omega)⟩
  obtain⟨y,hy⟩:∃y,b[i]? =some y:=⟨_,ap (by omega)⟩
  have h1:=EH (d:=d) h hx hi
  have h2:=EH (d:=d) h hy hi
  rw[e,h2]at h1
  rw[hx,hy,h1]
 ·rw[bm (by omega),bm (by omega)]
theorem Ff(h:Perm n to)(hl:l.length=n){c:Int}(hc:0≤c∧c<n)(d2:α):(Eu d to l).getD (mv to c).toNat d2=l.getD c.toNat d2:=by
 rw[EW h hc]
 obtain⟨x,hx⟩:∃x,l[c.toNat]? =some x:=⟨_,ap (by omega)⟩
 rw[au,EH h hx (by omega),au,hx]
end
mutual
def Ex.ren(to:List Int):Ex→Ex
 | .mk o w n k=> .mk o w (if o=2∨o=3 then mv to n else n) (ix to k)
def ix(to:List Int):List Ex→List Ex
 |[]=>[]
 |e::r=>e.ren to::ix to r
end
theorem F6(to:List Int):∀l:List Ex,ix to l=l.map (Ex.ren to)
 |[]=>rfl
 |e::r=>by rw[ix,F6 to r];rfl
section
variable {to:List Int}
theorem ER(e:Ex):(e.ren to).op=e.op:=by cases e;rfl
theorem E5(e:Ex):(e.ren to).w=e.w:=by cases e;rfl
theorem E6(e:Ex):(e.ren to).n=if e.op=2∨e.op=3 then mv to e.n else e.n:=by cases e;rfl
theorem ED(e:Ex):(e.ren to).kids=e.kids.map (Ex.ren to):=by cases e;simp only[Ex.ren,Ex.kids,F6]
theorem EF:∀(n:Nat) (e:Ex),e.nodes≤n→(e.ren to).nodes=e.nodes
 |0,e,h=>by rw[Ex.nodes_eq]at h;omega
 |n+1,e,h=>by
  rw[Ex.nodes_eq,Ex.nodes_eq e,ED,dZ]
  rw[Ex.nodes_eq]at h
  congr 2
  refine dz λ k hk=> ?_
  refine EF n k ?_
  have:k.nodes≤(e.kids.map Ex.nodes).sum:=by
   have:∀{l:List Nat} {x:Nat},x∈l→x≤l.sum:=by
    intro l
    induction l with
    |nil=>intro x hx;cases hx
    |cons a l ih=>
     intro x hx
     rw[Ey]
     rcases aV.1 hx with rfl|hx
     ·omega
     ·have:=ih hx;omega
   exact this (aI.2 ⟨k,hk,rfl⟩)
  omega
theorem ren_kw(e:Ex)(i:Nat):(e.ren to).kw i=e.kw i:=by
 unfold Ex.kw
 rw[ED,au,aN,au]
 cases e.kids[i]? with
 |none=>rfl
 |some k=>exact E5 k
end
end Go.Proofs.YtdpdbokicanpoaaGreatDoor
end
section
namespace Go.Proofs.YtdpdbokicanpoaaGreatDoor
def EE(n:Nat)(to fr:List Int):List Int:=((List.range n).filter λ k:Nat=>(fr.map (mv to)).contains (k:Int)).map λ k:Nat=>(k:Int)
def Ctr.ren(n:Nat)(to:List Int)(m:Ctr):Ctr:=⟨m.name,m.owner,m.rely.ren to,m.guar.ren to,EE n to m.frame⟩
def Lck.ren(to:List Int)(l:Lck):Lck:=⟨mv to l.cell,l.inv.ren to,l.mod⟩
def Asg.ren(to:List Int)(a:Asg):Asg:=⟨mv to a.cell,a.to.ren to⟩
def Stp.ren(to:List Int)(s:Stp):Stp:=⟨s.kind,s.src,s.dst,s.guard.ren to,s.set.map (Asg.ren to),s.rel,s.target,s.mod⟩
def Lop.ren(to:List Int)(l:Lop):Lop:=⟨l.head,l.body,l.var.ren to⟩
def Thr.ren(to:List Int)(x:Thr):Thr:=⟨x.name,x.points,x.asserts.map (Ex.ren to),x.mods,x.steps.map (Stp.ren to),x.loops.map (Lop.ren to),x.asleep⟩
def Prg.ren(p:Prg)(to:List Int):Prg:=⟨Eu fU to p.cells,p.modules.map (Ctr.ren p.cells.length to),p.locks.map (Lck.ren to),p.threads.map (Thr.ren to)⟩
section
variable {p:Prg} {to:List Int}
theorem EN(h:Perm p.cells.length to):(p.ren to).cells.length=p.cells.length:=by
 show(Eu fU to p.cells).length=_
 rw[EJ,h.len]
theorem EI(h:Perm p.cells.length to){c:Int}(hc:0≤c∧c<p.cells.length):(p.ren to).cell (mv to c)=p.cell c:=Ff h rfl hc fU
theorem inB_ren(h:Perm p.cells.length to){c:Int}(hc:0≤c∧c<p.cells.length):kj (mv to c) (p.ren to).cells.length=true:=by
 rw[cS,EN h]
 exact EV h hc
theorem EQ(h:Perm p.cells.length to){c:Int}(hc:p.shB c=true):(p.ren to).shB (mv to c)=true:=by
 rw[eJ]at hc ⊢
 rw[EI h hc.1,EN h]
 exact⟨EV h hc.1,hc.2⟩
theorem owB_ren(h:Perm p.cells.length to){t c:Int}(hc:p.owB t c=true):(p.ren to).owB t (mv to c)=true:=by
 rw[gB]at hc ⊢
 rw[EI h hc.1,EN h]
 exact⟨EV h hc.1,hc.2⟩
theorem FO(h:Perm p.cells.length to){t c:Int}(hc:p.viB t c=true):(p.ren to).viB t (mv to c)=true:=by
 rw[jT]at hc ⊢
 rw[EI h hc.1,EN h]
 exact⟨EV h hc.1,hc.2⟩
theorem xu{e:Ex}(h:e.fits=true)(ho:e.op=2∨e.op=3):0≤e.n∧e.n<32:=by
 simp only[Ex.fits,aB,av]at h
 have h2:=h.2
 rw[if_neg (by omega),if_pos ho,av]at h2
 exact h2
theorem Fs{cells:List Cel}{pair:Bool}{e:Ex}(h:e.overN cells pair=true)(ho:e.op=2∨e.op=3):e.n<cells.length∧(cells.getD e.n.toNat fU).w=e.w:=by
 simp only[Ex.overN,aB,bQ,dw,bA,ck,ay,bne_eq_false_iff_eq]at h
 rcases h.2 with h|h
 ·rcases ho with ho|ho
  ·exact absurd ho h.2
  ·exact absurd ho h.1
 ·exact⟨by omega,h.2⟩
theorem fits_ren(h:Perm p.cells.length to)(h32:p.cells.length≤32){pair:Bool}{e:Ex}(hf:e.fits=true)(ho:e.overN p.cells pair=true):(e.ren to).fits=true:=by
 have hn:=xu hf
 have hov:=Fs ho
 simp only[Ex.fits,aB,av,ER,E5,ED,ac,ren_kw,E6]at hf ⊢
 refine⟨hf.1,?_⟩
 have h2:=hf.2
 by_cases o:e.op=2∨e.op=3
 ·rw[if_neg (by omega),if_pos o,av,if_pos o]
  have h3:=EV h (c:=e.n) ⟨(hn o).1,(hov o).1⟩
  omega
 ·rw[if_neg o]
  exact h2
theorem GH(h:Perm p.cells.length to){pair:Bool}{e:Ex}(hf:e.fits=true)(ho:e.overN p.cells pair=true):(e.ren to).overN (p.ren to).cells pair=true:=by
 have hn:=xu hf
 have hov:=Fs ho
 by_cases o:e.op=2∨e.op=3
 ·have h1:0≤e.n∧e.n<p.cells.length:=⟨(hn o).1,(hov o).1⟩
  have h3:=EV h h1
  have h4:=EI h h1
  unfold Prg.cell at h4
  simp only[Ex.overN,ER,E5,E6,if_pos o,h4,EN h,(hov o).2]at ho ⊢
  have d1:decide ((p.cells.length:Int)≤mv to e.n)=false:=by simp;omega
  have d2:decide ((p.cells.length:Int)≤e.n)=false:=by simp;omega
  rw[d1];rw[d2]at ho
  exact ho
 ·have o2:(e.op==3)=false:=by simp;omega
  have o3:(e.op==2)=false:=by simp;omega
  simp only[Ex.overN,ER,o2,o3,Ew,fj,eC,hH]
theorem Gm(h:Perm p.cells.length to)(h32:p.cells.length≤32){pair:Bool}:∀(l:Nat) (e:Ex),e.deep l=true→e.over p.cells pair=true→(e.ren to).deep l=true∧(e.ren to).over (p.ren to).cells pair=true
 |0,e,hd,_=>by simp [Ex.deep]at hd
 |l+1,e,hd,ho=>by
  have hk:∀k∈e.kids,k.deep l=true:=λ k hk=>jc hd hk
  simp only[Ex.deep,aB,aZ]at hd ⊢
  rw[Ex.over_eq,aB,aZ]at ho ⊢
  refine⟨⟨fits_ren h h32 hd.1 ho.1,λ k hk'=> ?_⟩,GH h hd.1 ho.1,λ k hk'=> ?_⟩
  ·rw[ED]at hk'
   obtain⟨k,hk2,rfl⟩:=aI.1 hk'
   exact(Gm h h32 l k (hk k hk2) (ho.2 k hk2)).1
  ·rw[ED]at hk'
   obtain⟨k,hk2,rfl⟩:=aI.1 hk'
   exact(Gm h h32 l k (hk k hk2) (ho.2 k hk2)).2
theorem EZ(h:Perm p.cells.length to)(h32:p.cells.length≤32){pair:Bool}{e:Ex}(hv:e.valid p.cells pair=true):(e.ren to).valid (p.ren to).cells pair=true:=by
 rw[Ex.valid_iff]at hv ⊢
 rw[EF _ e (aE _)]
 obtain⟨h1,h2⟩:=Gm h h32 40 e hv.2.1 hv.2.2
 exact⟨hv.1,h1,h2⟩
theorem Gg{f g:Int→Bool}(hfg:∀c,f c=true→g (mv to c)=true):∀(n:Nat) (e:Ex),e.nodes≤n→e.allB f=true→(e.ren to).allB g=true
 |0,e,hn,_=>by rw[Ex.nodes_eq]at hn;omega
 |n+1,e,hn,h=>by
  rw[Ex.nodes_eq]at hn
  rw[Ex.allB_eq,aB,aZ]at h ⊢
  refine⟨?_,λ k hk=> ?_⟩
  ·rw[ER,E6]
   by_cases o:e.op=2∨e.op=3
   ·have ob:(e.op==2||e.op==3)=true:=by simpa using o
    have h1:=h.1
    rw[ob]at h1 ⊢
    rw[if_pos o]
    exact hfg _ (by simpa using h1)
   ·have ob:(e.op==2||e.op==3)=false:=by simpa [not_or]using o
    rw[ob];rfl
  ·rw[ED]at hk
   obtain⟨k,hk2,rfl⟩:=aI.1 hk
   refine Gg hfg n k ?_ (h.2 k hk2)
   have:k.nodes≤(e.kids.map Ex.nodes).sum:=by
    have:∀{l:List Nat} {x:Nat},x∈l→x≤l.sum:=by
     intro l
     induction l with
     |nil=>intro x hx;cases hx
     |cons a l ih=>
      intro x hx
      rw[Ey]
      rcases aV.1 hx with rfl|hx
      ·omega
      ·have:=ih hx;omega
    exact this (aI.2 ⟨k,hk2,rfl⟩)
   omega
theorem EB{f g:Int→Bool}(hfg:∀c,f c=true→g (mv to c)=true){e:Ex}(h:e.allB f=true):(e.ren to).allB g=true:=Gg hfg _ e (aE _) h
theorem E9(h:Perm p.cells.length to)(h32:p.cells.length≤32){pair:Bool}{f g:Int→Bool}(hfg:∀c,f c=true→g (mv to c)=true){e:Ex}(ht:p.truB e pair f=true):(p.ren to).truB (e.ren to) pair g=true:=by
 simp only[Prg.truB,aB,av,E5]at ht ⊢
 exact⟨⟨ht.1.1,EZ h h32 ht.1.2⟩,EB hfg ht.2⟩
theorem Gp{e:Ex}(h:e.absent=true):(e.ren to).absent=true:=by
 simp only[Ex.absent,aB,cg,ER,E5,E6,ED,List.isEmpty_map]at h ⊢
 refine⟨⟨⟨h.1.1.1,h.1.1.2⟩,?_⟩,h.2⟩
 rw[if_neg (by omega)];exact h.1.2
theorem FR{e:Ex}(h:e.one=true):(e.ren to).one=true:=by
 simp only[Ex.one,aB,cg,ER,E5,E6,ED,List.isEmpty_map]at h ⊢
 refine⟨⟨⟨h.1.1.1,h.1.1.2⟩,?_⟩,h.2⟩
 rw[if_neg (by omega)];exact h.1.2
theorem GO(h:Perm p.cells.length to){fr:List Int}(hfr:∀c∈fr,0≤c∧c<p.cells.length){k:Int}:k∈EE p.cells.length to fr↔∃c∈fr,mv to c=k:=by
 simp only[EE,aI,eZ,eT,dv]
 constructor
 ·rintro⟨n,⟨h1,c,hc,e⟩,rfl⟩
  exact⟨c,hc,e⟩
 ·rintro⟨c,hc,rfl⟩
  have:=EV h (hfr c hc)
  exact⟨(mv to c).toNat,⟨by omega,c,hc,by omega⟩,by omega⟩
theorem Gl(n:Nat)(to fr:List Int):qE (EE n to fr):=by
 unfold qE EE
 rw[List.pairwise_map]
 exact(List.pairwise_lt_range.sublist List.filter_sublist).imp λ h=>by omega
theorem GP(n:Nat)(to fr:List Int):(EE n to fr).length≤n:=by
 unfold EE
 rw[ac]
 exact Es (ez _ _) (by simp)
theorem FK{α β:Type}{f:α→β}{l:List α}(h:l.Nodup)(hf:∀a∈l,∀b∈l,f a=f b→a=b):(l.map f).Nodup:=by
 induction l with
 |nil=>simp
 |cons a l ih=>
  rw[cR]at h
  rw[aM,cR]
  refine⟨λ hm=> ?_,ih h.2 λ x hx y hy=>hf x (by simp [hx]) y (by simp [hy])⟩
  obtain⟨b,hb,e⟩:=aI.1 hm
  exact h.1 (hf b (by simp [hb]) a (by simp) e▸hb)
theorem set_ren(h:Perm p.cells.length to){l:List Asg}(hl:∀a∈l,AsgOk p a)(hn:(l.map Asg.cell).Nodup):((l.map (Asg.ren to)).map Asg.cell).Nodup:=by
 have e:(l.map (Asg.ren to)).map Asg.cell=(l.map Asg.cell).map (mv to):=by rw[dZ,dZ];rfl
 rw[e]
 refine FK hn λ a ha b hb hab=> ?_
 obtain⟨x,hx,rfl⟩:=aI.1 ha
 obtain⟨y,hy,rfl⟩:=aI.1 hb
 exact FSm h (cS.1 (hl x hx).cell) (cS.1 (hl y hy).cell) hab
theorem kind_ren(h:Perm p.cells.length to){t:Int}{s:Stp}(hset:∀a∈s.set,AsgOk p a)(hk:jR p t s):jR (p.ren to) t (s.ren to):=by
 have ow:∀c,p.owB t c=true→(p.ren to).owB t (mv to c)=true:=λ c hc=>owB_ren h hc
 have vi:∀c,p.viB t c=true→(p.ren to).viB t (mv to c)=true:=λ c hc=>FO h hc
 have Ep:∀c:Int,(0≤c∧c<p.cells.length)→((p.ren to).cell (mv to c)).ghost=(p.cell c).ghost:=λ c hc=>by rw[EI h hc]
 have hth:(p.ren to).threads.length=p.threads.length:=by simp [Prg.ren]
 have hm:∀{b:Asg},b∈s.set.map (Asg.ren to)→∃a∈s.set,a.ren to=b:=λ hb=>aI.1 hb
 rcases hk with hk|hk|hk|hk|hk|hk|hk
 ·refine .inl ⟨hk.1,EB ow hk.2.1,λ b hb=> ?_⟩
  obtain⟨a,ha,rfl⟩:=hm hb
  exact⟨EB ow (hk.2.2 a ha).1,ow _ (hk.2.2 a ha).2⟩
 ·obtain⟨k1,k2,a,r,e,k3,k4,k5,k6,Ec,Ea⟩:=hk
  refine .inr (.inl ⟨k1,EB ow k2,a.ren to,r.map (Asg.ren to),by simp only[Stp.ren];rw[e];rfl,ow _ k3,?_,?_,?_,?_,λ b hb=> ?_⟩)
  ·show((p.ren to).cell (mv to a.cell)).ghost=false
   rw[Ep _ (gB.1 k3).1];exact k4
  ·show(a.to.ren to).op=2
   rw[ER];exact k5
  ·show(p.ren to).shB (a.to.ren to).n=true
   rw[E6,if_pos (.inl k5)];exact EQ h k6
  ·show((p.ren to).cell (a.to.ren to).n).ghost=false
   rw[E6,if_pos (.inl k5),Ep _ (eJ.1 k6).1];exact Ec
  ·obtain⟨b,hb2,rfl⟩:=aI.1 hb
   obtain⟨g1,g2,g3⟩:=Ea b hb2
   refine⟨ow _ g1,?_,EB ow g3⟩
   show((p.ren to).cell (mv to b.cell)).ghost=true
   rw[Ep _ (gB.1 g1).1];exact g2
 ·obtain⟨k1,k2,k3,a,r,e,k4,k5,k6⟩:=hk
  refine .inr (.inr (.inl ⟨k1,EB ow k2,λ b hb=> ?_,a.ren to,r.map (Asg.ren to),by simp only[Stp.ren];rw[e];rfl,EQ h k4,?_,λ b hb=> ?_⟩))
  ·obtain⟨a,ha,rfl⟩:=hm hb
   exact EB ow (k3 a ha)
  ·show((p.ren to).cell (mv to a.cell)).ghost=false
   rw[Ep _ (eJ.1 k4).1];exact k5
  ·obtain⟨b,hb2,rfl⟩:=aI.1 hb
   obtain⟨g1,g2⟩:=k6 b hb2
   refine⟨?_,vi _ g2⟩
   show((p.ren to).cell (mv to b.cell)).ghost=true
   rw[Ep _ (jT.1 g2).1];exact g1
 ·refine .inr (.inr (.inr (.inl ⟨hk.1,EB vi hk.2.1,λ b hb=> ?_⟩)))
  obtain⟨a,ha,rfl⟩:=hm hb
  exact⟨EB vi (hk.2.2 a ha).1,vi _ (hk.2.2 a ha).2⟩
 ·exact .inr (.inr (.inr (.inr (.inl ⟨hk.1,FR hk.2.1,by simp only[Stp.ren];rw[hk.2.2];rfl⟩))))
 ·obtain⟨k1,k2,k3,k4,k5,k6⟩:=hk
  refine .inr (.inr (.inr (.inr (.inr (.inl ⟨k1,FR k2,by simp only[Stp.ren];rw[k3];rfl,by rw[hth];exact k4,k5,?_⟩)))))
  simp only[Prg.ren,Stp.ren]
  rw[au,aN]
  rw[au]at k6
  cases e:p.threads[s.target.toNat]? with
  |none=>rw[e]at k6;exact k6
  |some x=>rw[e]at k6;exact k6
 ·obtain⟨k1,k2,k3,k4,k5⟩:=hk
  exact .inr (.inr (.inr (.inr (.inr (.inr ⟨k1,FR k2,by simp only[Stp.ren];rw[k3];rfl,by rw[hth];exact k4,k5⟩)))))
theorem GG(h:Perm p.cells.length to)(hs:p.Small):(p.ren to).Small where
 ncel:=by rw[EN h];exact hs.ncel
 nmod:=by simp only[Prg.ren,ac];exact hs.nmod
 nlck:=by simp only[Prg.ren,ac];exact hs.nlck
 nthr:=by simp only[Prg.ren,ac];exact hs.nthr
 modules m hm:=by
  obtain⟨x,hx,rfl⟩:=aI.1 hm
  obtain⟨h1,h2,h3⟩:=hs.modules x hx
  refine⟨Es (GP ..) hs.ncel,?_,?_⟩
  ·show(x.rely.ren to).nodes≤40
   rw[EF _ _ (aE _)];exact h2
  ·show(x.guar.ren to).nodes≤40
   rw[EF _ _ (aE _)];exact h3
 locks l hl:=by
  obtain⟨x,hx,rfl⟩:=aI.1 hl
  show(x.inv.ren to).nodes≤40
  rw[EF _ _ (aE _)];exact hs.locks x hx
 threads y hy:=by
  obtain⟨x,hx,rfl⟩:=aI.1 hy
  have k:=hs.threads x hx
  refine⟨k.points,by simp only[Thr.ren,ac];exact k.nas,k.nmo,by simp only[Thr.ren,ac];exact k.nst,by simp only[Thr.ren,ac];exact k.nlo,λ e he=> ?_,λ l hl=> ?_,λ s hs=> ?_⟩
  ·obtain⟨e,he2,rfl⟩:=aI.1 he
   rw[EF _ _ (aE _)];exact k.asserts e he2
  ·obtain⟨l,hl2,rfl⟩:=aI.1 hl
   refine⟨(k.loops l hl2).1,?_⟩
   show(l.var.ren to).nodes≤40
   rw[EF _ _ (aE _)];exact(k.loops l hl2).2
  ·obtain⟨s,hs2,rfl⟩:=aI.1 hs
   have q:=k.steps s hs2
   refine⟨?_,by simp only[Stp.ren,ac];exact q.set,λ a ha=> ?_⟩
   ·show(s.guard.ren to).nodes≤40
    rw[EF _ _ (aE _)];exact q.guard
   ·obtain⟨a,ha2,rfl⟩:=aI.1 ha
    show(a.to.ren to).nodes≤40
    rw[EF _ _ (aE _)];exact q.to a ha2
theorem F0{α:Type}{d:α}{n:Nat}(h:Perm n to){l:List α}(hl:l.length=n){x:α}(hx:x∈Eu d to l):x∈l:=by
 obtain⟨k,hk,rfl⟩:=bF hx
 rw[EJ,h.len]at hk
 obtain⟨i,hi,e⟩:=h.surj hk
 have hi2:i<l.length:=by omega
 have:=EH (d:=d) h (ap hi2) hi
 rw[e]at this
 simp only[ad]at this
 obtain⟨_,e2⟩:=aA.1 this
 rw[e2]
 exact bI hi2
theorem Da{α:Type}{l:List α}:l.Nodup↔∀(i j:Nat) (x:α),l[i]? =some x→l[j]? =some x→i=j:=by
 constructor
 ·intro h i j x hi hj
  obtain⟨hi1,hi2⟩:=aA.1 hi
  obtain⟨hj1,hj2⟩:=aA.1 hj
  exact(List.getElem_inj h).1 (hi2.trans hj2.symm)
 ·induction l with
  |nil=>intro _;simp
  |cons a l ih=>
   intro h
   rw[cR]
   refine⟨λ hm=> ?_,ih λ i j x hi hj=>by
    have:=h (i+1) (j+1) x (by simpa using hi) (by simpa using hj)
    omega⟩
   obtain⟨i,hi,e⟩:=bF hm
   have:=h 0 (i+1) a rfl (by simp [ap hi,e])
   omega
theorem GI(h:Perm p.cells.length to)(hn:(p.cells.map Cel.name).Nodup):((p.ren to).cells.map Cel.name).Nodup:=by
 rw[Da]at hn ⊢
 have key:∀(i:Nat) (x:List UInt8),((p.ren to).cells.map Cel.name)[i]? =some x→∃j,j<p.cells.length∧to.getD j 0=i∧(p.cells.map Cel.name)[j]? =some x:=λ i x hx=>by
  have hi:i<p.cells.length:=by
   have:=(aA.1 hx).1
   rw[ac,EN h]at this
   exact this
  obtain⟨j,hj,e⟩:=h.surj hi
  refine⟨j,hj,e,?_⟩
  have:=EH (d:=fU) h (ap hj) hj
  rw[e]at this
  simp only[ad]at this
  rw[aN]at hx ⊢
  rw[show(p.ren to).cells=Eu fU to p.cells from rfl,this]at hx
  rw[ap hj]
  exact hx
 intro i j x hi hj
 obtain⟨a,ha,ea,ka⟩:=key i x hi
 obtain⟨b,hb,eb,kb⟩:=key j x hj
 have:=hn a b x ka kb
 subst this
 omega
theorem ok_ren(h:Perm p.cells.length to)(hs:p.Small)(hp:p.Ok):(p.ren to).Ok:=by
 have h32:p.cells.length≤32:=by have:=hs.ncel;omega
 have hth:(p.ren to).threads.length=p.threads.length:=by simp [Prg.ren]
 have hmo:(p.ren to).modules.length=p.modules.length:=by simp [Prg.ren]
 refine⟨λ c hc=> ?_,GI h hp.cnames,λ m hm=> ?_,?_,λ l hl=> ?_,?_,λ t x hx=> ?_,?_⟩
 ·have:=hp.cells c (F0 h rfl hc)
  exact⟨this.name,this.w,this.init,by rw[hth];exact this.thread,by rw[hmo];exact this.mod⟩
 ·obtain⟨x,hx,rfl⟩:=aI.1 hm
  have k:=hp.modules x hx
  have hfr:∀c∈x.frame,0≤c∧c<p.cells.length:=λ c hc=>(eJ.1 (k.frame c hc)).1
  refine⟨k.name,k.owner,?_,E9 h h32 (λ c hc=>EQ h hc) k.guar,λ c hc=> ?_,Gl ..⟩
  ·rcases k.rely with h1|h1
   ·exact .inl (Gp h1)
   ·exact .inr (E9 h h32 (λ c hc=>EQ h hc) h1)
  ·obtain⟨d,hd,rfl⟩:=(GO h hfr).1 hc
   exact EQ h (k.frame d hd)
 ·show((p.modules.map (Ctr.ren p.cells.length to)).map Ctr.name).Nodup
  rw[dZ];exact hp.mnames
 ·obtain⟨x,hx,rfl⟩:=aI.1 hl
  have k:=hp.locks x hx
  have kc:=(eJ.1 k.cell).1
  refine⟨EQ h k.cell,?_,?_,by rw[hmo];exact k.mod,E9 h h32 (λ c hc=>EQ h hc) k.inv⟩
  ·show((p.ren to).cell (mv to x.cell)).w=1
   rw[EI h kc];exact k.w
  ·show((p.ren to).cell (mv to x.cell)).ghost=false
   rw[EI h kc];exact k.real
 ·show((p.locks.map (Lck.ren to)).map Lck.cell).Nodup
  have e:(p.locks.map (Lck.ren to)).map Lck.cell=(p.locks.map Lck.cell).map (mv to):=by rw[dZ,dZ];rfl
  rw[e]
  refine FK hp.lcells λ a ha b hb hab=> ?_
  obtain⟨x,hx,rfl⟩:=aI.1 ha
  obtain⟨y,hy,rfl⟩:=aI.1 hb
  exact FSm h (eJ.1 (hp.locks x hx).cell).1 (eJ.1 (hp.locks y hy).cell).1 hab
 ·simp only[Prg.ren,aN,bj]at hx
  obtain⟨y,hy,rfl⟩:=hx
  have k:=hp.threads t y hy
  refine⟨k.name,k.points,by simp only[Thr.ren,ac];exact k.nas,k.nmo,λ m hm=>by rw[hmo];exact k.mods m hm,λ e he=> ?_,λ s hs=> ?_,λ l hl=> ?_⟩
  ·obtain⟨e,he2,rfl⟩:=aI.1 he
   exact E9 h h32 (λ c hc=>FO h hc) (k.asserts e he2)
  ·obtain⟨s,hs2,rfl⟩:=aI.1 hs
   have q:=k.steps s hs2
   refine⟨q.src,q.dst,by rw[hmo];exact q.mod,q.rel,q.target,by show(s.guard.ren to).w=1;rw[E5];exact q.gw,EZ h h32 q.guard,λ a ha=> ?_,set_ren h q.set q.nodup,kind_ren h q.set q.kind⟩
   obtain⟨a,ha2,rfl⟩:=aI.1 ha
   have r:=q.set a ha2
   have rc:=cS.1 r.cell
   refine⟨inB_ren h rc,?_,EZ h h32 r.to⟩
   show(a.to.ren to).w=((p.ren to).cell (mv to a.cell)).w
   rw[E5,EI h rc];exact r.w
  ·obtain⟨l,hl2,rfl⟩:=aI.1 hl
   have q:=k.loops l hl2
   exact⟨q.head,q.rise,q.body,EZ h h32 q.var,EB (λ c hc=>FO h hc) q.over⟩
 ·show((p.threads.map (Thr.ren to)).map Thr.name).Nodup
  rw[dZ];exact hp.tnames
end
end Go.Proofs.YtdpdbokicanpoaaGreatDoor
end
section
namespace Go.Proofs.YtdpdbokicanpoaaGreatDoor
def Ent.ren(to:List Int)(e:Ent):Ent:=⟨e.cells.map (mv to),e.vals⟩
def Cfg.ren(to:List Int)(c:Cfg):Cfg:=⟨Eu 0 to c.mem,c.pos,c.buf.map λ l=>l.map (Ent.ren to)⟩
def Cho.ren(to:List Int)(x:Cho):Cho:=⟨x.thread,x.step,if x.step= -1 then mv to x.cell else x.cell⟩
section
variable {p:Prg} {to:List Int}
theorem ev_ren{old now:List Int}{pair:Bool}(h:Perm p.cells.length to)(ho:old.length=p.cells.length)(hn:now.length=p.cells.length):∀(l:Nat) (e:Ex),e.deep l=true→e.over p.cells pair=true→kF (Eu 0 to old) (Eu 0 to now) (e.ren to)=kF old now e
 |0,e,hd,_=>by simp [Ex.deep]at hd
 |l+1,e,hd,hov=>by
  have hk:∀k∈e.kids,k.deep l=true:=λ k hk=>jc hd hk
  simp only[Ex.deep,aB]at hd
  rw[Ex.over_eq,aB,aZ]at hov
  have ih:(e.ren to).kids.map (kF (Eu 0 to old) (Eu 0 to now))=e.kids.map (kF old now):=by
   rw[ED,dZ]
   exact dz λ k hk'=>ev_ren h ho hn l k (hk k hk') (hov.2 k hk')
  rw[Bn,Bn old now e,ih,ER,E5,E6]
  by_cases o:e.op=2∨e.op=3
  ·have h1:0≤e.n∧e.n<p.cells.length:=⟨(xu hd.1 o).1,(Fs hov.1 o).1⟩
   rw[if_pos o]
   rcases o with o|o
   ·simp only[ss,o,Int.reduceEq,if_false,if_true]
    rw[Ff h hn h1]
   ·simp only[ss,o,Int.reduceEq,if_false,if_true]
    rw[Ff h ho h1]
  ·rw[if_neg o]
   have o2:¬e.op=2:=λ q=>o (.inl q)
   have o3:¬e.op=3:=λ q=>o (.inr q)
   simp only[ss,if_neg o2,if_neg o3]
theorem FU{v:List Int}{pair:Bool}(h:Perm p.cells.length to)(hv:v.length=p.cells.length){e:Ex}(he:e.valid p.cells pair=true):mu (Eu 0 to v) (e.ren to)=mu v e:=by
 rw[Ex.valid_iff]at he
 unfold mu
 rw[ev_ren h hv hv 40 e he.2.1 he.2.2]
theorem Gc(h:Perm p.cells.length to):∀{ps:List (Int×Int)} {mem:List Int},mem.length=p.cells.length→(∀q∈ps,0≤q.1∧q.1<p.cells.length)→(ps.map λ q=>(mv to q.1,q.2)).foldl (λ m q=>m.set q.1.toNat q.2) (Eu 0 to mem)=Eu 0 to (ps.foldl (λ m q=>m.set q.1.toNat q.2) mem)
 |[],_,_,_=>rfl
 |q::ps,mem,hm,hq=>by
  have h1:=hq q (by simp)
  rw[aM,cc,cc]
  simp only
  rw[EW h h1,←FZ h hm (by omega)]
  exact Gc h (by rw[aH];exact hm) λ r hr=>hq r (by simp [hr])
theorem sF(mem:List Int)(e:Ent):(oI mem e).length=mem.length:=by
 unfold oI
 have:∀(ps:List (Int×Int)) (m:List Int),(ps.foldl (λ m q=>m.set q.1.toNat q.2) m).length=m.length:=by
  intro ps
  induction ps with
  |nil=>intro m;rfl
  |cons q ps ih=>intro m;rw[cc,ih,aH]
 exact this _ _
theorem E2{e:Ent}(he:EntOk p e):∀c∈e.cells,0≤c∧c<p.cells.length:=λ c hc=>by
 obtain⟨i,hi,rfl⟩:=bF hc
 exact(eJ.1 (he.cell i _ (ap hi)).1).1
theorem Gr(h:Perm p.cells.length to){mem:List Int}(hm:mem.length=p.cells.length){e:Ent}(he:EntOk p e):oI (Eu 0 to mem) (e.ren to)=Eu 0 to (oI mem e):=by
 unfold oI Ent.ren
 have:(e.cells.map (mv to)).zip e.vals=(e.cells.zip e.vals).map λ q=>(mv to q.1,q.2):=by
  rw[List.zip_map_left];rfl
 rw[this]
 exact Gc h hm λ q hq=>E2 he _ (List.of_mem_zip hq).1
theorem FL(h:Perm p.cells.length to):∀{l:List Ent} {mem:List Int},mem.length=p.cells.length→(∀e∈l,EntOk p e)→(l.map (Ent.ren to)).foldl oI (Eu 0 to mem)=Eu 0 to (l.foldl oI mem)
 |[],_,_,_=>rfl
 |e::l,mem,hm,hl=>by
  rw[aM,cc,cc,Gr h hm (hl e (by simp))]
  exact FL h (by rw[sF];exact hm) λ r hr=>hl r (by simp [hr])
theorem EG(c:Cfg)(t:Nat):(c.ren to).bufAt t=(c.bufAt t).map (Ent.ren to):=by
 unfold Cfg.bufAt Cfg.ren
 rw[au,aN,au]
 cases c.buf[t]? <;> rfl
theorem FW(h:Perm p.cells.length to){m:Int}{c:Cfg}(hf:Fits p m c)(t:Nat):cT (c.ren to) t=Eu 0 to (cT c t):=by
 unfold cT
 rw[EG]
 exact FL h hf.mem.len (hf.bufOk t).2
theorem Fc(l:List Ent)(i:Nat):(l.map (Ent.ren to)).getD i cD=(l.getD i cD).ren to:=by
 rw[au,aN,au]
 cases l[i]? <;> rfl
theorem hits_ren(h:Perm p.cells.length to){l:List Ent}(hl:∀e∈l,EntOk p e){e:Ent}(he:EntOk p e):nA (l.map (Ent.ren to)) (e.ren to)=nA l e:=by
 rw[dD]
 unfold nA
 simp only[d8,aI,Ent.ren,dv]
 constructor
 ·rintro⟨_,⟨o,ho,rfl⟩,_,⟨c,hc,rfl⟩,hm⟩
  obtain⟨d,hd,e2⟩:=aI.1 hm
  have:=FSm h (E2 (hl o ho) d hd) (E2 he c hc) e2
  subst this
  exact⟨o,ho,d,hc,hd⟩
 ·rintro⟨o,ho,c,hc,hm⟩
  exact⟨_,⟨o,ho,rfl⟩,_,⟨c,hc,rfl⟩,aI.2 ⟨c,hm,rfl⟩⟩
theorem FJ(h:Perm p.cells.length to){m:Int}{l:List Ent}(hl:∀e∈l,EntOk p e){i:Nat}(hi:i<l.length):eL m (l.map (Ent.ren to)) i=eL m l i:=by
 unfold eL
 rw[Fc,←List.map_take,hits_ren h (λ e he=>hl e (dW he)) (hl _ (by rw[au,ap hi];exact bI hi))]
theorem FP(t:Nat):(p.ren to).thr t=(p.thr t).ren to:=by
 unfold Prg.thr Prg.ren
 rw[au,aN,au]
 cases p.threads[t]? <;> rfl
theorem Gt(t i:Nat):(p.ren to).stp t i=(p.stp t i).ren to:=by
 unfold Prg.stp
 rw[FP]
 simp only[Thr.ren]
 rw[au,aN,au]
 cases (p.thr t).steps[i]? with
 |some s=>rfl
 |none=>simp [jY,Stp.ren,zQ,Ex.ren,ix]
theorem GL{m:Int}{c:Cfg}(t:Nat)(s:Stp):mX (p.ren to) m (c.ren to) t (s.ren to)=mX p m c t s:=by
 have hps:(c.ren to).pos=c.pos:=rfl
 unfold mX
 simp only[EG,FP,Stp.ren,Thr.ren,hps,ac,List.isEmpty_map]
theorem enB_ren(h:Perm p.cells.length to)(hp:p.Ok){m:Int}{c:Cfg}(hf:Fits p m c){t i:Nat}(ht:t<p.threads.length)(hi:i<(p.thr t).steps.length):qt (p.ren to) m (c.ren to) t ((p.stp t i).ren to)=qt p m c t (p.stp t i):=by
 unfold qt
 rw[GL,FW h hf]
 show(_&&mu (Eu 0 to (cT c t)) ((p.stp t i).guard.ren to)==1&&_)=_
 rw[FU h (wT hf t).len (qN hp ht hi).guard]
 rfl
theorem Gb(h:Perm p.cells.length to){e:Ent}(hne:e.cells≠[]):(e.ren to).cells.getD 0 0=mv to (e.cells.getD 0 0):=by
 unfold Ent.ren
 cases hc:e.cells with
 |nil=>exact absurd hc hne
 |cons a r=>rfl
theorem FC(h:Perm p.cells.length to)(hp:p.Ok){m:Int}{c:Cfg}(hf:Fits p m c):fY (p.ren to) m (c.ren to)=(fY p m c).map (Cho.ren to):=by
 unfold fY
 rw[List.map_flatMap]
 have hl:(p.ren to).threads.length=p.threads.length:=by simp [Prg.ren]
 rw[hl]
 simp only[List.flatMap_def]
 congr 1
 refine dz λ t ht=> ?_
 rw[eT]at ht
 unfold lH
 rw[aJ]
 congr 1
 ·unfold ti
  have e1:((p.ren to).thr t).steps.length=(p.thr t).steps.length:=by rw[FP];simp [Thr.ren]
  rw[e1,dZ]
  have e2:(List.range (p.thr t).steps.length).filter (λ i=>qt (p.ren to) m (c.ren to) t ((p.ren to).stp t i))=(List.range (p.thr t).steps.length).filter λ i=>qt p m c t (p.stp t i):=by
   refine List.filter_congr λ i hi=> ?_
   rw[Gt,enB_ren h hp hf ht (eT.1 hi)]
  rw[e2]
  refine dz λ i _=> ?_
  show _=Cho.ren to ⟨t,i,0⟩
  unfold Cho.ren
  rw[if_neg (by show¬(i:Int)= -1;omega)]
 ·unfold z7
  rw[EG,ac,dZ]
  have hb:=(hf.bufOk t).2
  have e2:(List.range (c.bufAt t).length).filter (eL m ((c.bufAt t).map (Ent.ren to)))=(List.range (c.bufAt t).length).filter (eL m (c.bufAt t)):=by
   refine List.filter_congr λ i hi=> ?_
   rw[FJ h hb (eT.1 hi)]
  rw[e2]
  refine dz λ i hi=> ?_
  have hi2:=eT.1 (eZ.1 hi).1
  rw[Fc,Gb h (hb _ (by rw[au,ap hi2];exact bI hi2)).pos]
  show _=Cho.ren to ⟨t,-1,_⟩
  unfold Cho.ren
  rw[if_pos rfl]
theorem Fo(h:Perm p.cells.length to){v:List Int}(hv:v.length=p.cells.length):∀{l:List Asg} {mem:List Int},mem.length=p.cells.length→(∀a∈l,AsgOk p a)→gT (Eu 0 to v) (Eu 0 to mem) (l.map (Asg.ren to))=Eu 0 to (gT v mem l)
 |[],_,_,_=>rfl
 |a::l,mem,hm,hl=>by
  have ha:=hl a (by simp)
  have h1:=cS.1 ha.cell
  unfold gT
  rw[aM,cc,cc]
  have e1:(Eu 0 to mem).set (a.ren to).cell.toNat (mu (Eu 0 to v) (a.ren to).to)=Eu 0 to (mem.set a.cell.toNat (mu v a.to)):=by
   show(Eu 0 to mem).set (mv to a.cell).toNat (mu (Eu 0 to v) (a.to.ren to))=_
   rw[FU h hv ha.to,EW h h1,←FZ h hm (by omega)]
  rw[e1]
  exact Fo h hv (by rw[aH];exact hm) λ r hr=>hl r (by simp [hr])
theorem Fz(h:Perm p.cells.length to){l:List Asg}(hl:∀a∈l,AsgOk p a)(f:Int→Bool):(l.map (Asg.ren to)).filter (λ a=>f ((p.ren to).cell a.cell).thread)=(l.filter λ a=>f (p.cell a.cell).thread).map (Asg.ren to):=by
 rw[List.filter_map]
 congr 1
 refine List.filter_congr λ a ha=> ?_
 show f ((p.ren to).cell (mv to a.cell)).thread=_
 rw[EI h (cS.1 (hl a ha).cell)]
theorem exe_ren(h:Perm p.cells.length to)(hp:p.Ok){m:Int}{c:Cfg}(hf:Fits p m c){t i:Nat}(ht:t<p.threads.length)(hi:i<(p.thr t).steps.length):nG (p.ren to) m (c.ren to) t ((p.stp t i).ren to)=(nG p m c t (p.stp t i)).ren to:=by
 have hs:=qN hp ht hi
 obtain⟨s,hst⟩:∃s,p.stp t i=s:=⟨_,rfl⟩
 rw[hst]at hs ⊢
 have hv:=(wT hf t).len
 have hpos:iL (c.ren to) t (s.ren to)=iL c t s:=rfl
 unfold nG
 rw[FW h hf,hpos]
 show(if s.kind=3∧m≠0 then _ else _)=_
 by_cases hk:s.kind=3∧m≠0
 ·rw[if_pos hk,if_pos hk]
  have e1:=Fz h hs.set (λ x=>x != -1)
  have e2:=Fz h hs.set (λ x=>x== -1)
  simp only[Stp.ren,Cfg.ren]
  rw[e1,e2]
  have hs1:∀a∈s.set.filter (λ a=>(p.cell a.cell).thread != -1),AsgOk p a:=λ a ha=>hs.set a (eZ.1 ha).1
  have hs2:∀a∈s.set.filter (λ a=>(p.cell a.cell).thread== -1),AsgOk p a:=λ a ha=>hs.set a (eZ.1 ha).1
  rw[Fo h hv hf.mem.len hs1]
  congr 1
  have hb:=EG (to:=to) c t
  unfold Cfg.ren at hb
  rw[hb,fF,aJ]
  congr 2
  simp only[aM,bq,Ent.ren,dZ]
  congr 1
  congr 1
  refine dz λ a ha=> ?_
  exact FU h hv (hs2 a ha).to
 ·rw[if_neg hk,if_neg hk]
  simp only[Stp.ren,Cfg.ren]
  rw[Fo h hv hf.mem.len hs.set]
theorem Fb{α β:Type}(f:α→β):∀(l:List α) (i:Nat),(l.map f).eraseIdx i=(l.eraseIdx i).map f
 |[],_=>rfl
 |a::l,0=>rfl
 |a::l,i+1=>by simp only[aM,List.eraseIdx_cons_succ,Fb f l i]
theorem comm_ren(h:Perm p.cells.length to){m:Int}{c:Cfg}(hf:Fits p m c){t i:Nat}(hi:i<(c.bufAt t).length):rC (c.ren to) t i=(rC c t i).ren to:=by
 unfold rC
 rw[EG,Fc]
 simp only[Cfg.ren]
 rw[Gr h hf.mem.len ((hf.bufOk t).2 _ (by rw[au,ap hi];exact bI hi)),fF]
 congr 2
 rw[Fb]
theorem F9(h:Perm p.cells.length to)(hp:p.Ok){m:Int}{c:Cfg}(hf:Fits p m c){x:Cho}(hx:x∈fY p m c):fV (p.ren to) m (c.ren to) (x.ren to)=(fV p m c x).ren to:=by
 obtain⟨t,ht,⟨i,hi,he,rfl⟩|⟨i,hi,he,rfl⟩⟩:=l9.1 hx
 ·have e:Cho.ren to ⟨t,i,0⟩=⟨t,i,0⟩:=by unfold Cho.ren;rw[if_neg (by show¬(i:Int)= -1;omega)]
  rw[e,oc,oc,Gt,exe_ren h hp hf ht hi]
 ·have hb:=(hf.bufOk t).2
  have hin:(c.bufAt t).getD i cD∈c.bufAt t:=by rw[au,ap hi];exact bI hi
  rw[qY hf hi he,←comm_ren h hf hi]
  have e:Cho.ren to ⟨t,-1,((c.bufAt t).getD i cD).cells.getD 0 0⟩=⟨t,-1,(((c.ren to).bufAt t).getD i cD).cells.getD 0 0⟩:=by
   unfold Cho.ren
   rw[if_pos rfl,EG,Fc,Gb h (hb _ hin).pos]
  rw[e]
  unfold fV
  rw[if_pos rfl]
  simp only[ad]
  rw[ph (m:=m) (l:=(c.ren to).bufAt t) ?_ ?_ ?_]
  ·intro f hf'
   rw[EG]at hf'
   obtain⟨g,hg,rfl⟩:=aI.1 hf'
   unfold Ent.ren
   simp only[ne_eq,List.map_eq_nil_iff]
   exact(hb g hg).pos
  ·rw[EG,ac];exact hi
  ·rw[EG,FJ h hb hi];exact he
theorem scat_map{α β:Type}{f:α→β}{d:α}(h:Perm p.cells.length to){l:List α}(hl:l.length=p.cells.length):(Eu d to l).map f=Eu (f d) to (l.map f):=by
 refine F1 h (by rw[ac,EJ,h.len]) (by rw[EJ,h.len]) λ i hi=> ?_
 have hx:l[i]? =some l[i]:=ap (by omega)
 rw[aN,EH h hx hi,EH h (x:=f l[i]) (by rw[aN,hx];rfl) hi]
 rfl
theorem FG(h:Perm p.cells.length to):bS (p.ren to)=(bS p).ren to:=by
 unfold bS Cfg.ren
 simp only[Prg.ren]
 rw[scat_map h rfl,dZ,dZ,dZ]
 rfl
theorem Ge(h:Perm p.cells.length to){m:Int}{c d:Cfg}(hc:Fits p m c)(hd:Fits p m d)(e:c.ren to=d.ren to):c=d:=by
 unfold Cfg.ren at e
 injection e with e1 e2 e3
 have k1:=scat_inj h hc.mem.len hd.mem.len e1
 have Eh:∀{x y:Ent},EntOk p x→EntOk p y→x.ren to=y.ren to→x=y:=λ {x y} hx hy e=>by
  unfold Ent.ren at e
  injection e with g1 g2
  have:∀{a b:List Int},(∀c∈a,0≤c∧c<p.cells.length)→(∀c∈b,0≤c∧c<p.cells.length)→a.map (mv to)=b.map (mv to)→a=b:=by
   intro a
   induction a with
   |nil=>intro b _ _ hab;cases b with|nil=>rfl|cons _ _=>simp at hab
   |cons u a ih=>
    intro b ha hb hab
    cases b with
    |nil=>simp at hab
    |cons v b=>
     simp only[aM,List.cons.injEq]at hab
     rw[FSm h (ha u (by simp)) (hb v (by simp)) hab.1,ih (λ c hc=>ha c (by simp [hc])) (λ c hc=>hb c (by simp [hc])) hab.2]
  have g3:=this (E2 hx) (E2 hy) g1
  cases x;cases y
  simp only at g3 g2
  rw[g3,g2]
 have Ei:∀{x y:List Ent},(∀e∈x,EntOk p e)→(∀e∈y,EntOk p e)→x.map (Ent.ren to)=y.map (Ent.ren to)→x=y:=by
  intro x
  induction x with
  |nil=>intro y _ _ hab;cases y with|nil=>rfl|cons _ _=>simp at hab
  |cons u a ih=>
   intro y ha hb hab
   cases y with
   |nil=>simp at hab
   |cons v b=>
    simp only[aM,List.cons.injEq]at hab
    rw[Eh (ha u (by simp)) (hb v (by simp)) hab.1,ih (λ c hc=>ha c (by simp [hc])) (λ c hc=>hb c (by simp [hc])) hab.2]
 have kb:∀{x y:List (List Ent)},(∀l∈x,∀e∈l,EntOk p e)→(∀l∈y,∀e∈l,EntOk p e)→(x.map λ l=>l.map (Ent.ren to))=(y.map λ l=>l.map (Ent.ren to))→x=y:=by
  intro x
  induction x with
  |nil=>intro y _ _ hab;cases y with|nil=>rfl|cons _ _=>simp at hab
  |cons u a ih=>
   intro y ha hb hab
   cases y with
   |nil=>simp at hab
   |cons v b=>
    simp only[aM,List.cons.injEq]at hab
    rw[Ei (ha u (by simp)) (hb v (by simp)) hab.1,ih (λ c hc=>ha c (by simp [hc])) (λ c hc=>hb c (by simp [hc])) hab.2]
 have hbs:∀{c:Cfg},Fits p m c→∀l∈c.buf,∀e∈l,EntOk p e:=λ {c} hf l hl=>by
  obtain⟨t,ht,rfl⟩:=bF hl
  exact(hf.few t _ (ap ht)).2
 have k3:=kb (hbs hc) (hbs hd) e3
 cases c;cases d
 simp only at k1 e2 k3
 rw[k1,e2,k3]
theorem Gz(h:Perm p.cells.length to)(hp:p.Ok){m:Int}:∀{l:List Cho} {c:Cfg},Fits p m c→fK p m c l→fK (p.ren to) m (c.ren to) (l.map (Cho.ren to))∧iS (p.ren to) m (c.ren to) (l.map (Cho.ren to))=(iS p m c l).map (Cfg.ren to)
 |[],c,_,_=>⟨trivial,rfl⟩
 |x::l,c,hf,hr=>by
  obtain⟨h1,h2⟩:=Gz h hp (rp hp hf hr.1) hr.2
  rw[←F9 h hp hf hr.1]at h1 h2
  refine⟨⟨?_,h1⟩,?_⟩
  ·rw[FC h hp hf]
   exact aI.2 ⟨x,hr.1,rfl⟩
  ·simp only[aM,iS]
   rw[h2]
-- the search
def Vis.ren(to:List Int)(v:Vis):Vis:=⟨v.cfg.ren to,v.frm,v.cho.ren to⟩
def BS.ren(to:List Int)(S:BS):BS:=⟨S.V.map (Vis.ren to),S.i,S.xs.map (Cho.ren to)⟩
theorem FX(V:List Vis){i:Nat}(hi:i<V.length):(V.map (Vis.ren to)).getD i e8=(V.getD i e8).ren to:=by
 rw[au,aN,au,ap hi]
 rfl
theorem Fg(h:Perm p.cells.length to)(hp:p.Ok){m:Int}{S:BS}(hb:BInv p m S):eX (p.ren to) m (S.ren to)=(eX p m S).map (BS.ren to):=by
 obtain⟨V,i,xs⟩:=S
 have hlt:i<V.length:=hb.lt
 cases xs with
 |nil=>
  simp only[BS.ren,eX,bq,ac]
  by_cases hi:i+1<V.length
  ·rw[if_pos hi,if_pos hi,FX V hi]
   have hf:Fits p m (V.getD (i+1) e8).cfg:=hb.fits _ (by rw[au,ap hi];exact bI hi)
   show some (BS.mk _ _ (fY (p.ren to) m ((V.getD (i+1) e8).cfg.ren to)))=_
   rw[FC h hp hf]
   rfl
  ·rw[if_neg hi,if_neg hi];rfl
 |cons x r=>
  have hf:Fits p m (V.getD i e8).cfg:=hb.fits _ (by rw[au,ap hlt];exact bI hlt)
  obtain⟨d,hd,_⟩:=hb.now
  have hxc:x∈fY p m (V.getD i e8).cfg:=by
   have:fY p m (V.getD i e8).cfg=d++x::r:=hd
   rw[this];simp
  simp only[BS.ren,eX,aM,bJ]
  rw[FX V hlt]
  show some (if fV (p.ren to) m ((V.getD i e8).cfg.ren to) (x.ren to)∈(V.map (Vis.ren to)).map Vis.cfg then BS.mk (V.map (Vis.ren to)) i (r.map (Cho.ren to))else BS.mk (V.map (Vis.ren to)++[Vis.mk (fV (p.ren to) m ((V.getD i e8).cfg.ren to) (x.ren to)) i (x.ren to)]) i (r.map (Cho.ren to)))=_
  rw[F9 h hp hf hxc]
  have hm:(fV p m (V.getD i e8).cfg x).ren to∈(V.map (Vis.ren to)).map Vis.cfg↔fV p m (V.getD i e8).cfg x∈V.map Vis.cfg:=by
   simp only[aI]
   constructor
   ·rintro⟨_,⟨v,hv,rfl⟩,e⟩
    exact⟨v,hv,Ge h (hb.fits v hv) (rp hp hf hxc) e⟩
   ·rintro⟨v,hv,e⟩
    exact⟨_,⟨v,hv,rfl⟩,by show v.cfg.ren to=_;rw[e]⟩
  by_cases hi:fV p m (V.getD i e8).cfg x∈V.map Vis.cfg
  ·rw[if_pos (hm.2 hi),if_pos hi]
  ·rw[if_neg (λ q=>hi (hm.1 q)),if_neg hi]
   simp only[bJ,BS.ren,aJ,aM,bq,Vis.ren]
theorem bs0_ren(h:Perm p.cells.length to)(hp:p.Ok)(m:Int):kP (p.ren to) m=(kP p m).ren to:=by
 unfold kP BS.ren
 simp only
 rw[FG h,FC h hp (jl hp m)]
 rfl
theorem Fe(h:Perm p.cells.length to)(hp:p.Ok){m:Int}{S:BS}(hS:Steps p m (kP p m) S):Steps (p.ren to) m (kP (p.ren to) m) (S.ren to):=by
 induction hS with
 |refl=>rw[bs0_ren h hp];exact .refl
 |tail h1 hb ih=>
  refine ih.tail ?_
  rw[Fg h hp (fx hp h1),hb]
  rfl
end
theorem FN{p:Prg}{m:Int}{S T:BS}(hS:Steps p m (kP p m) S)(hb:eX p m S=none)(hl:S.V.length≤600)(hT:Steps p m (kP p m) T)(hk:600<T.V.length):False:=by
 rcases Steps.linear hS hT with h|h
 ·have:=Steps.last h hb
  subst this
  omega
 ·obtain⟨W,hW⟩:=Steps.grow h
  rw[hW,aF]at hl
  omega
theorem Dz{p:Prg}{m:Int}{S T:BS}(hS:Steps p m (kP p m) S)(hb:eX p m S=none)(hT:Steps p m (kP p m) T)(hc:eX p m T=none):S=T:=by
 rcases Steps.linear hS hT with h|h
 ·exact(Steps.last h hb).symm
 ·exact Steps.last h hc
end Go.Proofs.YtdpdbokicanpoaaGreatDoor
end
namespace Go.Proofs.YtdpdbokicanpoaaGreatDoor
section
open Go Go.Ab
def eD(e:Ex):D:= .agg [iD e.op,iD e.w,iD e.n,.sl 4 (e.kids.map Ex.d)]
theorem ed(e:Ex):e.d=eD e:=Ex.d_eq e
def iH(m:Ctr):D:= .agg [.str m.name,.str m.owner,iD m.rely.op,iD m.rely.w,iD m.rely.n,.sl 4 (m.rely.kids.map Ex.d),iD m.guar.op,iD m.guar.w,iD m.guar.n,.sl 4 (m.guar.kids.map Ex.d),bu m.frame]
def iZ(l:Lck):D:= .agg [iD l.cell,iD l.inv.op,iD l.inv.w,iD l.inv.n,.sl 4 (l.inv.kids.map Ex.d),iD l.mod]
def dM(a:Asg):D:= .agg [iD a.cell,iD a.to.op,iD a.to.w,iD a.to.n,.sl 4 (a.to.kids.map Ex.d)]
def eP(s:Stp):D:= .agg [iD s.kind,iD s.src,iD s.dst,iD s.guard.op,iD s.guard.w,iD s.guard.n,.sl 4 (s.guard.kids.map Ex.d),.sl 5 (s.set.map dM),.bool s.rel,iD s.target,iD s.mod]
def pt(l:Lop):D:= .agg [iD l.head,bu l.body,iD l.var.op,iD l.var.w,iD l.var.n,.sl 4 (l.var.kids.map Ex.d)]
def c8(x:Thr):D:= .agg [.str x.name,iD x.points,.sl 4 (x.asserts.map Ex.d),bu x.mods,.sl 11 (x.steps.map eP),.sl 6 (x.loops.map pt),.bool x.asleep]
def bK(p:Prg):D:= .agg [aY p.cells,.sl 11 (p.modules.map iH),.sl 6 (p.locks.map iZ),.sl 7 (p.threads.map c8)]
def bO(e:Ent):D:= .agg [bu e.cells,bu e.vals]
def cu(l:List Ent):D:= .sl 2 (l.map bO)
def bX(c:Cfg):D:= .agg [bu c.mem,bu c.pos,.sl 1 (c.buf.map cu)]
def c7(x:Cho):D:= .agg [iD x.thread,iD x.step,iD x.cell]
structure StpSz (s:Stp):Prop where
 guard:s.guard.Ok
 nset:s.set.length≤reachBytes
 set:∀a∈s.set,a.to.Ok
structure ThrSz (x:Thr):Prop where
 nas:x.asserts.length≤reachBytes
 asserts:∀e∈x.asserts,e.Ok
 nmo:x.mods.length≤reachBytes
 nst:x.steps.length≤reachBytes
 steps:∀s∈x.steps,StpSz s
 nlo:x.loops.length≤reachBytes
 loops:∀l∈x.loops,l.body.length≤reachBytes∧l.var.Ok
structure PrgSz (p:Prg):Prop where
 ncel:p.cells.length≤reachBytes
 names:∀c∈p.cells,c.name.length≤reachBytes
 nmod:p.modules.length≤reachBytes
 modules:∀m∈p.modules,m.name.length≤reachBytes∧m.owner.length≤reachBytes∧m.rely.Ok∧m.guar.Ok∧m.frame.length≤reachBytes
 nlck:p.locks.length≤reachBytes
 locks:∀l∈p.locks,l.inv.Ok
 nthr:p.threads.length≤reachBytes
 threads:∀x∈p.threads,x.name.length≤reachBytes∧ThrSz x
-- an element of a list of data
theorem xM{l:List Ctr}{j:Nat}(h:j<l.length):List.getD (l.map iH) j default=iH (l.getD j mj):=dQ h
theorem xw{l:List Lck}{j:Nat}(h:j<l.length):List.getD (l.map iZ) j default=iZ (l.getD j mJ):=dQ h
theorem iP{l:List Asg}{j:Nat}(h:j<l.length):List.getD (l.map dM) j default=dM (l.getD j dt):=dQ h
theorem mw{l:List Stp}{j:Nat}(h:j<l.length):List.getD (l.map eP) j default=eP (l.getD j jY):=dQ h
theorem A5{l:List Lop}{j:Nat}(h:j<l.length):List.getD (l.map pt) j default=pt (l.getD j vg):=dQ h
theorem fe{l:List Thr}{j:Nat}(h:j<l.length):List.getD (l.map c8) j default=c8 (l.getD j fg):=dQ h
theorem gG{l:List Ent}{j:Nat}(h:j<l.length):List.getD (l.map bO) j default=bO (l.getD j cD):=dQ h
theorem gH{l:List (List Ent)}{j:Nat}(h:j<l.length):List.getD (l.map cu) j default=cu (l.getD j []):=dQ h
theorem uF{l:List Cho}{j:Nat}(h:j<l.length):List.getD (l.map c7) j default=c7 (l.getD j fE):=dQ h
theorem Gy{l:List Ex}{j:Nat}(h:j<l.length):List.getD (l.map Ex.d) j default=eD (l.getD j zQ):=by rw[dQ (d:=zQ) h,ed]
theorem rS{n:Nat}(h:n≤reachBytes):n≤140737488351232:=h
theorem k8(i n:Int)(Z:St)(G:Glob)(R:A→St→Prop)(h:R (db (kj i n)) Z):AC Tryz.prog G 103 [di i,di n] Z R:=by
 refine bg a9 Tryz.func103 rfl Tryz.ntmps103 (by simp only[go_sem]) λ hbd=> ?_
 simp only[ae,aj,Nat.reduceAdd,Nat.reduceSub,af,ag,ah,ak]
 have e:kj i n=(decide (0≤i)&&decide (i<n)):=by simp [kj]
 rw[e]at h
 cases d0:decide (0≤i)with
 |true=>
  rw[d0]at h
  simp only[go_sem,d0]
  exact cw h
 |false=>
  rw[d0]at h
  simp only[go_sem,d0]
  exact cw h
def okC(c:UInt8):Bool:=decide (33≤c.toNat∧c.toNat≤126)
theorem rj(s:List UInt8):jj s=(decide (1≤s.length∧s.length≤64)&&s.all okC):=rfl
theorem qg(s:List UInt8)(hs:s.length≤reachBytes)(Z:St)(G:Glob)(R:A→St→Prop)(h:R (db (jj s)) Z):AC Tryz.prog G 101 [.d (.str s)] Z R:=by
 have hs2:=rS hs
 refine bg a9 Tryz.func101 rfl Tryz.ntmps101 (by simp only[go_sem]) λ hbd=> ?_
 simp only[ae,aj,Nat.reduceAdd,Nat.reduceSub,af,ag,ah,ak]
 try simp only[go_sem]
 refine aS (λ m fr st=>∃j:Nat,j≤s.length∧m=s.length - j∧(∀c∈s.take j,okC c=true)∧st=Z∧fr=%[.d (.str s),.o,.o,dn j|D5 (D4 [])]) s.length _ (Wk.mask [0,3] ⟨0,by omega,by omega,by simp,rfl,rfl⟩) ?_
 rintro m fr Z ⟨j,hj,hm,hall,rfl,rfl⟩
 rcases aC j s.length with hlt|hge
 ·have hd:decide ((j:Int)<(s.length:Int))=true:=by simp only[av];omega
  have w2:=bC j (by omega)
  simp only[go_sem,hd,w2]
  refine⟨⟨by omega,by omega⟩,λ q=>⟨q,by omega,by omega⟩,λ c=> ?_,λ c=> ?_⟩
  ·have e:jj s=false:=by
    rw[rj,dw]
    right
    rw[List.all_eq_false]
    refine⟨s.getD j 0,bT 0 hlt,?_⟩
    simp only[cd,av]at c
    simp only[okC,av]
    omega
   rw[e]at h
   exact cw h
  ·refine Wk.mask [0,3] ⟨s.length - (j+1),by omega,j+1,by omega,rfl,?_,rfl,rfl⟩
   rw[bG 0 hlt]
   intro x hx
   rcases aW.1 hx with hx|hx
   ·exact hall x hx
   ·rw[cm]at hx
    rw[hx]
    simp only[bA,ay]at c
    simp only[okC,av]
    omega
 ·have hd:decide ((j:Int)<(s.length:Int))=false:=by simp only[ay];omega
  obtain rfl:j=s.length:=by omega
  simp only[go_sem,hd]
  rw[bB]at hall
  have e:jj s=(decide (1≤(s.length:Int))&&decide ((s.length:Int)≤64)):=by
   rw[rj,aZ.2 hall,dJ,dD,aB,av,av,av]
   omega
  rw[e]at h
  exact cw h
theorem DR(e:Ex)(hk:e.kids.length≤reachBytes)(Z:St)(G:Glob)(R:A→St→Prop)(h:R (db e.absent) Z):AC Tryz.prog G 104 [.d (eD e)] Z R:=by
 refine bg a9 Tryz.func104 rfl Tryz.ntmps104 (by simp only[go_sem]) λ hbd=> ?_
 simp only[ae,aj,Nat.reduceAdd,Nat.reduceSub,af,ag,ah,ak]
 unfold eD
 simp only[go_sem,ac]
 have e1:((e.kids.length:Int)==0)=e.kids.isEmpty:=by cases e.kids with|nil=>rfl|cons a l=>simp;omega
 rw[e1]
 exact aQ hbd h
theorem CJ{l:List Int}{j:Nat}(hj:j+1<l.length)(h:qE (l.take (j+1)))(hlt:l.getD j 0<l.getD (j+1) 0):qE (l.take (j+2)):=by
 unfold qE at h ⊢
 rw[show j+2=(j+1)+1 from rfl,bG 0 hj,List.pairwise_append]
 refine⟨h,by simp,λ a ha b hb=> ?_⟩
 rw[cm]at hb
 subst hb
 rw[bG 0 (by omega),aW]at ha
 rw[bG 0 (by omega),List.pairwise_append]at h
 rcases ha with ha|ha
 ·have:=h.2.2 a ha (l.getD j 0) (by simp)
  omega
 ·rw[cm]at ha
  omega
theorem BX{l:List Int}{j:Nat}(h:qE l)(hj:j+1<l.length):l.getD j 0<l.getD (j+1) 0:=by
 unfold qE at h
 rw[dO]at h
 have:=h j (j+1) (by omega) hj (by omega)
 rw[au,ap (by omega),au,ap hj]
 exact this
theorem vG(l:List Int)(hl:l.length≤reachBytes)(Z:St)(G:Glob)(R:A→St→Prop)(h:∀b:Bool,(b=true↔qE l)→R (db b) Z):AC Tryz.prog G 106 [.d (bu l)] Z R:=by
 have hl2:=rS hl
 unfold bu
 refine bg a9 Tryz.func106 rfl Tryz.ntmps106 (by simp only[go_sem]) λ hbd=> ?_
 simp only[ae,aj,Nat.reduceAdd,Nat.reduceSub,af,ag,ah,ak]
 try simp only[go_sem]
 refine aS (λ m fr st=>∃j:Nat,(j=0∨j<l.length)∧m=l.length - j∧qE (l.take (j+1))∧st=Z∧fr=%[.d (.sl 1 (l.map iD)),.o,.o,dn (j+1)|D5 []]) l.length _ (Wk.mask [0,3] ⟨0,.inl rfl,by omega,?_,rfl,rfl⟩) ?_
 ·cases l with
  |nil=>simp [qE]
  |cons a l=>simp [qE]
 rintro m fr Z ⟨j,hj,hm,hr,rfl,rfl⟩
 rcases aC (j+1) l.length with hlt|hge
 ·have hd:decide (((j+1:Nat):Int)<(l.length:Int))=true:=by simp only[av];omega
  have w2:=bC (j+1) (by omega)
  have w3:IntKind.i64.wrap (((j+1:Nat):Int) - 1)=(j:Int):=by rw[cq _ (by omega) (by omega)];omega
  simp only[go_sem,hd,w2,w3,ac,bW hlt,bW (show j<l.length by omega),ad]
  refine⟨⟨by omega,by omega⟩,⟨by omega,by omega⟩,λ c=>cw (h false ⟨λ q=>Bool.noConfusion q,λ q=>absurd (BX q hlt) (by simpa using c)⟩),λ c=> ?_⟩
  refine Wk.mask [0,3] ⟨l.length - (j+1),by omega,j+1,by omega,rfl,CJ hlt hr ?_,rfl,rfl⟩
  simpa using c
 ·have hd:decide (((j+1:Nat):Int)<(l.length:Int))=false:=by simp only[ay];omega
  simp only[go_sem,hd,ac]
  refine cw (h true ⟨λ _=> ?_,λ _=>rfl⟩)
  rwa [aK (by omega)]at hr
theorem qj(xs ys:List Int)(hn:xs.length≤reachBytes)(hn2:ys.length≤reachBytes)(Z:St)(G:Glob)(R:A→St→Prop)(h:R (db (xs==ys)) Z):AC Tryz.prog G 21 [.d (bu xs),.d (bu ys)] Z R:=by
 have h1:=rS hn
 have h2:=rS hn2
 unfold bu
 by_cases hl:xs.length=ys.length
 ·have e0:((xs.length:Int)!=(ys.length:Int))=false:=by simp [hl]
  refine bM a9 Tryz.func21 rfl Tryz.ntmps21 (by simp only[go_sem]) λ hbd=> ?_
  simp only[ae,aj,Nat.reduceAdd,Nat.reduceSub,af,ag,ah,ak]
  simp only[go_sem,ac,e0]
  refine aS (λ m fr st=>∃j:Nat,j≤xs.length∧m=xs.length - j∧xs.take j=ys.take j∧st=Z∧fr=%[.d (.sl 1 (xs.map iD)),.d (.sl 1 (ys.map iD)),.o,.o,.o,dn j|D5 [.o,.o,.o,.o]]) xs.length _ (Wk.mask [0,1,5] ⟨0,by omega,by omega,rfl,rfl,rfl⟩) ?_
  rintro m fr st ⟨j,hj,hm,ht,rfl,rfl⟩
  rcases aC j xs.length with hlt|hge
  ·have hd:decide ((j:Int)<(xs.length:Int))=true:=by simp;omega
   have w2:=bC j (by omega)
   have hlt2:j<ys.length:=by omega
   simp only[go_sem,hd,ac]
   refine bb (.tk 9 0<| .done) (by kernel_rfl) ?_
   simp only[go_sem,bW hlt,bW hlt2,w2,ac,ad]
   refine⟨⟨by omega,by omega⟩,⟨by omega,by omega⟩,λ c=> ?_,λ c=> ?_⟩
   ·have hne:xs.getD j 0≠ys.getD j 0:=by simpa using c
    have e:(xs==ys)=false:=by
     rw[fw];intro e;simp at e;subst e;exact hne rfl
    rw[e]at h
    exact cw h
   ·have he:xs.getD j 0=ys.getD j 0:=by simpa using c
    exact Wk.mask [0,1,5] ⟨xs.length - (j+1),by omega,j+1,by omega,rfl,by rw[bG 0 hlt,bG 0 hlt2,ht,he],rfl,rfl⟩
  ·have hd:decide ((j:Int)<(xs.length:Int))=false:=by simp;omega
   obtain rfl:j=xs.length:=by omega
   have he:xs=ys:=by
    rw[bB,hl,bB]at ht;exact ht
   simp only[go_sem,hd,ac]
   rw[he,beq_self_eq_true]at h
   exact cw h
 ·have e0:((xs.length:Int)!=(ys.length:Int))=true:=by simp;omega
  have he:(xs==ys)=false:=by rw[ck];exactλ e=>hl (by rw[e])
  rw[he]at h
  refine bD [3] a9 Tryz.func21 rfl Tryz.ntmps21 (by simp only[go_sem]) λ hbd=> ?_
  simp only[ae,aj,Nat.reduceAdd,Nat.reduceSub,af,ag,ah,ak]
  simp only[go_sem]
  refine bc (λ _ _=>False) ?_ (λ _ _ h=>h.elim)
  simp only[go_sem,ac,e0]
  exact cw h
theorem dj(n:Nat)(p:List Nat):∀a b:List A,Go.Ab.ix n p (a++b)=Go.Ab.ix n p a++Go.Ab.ix n p b
 |[],b=>rfl
 |x::a,b=>by simp only[ah,go_sem,dj n p a b]
theorem cx(n:Nat)(p:List Nat)(l:List Int):Go.Ab.ix n p (l.map λ x=>A.d (iD x))=l.map λ x=>A.d (iD x):=by
 induction l with
 |nil=>rfl
 |cons x l ih=>simp only[aM,go_sem,ih]
theorem kJ(l:List Int)(hl:l.length≤1000)(Z:St)(G:Glob)(R:A→St→Prop)(h:R (.d (bu l)) Z):AC Tryz.prog G 113 [.d (bu l)] Z R:=by
 unfold bu
 refine bg a9 Tryz.func113 rfl Tryz.ntmps113 (by simp only[go_sem]) λ hbd=> ?_
 simp only[ae,aj,Nat.reduceAdd,Nat.reduceSub,af,ag,ah,ak]
 try simp only[go_sem]
 refine aS (λ m fr st=>∃j:Nat,j≤l.length∧m=l.length - j∧fr=%[.d (.sl 1 (l.map iD)),.o,.o,.rs Z.length 1 0 j (some 3),dn j|D4 [.o,.o,.o,.o,.o,.o]]∧st=Z++[bY (l.take j)]) l.length _ ?_ ?_
 ·exact⟨_,_,(bw.mask [0,3,4]).trans (bw.empty 3 1 (some 3) rfl),0,by omega,by omega,by simp [iX],by simp [bY]⟩
 rintro m fr st ⟨j,hj,hm,rfl,rfl⟩
 rcases aC j l.length with hlt|hge
 ·have hd:decide ((j:Int)<(l.length:Int))=true:=by simp;omega
  have w2:=bC j (by omega)
  simp only[go_sem,bY,hd,w2,bW hlt,ac,ad]
  refine⟨⟨by omega,by omega⟩,⟨by simp;omega,by simp only[maxLen];omega,by omega⟩,Wk.keep [0,3,4] [2] (by decide) (aE _) hbd ⟨l.length - (j+1),by omega,j+1,by omega,rfl,by simp only[go_sem],?_⟩⟩
  rw[bG 0 hlt,aJ]
  simp only[go_sem,cx,aM,bq]
 ·have hd:decide ((j:Int)<(l.length:Int))=false:=by simp;omega
  obtain rfl:j=l.length:=by omega
  simp only[go_sem,hd,ac]
  refine de 0 1 0 (l.map iD) rfl (cJ _) ?_
  simp only[go_sem,ac]
  exact aQ hbd h
theorem sK(s:List UInt8)(hs:s.length≤reachBytes)(hl:jj s=true)(Z:St)(G:Glob)(R:A→St→Prop)(h:R (db true) Z):AC Tryz.prog G 126 [.d (.str s)] Z R:=by
 have hs2:=rS hs
 rw[rj,aB,av,aZ]at hl
 obtain⟨⟨h1,h2⟩,h3⟩:=hl
 have d1:decide ((s.length:Int)<1)=false:=by simp;omega
 have d2:decide ((64:Int)<(s.length:Int))=false:=by simp;omega
 have d3:decide ((s.length:Int) > 64)=false:=by simp;omega
 refine bg a9 Tryz.func126 rfl Tryz.ntmps126 (by simp only[go_sem]) λ hbd=> ?_
 simp only[ae,aj,Nat.reduceAdd,Nat.reduceSub,af,ag,ah,ak]
 simp only[go_sem,d1,d2,d3]
 refine aS (λ m fr st=>∃j:Nat,j≤s.length∧m=s.length - j∧st=Z∧fr=%[.d (.str s)|D4 %[.o,.o,.o,.o,dn s.length,dn j|D4 [.o,.o,.o,.o,.o]]]) s.length _ (Wk.mask [0,13,14] ⟨0,by omega,by omega,rfl,rfl⟩) ?_
 rintro m fr Z ⟨j,hj,hm,rfl,rfl⟩
 rcases aC j s.length with hlt|hge
 ·have hd:decide ((j:Int)<(s.length:Int))=true:=by simp only[av];omega
  have w2:=bC j (by omega)
  have hc:=h3 _ (bT 0 hlt)
  simp only[okC,av]at hc
  simp only[go_sem,hd,w2,ad]
  refine⟨⟨by omega,by omega⟩,λ q=>⟨q,by omega,by omega⟩,λ c=> ?_,λ c=> ?_⟩
  ·exfalso
   simp only[cd,av]at c
   omega
  ·exact Wk.mask [0,13,14] ⟨s.length - (j+1),by omega,j+1,by omega,rfl,rfl,rfl⟩
 ·have hd:decide ((j:Int)<(s.length:Int))=false:=by simp only[ay];omega
  simp only[go_sem,hd]
  exact cw h
theorem kK(i n:Int)(Z:St)(G:Glob)(R:A→St→Prop)(h:R (db (kj i n)) Z):AC Tryz.prog G 127 [di i,di n] Z R:=by
 refine bg a9 Tryz.func127 rfl Tryz.ntmps127 (by simp only[go_sem]) λ hbd=> ?_
 simp only[ae,aj,Nat.reduceAdd,Nat.reduceSub,af,ag,ah,ak]
 have e:kj i n=(decide (0≤i)&&decide (i<n)):=by simp [kj]
 rw[e]at h
 have e2:decide (i≥0)=decide (0≤i):=rfl
 cases d0:decide (0≤i)with
 |true=>
  rw[d0]at h
  simp only[go_sem,e2,d0]
  exact cw h
 |false=>
  rw[d0]at h
  simp only[go_sem,e2,d0]
  exact cw h
theorem absent_p(e:Ex)(hk:e.kids.length≤reachBytes)(Z:St)(G:Glob)(R:A→St→Prop)(h:R (db e.absent) Z):AC Tryz.prog G 129 [.d (eD e)] Z R:=by
 refine bg a9 Tryz.func129 rfl Tryz.ntmps129 (by simp only[go_sem]) λ hbd=> ?_
 simp only[ae,aj,Nat.reduceAdd,Nat.reduceSub,af,ag,ah,ak]
 unfold eD
 simp only[go_sem,ac]
 have e1:((e.kids.length:Int)==0)=e.kids.isEmpty:=by cases e.kids with|nil=>rfl|cons a l=>simp;omega
 rw[e1]
 exact aQ hbd h
theorem one_p(e:Ex)(hk:e.kids.length≤reachBytes)(Z:St)(G:Glob)(R:A→St→Prop)(h:R (db e.one) Z):AC Tryz.prog G 182 [.d (eD e)] Z R:=by
 refine bg a9 Tryz.func182 rfl Tryz.ntmps182 (by simp only[go_sem]) λ hbd=> ?_
 simp only[ae,aj,Nat.reduceAdd,Nat.reduceSub,af,ag,ah,ak]
 unfold eD
 simp only[go_sem,ac]
 have e1:((e.kids.length:Int)==0)=e.kids.isEmpty:=by cases e.kids with|nil=>rfl|cons a l=>simp;omega
 rw[e1]
 exact aQ hbd h
theorem yF(l:List Int)(hl:l.length≤reachBytes)(hr:qE l)(Z:St)(G:Glob)(R:A→St→Prop)(h:R (db true) Z):AC Tryz.prog G 132 [.d (bu l)] Z R:=by
 have hl2:=rS hl
 unfold bu
 refine bM a9 Tryz.func132 rfl Tryz.ntmps132 (by simp only[go_sem]) λ hbd=> ?_
 simp only[ae,aj,Nat.reduceAdd,Nat.reduceSub,af,ag,ah,ak]
 try simp only[go_sem]
 refine aS (λ m fr st=>∃j:Nat,(j=0∨j<l.length)∧m=l.length - j∧st=Z∧fr=%[.d (.sl 1 (l.map iD)),.o,.o,dn (j+1)|D5 []]) l.length _ (Wk.mask [0,3] ⟨0,.inl rfl,by omega,rfl,rfl⟩) ?_
 rintro m fr Z ⟨j,hj,hm,rfl,rfl⟩
 rcases aC (j+1) l.length with hlt|hge
 ·have hd:decide (((j+1:Nat):Int)<(l.length:Int))=true:=by simp only[av];omega
  have w2:=bC (j+1) (by omega)
  have w3:IntKind.i64.wrap (((j+1:Nat):Int) - 1)=(j:Int):=by rw[cq _ (by omega) (by omega)];omega
  have hq:=BX hr hlt
  simp only[go_sem,hd,ac]
  refine bb (.tk 10 0<| .done) (by kernel_rfl) ?_
  simp only[go_sem,hd,w2,w3,ac,bW hlt,bW (show j<l.length by omega),ad]
  refine⟨⟨by omega,by omega⟩,⟨by omega,by omega⟩,λ c=>absurd hq (by simpa using c),λ c=> ?_⟩
  exact Wk.mask [0,3] ⟨l.length - (j+1),by omega,j+1,by omega,rfl,rfl,rfl⟩
 ·have hd:decide (((j+1:Nat):Int)<(l.length:Int))=false:=by simp only[ay];omega
  simp only[go_sem,hd,ac]
  exact cw h
end
end Go.Proofs.YtdpdbokicanpoaaGreatDoor
