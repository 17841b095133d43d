import Derived.Test.YtdpdbokicanpoaaGreatDoorZ32
set_option linter.unusedSimpArgs false
set_option linter.unusedVariables false
set_option maxHeartbeats 64000000
set_option maxRecDepth 100000
namespace Go.Proofs.YtdpdbokicanpoaaGreatDoor
section
open Go Go.Ab
def jW(o:Int)(e:Ex):List Int:=kq (lh o e) 32
theorem nh{o:Int}{e:Ex}(hd:e.deep 40=true)(ho:o=2∨o=3){c:Int}:c∈jW o e↔∃n∈e.lvs,n.op=o∧n.n=c:=by
 unfold jW kq
 simp only[aI,eZ,eT]
 constructor
 ·rintro⟨i,⟨hi,hb⟩,rfl⟩
  rw[BU o e hi,d8]at hb
  obtain⟨n,hn,hb⟩:=hb
  rw[aB,cg,cg]at hb
  refine⟨n,hn,hb.1,?_⟩
  have:=xu (re 40 e hd n hn).2 (by rw[hb.1];exact ho)
  show n.n=(i:Int)
  omega
 ·rintro⟨n,hn,h1,h2⟩
  have:=xu (re 40 e hd n hn).2 (by rw[h1];exact ho)
  refine⟨n.n.toNat,⟨by omega,?_⟩,?_⟩
  ·rw[BU o e (by omega),d8]
   exact⟨n,hn,by simp [h1]⟩
  ·show((n.n.toNat:Nat):Int)=c
   omega
theorem lP(o:Int)(e:Ex):(jW o e).length≤32:=ug _ _
theorem allB_lvs(f:Int→Bool)(l:Nat):∀e:Ex,e.deep l=true→e.allB f=e.lvs.all λ n=> !(n.op==2||n.op==3)||f n.n:=by
 induction l with
 |zero=>intro e hd;simp [Ex.deep]at hd
 |succ l ih=>
  intro e hd
  have hk:∀k∈e.kids,k.deep l=true:=λ k hk=>jc hd hk
  rw[Ex.allB_eq]
  by_cases hn:e.kids=[]
  ·rw[Ex.lvs_leaf hn,hn];simp
  ·have ho:(e.op==2||e.op==3)=false:=by
    have hf:e.fits=true:=by simp only[Ex.deep,aB]at hd;exact hd.1
    simp only[Ex.fits,aB,av]at hf
    have h1:=hf.1.1
    have h2:0<e.kids.length:=List.length_pos_iff.2 hn
    simp only[bA,ck]
    refine⟨λ q=> ?_,λ q=> ?_⟩
    ·rw[q]at h1
     have:Ex.arity 2=0:=rfl
     omega
    ·rw[q]at h1
     have:Ex.arity 3=0:=rfl
     omega
   rw[Ex.lvs_node hn,ho]
   simp only[eC,gQ,ca]
   rw[List.all_flatMap]
   rw[dD,aZ,aZ]
   exact⟨λ q k hk'=>by rw[←ih k (hk k hk')];exact q k hk',λ q k hk'=>by rw[ih k (hk k hk')];exact q k hk'⟩
theorem qD{f:Int→Bool}{e:Ex}(hd:e.deep 40=true):e.allB f=true↔(∀c∈jW 3 e,f c=true)∧∀c∈jW 2 e,f c=true:=by
 rw[allB_lvs f 40 e hd,aZ]
 constructor
 ·intro h
  refine⟨λ c hc=> ?_,λ c hc=> ?_⟩
  ·obtain⟨n,hn,h1,rfl⟩:=(nh hd (.inr rfl)).1 hc
   simpa [h1]using h n hn
  ·obtain⟨n,hn,h1,rfl⟩:=(nh hd (.inl rfl)).1 hc
   simpa [h1]using h n hn
 ·rintro⟨h3,h2⟩ n hn
  rcases(re 40 e hd n hn).1 with o|o|o
  ·simp [o]
  ·have:=h2 _ ((nh hd (.inl rfl)).2 ⟨n,hn,o,rfl⟩)
   simp [this]
  ·have:=h3 _ ((nh hd (.inr rfl)).2 ⟨n,hn,o,rfl⟩)
   simp [this]
theorem sup_lt{cells:List Cel}{pair:Bool}{e:Ex}(hd:e.deep 40=true)(ho:e.over cells pair=true){o:Int}(h:o=2∨o=3):∀c∈jW o e,0≤c∧c<cells.length:=λ c hc=>by
 obtain⟨n,hn,h1,rfl⟩:=(nh hd h).1 hc
 have hl:=xu (re 40 e hd n hn).2 (by rw[h1];exact h)
 rw[za cells pair 40 e hd,aZ]at ho
 have:=(Fs (ho n hn) (by rw[h1];exact h)).1
 omega
theorem fZ(p:Prg){c:Int}(h:0≤c∧c<p.cells.length):List.getD (p.cells.map fb) c.toNat default=fb (p.cell c):=iM (by omega)
theorem own_ac(p:Prg)(c t:Int)(hc:0≤c∧c<p.cells.length)(Z:St)(G:Glob)(R:A→St→Prop)(h:R (db ((p.cell c).thread==t)) Z):AC Tryz.prog G 157 [.d (bK p),di c,di t] Z R:=by
 refine bg a9 Tryz.func157 rfl Tryz.ntmps157 (by simp only[go_sem]) λ hbd=> ?_
 simp only[ae,aj,Nat.reduceAdd,Nat.reduceSub,af,ag,ah,ak]
 simp only[bK,aY,go_sem,ac,fZ p hc,fb]
 exact⟨hc,aQ hbd h⟩
theorem CE(p:Prg)(c:Int)(hc:0≤c∧c<p.cells.length)(Z:St)(G:Glob)(R:A→St→Prop)(h:R (db ((p.cell c).thread== -1)) Z):AC Tryz.prog G 158 [.d (bK p),di c] Z R:=by
 refine bg a9 Tryz.func158 rfl Tryz.ntmps158 (by simp only[go_sem]) λ hbd=> ?_
 simp only[ae,aj,Nat.reduceAdd,Nat.reduceSub,af,ag,ah,ak]
 simp only[bK,aY,go_sem,ac,fZ p hc,fb]
 exact⟨hc,aQ hbd h⟩
theorem one_ac(Z:St)(G:Glob)(R:A→St→Prop)(h:R (.d (eD (.mk 1 1 1 []))) Z):AC Tryz.prog G 59 [] Z R:=by
 refine bg a9 Tryz.func59 rfl Tryz.ntmps59 (by simp only[go_sem]) λ hbd=> ?_
 simp only[ae,aj,Nat.reduceAdd,Nat.reduceSub,af,ag,ah,ak]
 simp only[go_sem,fC]
 refine bH (qw 1 1 _ _ _ ?_)
 rw[ed]
 simp only[eD,go_sem,fC]
 exact aQ hbd h
theorem ints_one{l:List Int}:∀x∈l.map iD,x.cells.length=1:=λ x hx=>by
 obtain⟨y,_,rfl⟩:=aI.1 hx
 rfl
theorem uh(l:List Int):mQ (bU (l.map iD)) 1 0 (l.map iD):=lx λ x hx=>by
 obtain⟨y,_,rfl⟩:=aI.1 hx
 exact⟨rfl,λ z hz=>by simp only[D.cells,cm]at hz;rw[hz];rfl⟩
theorem Wk.via{G:Glob}{n0:Nat}{fr fr':Fr}{Z Z':St}{I:Fr→St→Prop}(hw:bw G n0 fr Z fr' Z')(h:Wk G n0 I fr' Z'):Wk G n0 I fr Z:=by
 obtain⟨a,b,h1,h2⟩:=h
 exact⟨a,b,hw.trans h1,h2⟩
theorem cell_bad(p:Prg)(c t:Int)(sh:Bool)(hsh:sh=false→0≤t)(q:((p.cell c).thread== -1&& !sh||decide (0≤(p.cell c).thread)&&(p.cell c).thread !=t)=true):(if sh then p.viB t else p.owB t) c=false:=by
 simp only[cd,aB,cg,bQ,av,bne_iff_ne]at q
 rw[fw]
 intro h
 cases sh with
 |true=>
  rw[if_pos rfl,jT]at h
  rcases q with q|q
  ·exact Bool.noConfusion q.2
  ·omega
 |false=>
  rw[if_neg cX,gB]at h
  have:=hsh rfl
  omega
theorem A1 (p:Prg) (hcl:p.cells.length≤32) (ht:∀c∈p.cells,-1≤c.thread) (e:Ex) (hok:e.Ok) (pair:Bool) (hv:e.valid p.cells pair=true) (sh:Bool) (t:Int) (hsh:sh=false→0≤t) (Z:St) (G:Glob) (R:A→St→Prop)
  (h:R (db (e.allB (if sh then p.viB t else p.owB t))) Z):AC Tryz.prog G 109 [.d (bK p),.d (eD e),db sh,di t] Z R:=by
 obtain⟨hn,hd,ho⟩:=Ex.valid_iff.1 hv
 refine bD [2,3] a9 Tryz.func109 rfl Tryz.ntmps109 (by simp only[go_sem]) λ hbd=> ?_
 simp only[ae,aj,Nat.reduceAdd,Nat.reduceSub,af,ag,ah,ak]
 unfold eD bK
 try simp only[go_sem]
 refine bc (λ fr st=>fr=%[.o,.o,db sh,di t,.ref Z.length 0,.o,.o,.o,.o,.d (bu (jW 3 e)),.d (bu (jW 2 e))|D6 (D4 [.o,.o,.o])]∧st=Z++[some (.cells [.d (aY p.cells),.d (.sl 11 (p.modules.map iH)),.d (.sl 6 (p.locks.map iZ)),.d (.sl 7 (p.threads.map c8))])]) ?_ ?_
 ·have rs:=yE e hok (by simp only[Ex.formed,aB,av];exact⟨hn,hd⟩)
  rw[ed]at rs
  unfold eD at rs
  try simp only[go_sem]
  refine bH (rs _ _ _ ?_)
  try simp only[go_sem]
  exact Wk.keep [2,3,4,9,10] [0] (by decide) (aE _) hbd ⟨by simp only[go_sem];rfl,by simp only[go_sem]⟩
 rintro fr st ⟨rfl,rfl⟩
 refine bc (λ fr st=>fr=%[.o,.o,db sh,di t,.ref Z.length 0,.o,.o,.o,.o,.o,.o,.d (bu (jW 3 e++jW 2 e))|D6 (D4 [.o,.o])]∧st=Z++[some (.cells [.d (aY p.cells),.d (.sl 11 (p.modules.map iH)),.d (.sl 6 (p.locks.map iZ)),.d (.sl 7 (p.threads.map c8))])]) ?_ ?_
 ·have l3:=lP 3 e
  have l2:=lP 2 e
  simp only[bu,go_sem]
  rw[←cZ,←aJ]
  refine⟨⟨by simp only[maxLen,ac];omega,by simp only[ac];omega⟩,⟨mg ints_one,by simp only[maxLen,ac];omega,by simp only[ac];omega⟩,?_⟩
  refine Wk.via (bw.freeze (G:=G) (n0:=Z.length) (Z.length+3) 1 0 ((jW 3 e++jW 2 e).map iD) (cs:=bU ((jW 3 e++jW 2 e).map iD)) (by simp) (uh _)) ?_
  simp only[go_sem,ac,aF]
  exact Wk.keep [2,3,4,11] [0] (by decide) (aE _) hbd ⟨by simp only[go_sem,bu],by simp only[go_sem]⟩
 rintro fr st ⟨rfl,rfl⟩
 obtain⟨L,hL⟩:∃L,jW 3 e++jW 2 e=L:=⟨_,rfl⟩
 have hLr:∀c∈L,0≤c∧c<p.cells.length:=λ c hc=>by
  rw[←hL]at hc
  rcases aW.1 hc with hc|hc
  ·exact sup_lt hd ho (.inr rfl) c hc
  ·exact sup_lt hd ho (.inl rfl) c hc
 have hLl:L.length≤64:=by have l3:=lP 3 e;have l2:=lP 2 e;rw[←hL,aF];omega
 have hAll:(∀c∈L,(if sh then p.viB t else p.owB t) c=true)→e.allB (if sh then p.viB t else p.owB t)=true:=λ q=>by
  rw[qD hd]
  exact⟨λ c hc=>q c (by rw[←hL];simp [hc]),λ c hc=>q c (by rw[←hL];simp [hc])⟩
 have hNone:∀c∈L,(if sh then p.viB t else p.owB t) c=false→e.allB (if sh then p.viB t else p.owB t)=false:=λ c hc q=>by
  rw[fw]
  intro q2
  rw[qD hd]at q2
  rw[←hL]at hc
  rcases aW.1 hc with hc|hc
  ·rw[q2.1 c hc]at q;exact Bool.noConfusion q
  ·rw[q2.2 c hc]at q;exact Bool.noConfusion q
 rw[hL]
 simp only[bu,go_sem]
 refine aS (λ m fr st=>∃j:Nat,j≤L.length∧m=L.length - j∧(∀c∈L.take j,(if sh then p.viB t else p.owB t) c=true)∧fr=%[.o,.o,db sh,di t,.ref Z.length 0,.o,.o,.o,.o,.o,.o,.d (.sl 1 (L.map iD)),dn j|D6 (D4 [.o])]∧st=Z++[some (.cells [.d (aY p.cells),.d (.sl 11 (p.modules.map iH)),.d (.sl 6 (p.locks.map iZ)),.d (.sl 7 (p.threads.map c8))])]) L.length _ (Wk.mask [2,3,4,11,12] ⟨0,by omega,by omega,by simp,rfl,rfl⟩) ?_
 rintro m fr st ⟨j,hj,hm,hall,rfl,rfl⟩
 rcases aC j L.length with hlt|hge
 ·have hd':decide ((j:Int)<(L.length:Int))=true:=by simp only[av];omega
  have w2:=bC j (by omega)
  obtain⟨c,hc⟩:∃c,L.getD j 0=c:=⟨_,rfl⟩
  have hcr:=hLr c (by rw[←hc];exact bT 0 hlt)
  have g1:List.getD (L.map iD) j default=iD c:=by rw[bW hlt,hc]
  simp only[go_sem,aY,hd',ac]
  refine bb (.tk 10 0<| .done) (by kernel_rfl) ?_
  simp only[go_sem,w2,g1,fZ p hcr,fb,ac,ad]
  refine⟨⟨by omega,by omega⟩,hcr,λ q=>⟨q,λ q2=>by rw[q,q2];rfl⟩,λ q=>aQ hbd ?_,λ q=> ?_⟩
  ·rw[hNone c (by rw[←hc];exact bT 0 hlt) (cell_bad p c t sh hsh q)]at h
   exact h
  refine Wk.mask [2,3,4,11,12] ⟨L.length - (j+1),by omega,j+1,by omega,rfl,?_,rfl,rfl⟩
  rw[bG 0 hlt,hc]
  intro x hx
  rcases aW.1 hx with hx|hx
  ·exact hall x hx
  ·rw[cm]at hx
   rw[hx]
   have h0:=ht (p.cell c) (by unfold Prg.cell;exact bT fU (by omega))
   simp only[bA,dw,ck,cF,ay,bne_eq_false_iff_eq]at q
   cases sh with
   |true=>
    rw[if_pos rfl,jT]
    exact⟨hcr,by omega⟩
   |false=>
    rw[if_neg cX,gB]
    refine⟨hcr,?_⟩
    rcases q.1 with q1|q1
    ·omega
    ·exact absurd q1 cX
 ·have hd':decide ((j:Int)<(L.length:Int))=false:=by simp only[ay];omega
  obtain rfl:j=L.length:=by omega
  simp only[go_sem,hd',ac]
  rw[bB]at hall
  rw[hAll hall]at h
  exact aQ hbd h
abbrev bN(p:Prg):Option Ob:=some (.cells [.d (aY p.cells),.d (.sl 11 (p.modules.map iH)),.d (.sl 6 (p.locks.map iZ)),.d (.sl 7 (p.threads.map c8))])
abbrev exO(e:Ex):Option Ob:=some (.cells [.d (iD e.op),.d (iD e.w),.d (iD e.n),.d (.sl 4 (e.kids.map Ex.d))])
abbrev lckO(l:Lck):Option Ob:=some (.cells [.d (iD l.cell),.d (iD l.inv.op),.d (iD l.inv.w),.d (iD l.inv.n),.d (.sl 4 (l.inv.kids.map Ex.d)),.d (iD l.mod)])
def lL(p:Prg):Prop:=(∀c∈p.cells,CelOk p c)∧(p.cells.map Cel.name).Nodup
theorem sG (p:Prg) (hn:p.cells.length≤32) (hc:lL p) (e:Ex) (hok:e.Ok) (pair:Bool) (t:Int) (Z:St) (G:Glob) (R:A→St→Prop)
  (h:R (db (p.truB e pair (p.viB t))) Z):AC Tryz.prog G 105 [.d (bK p),.d (eD e),db pair,di t] Z R:=by
 have rv:=qS e hok p.cells (by simp [reachBytes];omega) pair
 have ov:=A1 p hn (λ c h=>(hc.1 c h).thread.1) e hok pair
 rw[ed]at rv
 unfold eD bK at*
 refine bg a9 Tryz.func105 rfl Tryz.ntmps105 (by simp only[go_sem]) λ hbd=> ?_
 simp only[ae,aj,Nat.reduceAdd,Nat.reduceSub,af,ag,ah,ak]
 try simp only[go_sem]
 refine bH (rv _ _ _ ?_)
 cases hv:(e.formed&&e.over p.cells pair)with
 |false=>
  have e1:p.truB e pair (p.viB t)=false:=by simp only[Prg.truB,Ex.valid,hv,gL,Ew]
  rw[e1]at h
  try simp only[go_sem]
  refine gO (.bool false) ⟨λ q=>Bool.noConfusion q,?_⟩
  try simp only[go_sem]
  exact aQ hbd h
 |true=>
  cases hw:(e.w==1)with
  |false=>
   have e1:p.truB e pair (p.viB t)=false:=by
    have:decide (e.w=1)=false:=by simpa using hw
    simp only[Prg.truB,this,Ew]
   rw[e1]at h
   simp only[go_sem,hw]
   refine gO (.bool false) ⟨λ q=>Bool.noConfusion q,?_⟩
   simp only[go_sem,hw]
   exact aQ hbd h
  |true=>
   have e1:p.truB e pair (p.viB t)=e.allB (p.viB t):=by
    have:decide (e.w=1)=true:=by simpa using hw
    simp only[Prg.truB,Ex.valid,hv,this,ca]
   rw[e1]at h
   simp only[go_sem,hw]
   refine exs ⟨λ _=> ?_,λ q=>Bool.noConfusion q⟩
   simp only[go_sem,hw]
   refine bH (ov hv true t (λ q=>Bool.noConfusion q) _ _ _ ?_)
   simp only[go_sem,hw,if_true]
   exact aQ hbd h
theorem limits_r(p:Prg)(hs:p.Small)(Z:St)(G:Glob)(R:A→St→Prop)(h:R (.tup [di 0,di (-1)]) Z):AC Tryz.prog G 63 [.d (bK p)] Z R:=by
 have d1:decide ((32:Int)<(p.cells.length:Int))=false:=by have:=hs.ncel;simp only[ay];omega
 have d2:decide ((6:Int)<(p.modules.length:Int))=false:=by have:=hs.nmod;simp only[ay];omega
 have d3:decide ((4:Int)<(p.locks.length:Int))=false:=by have:=hs.nlck;simp only[ay];omega
 have d4:decide ((4:Int)<(p.threads.length:Int))=false:=by have:=hs.nthr;simp only[ay];omega
 have hn:=hs.nthr
 unfold bK
 refine bg a9 Tryz.func63 rfl Tryz.ntmps63 (by simp only[go_sem]) λ hbd=> ?_
 simp only[ae,aj,Nat.reduceAdd,Nat.reduceSub,af,ag,ah,ak]
 simp only[aY,go_sem,ac,d1,d2,d3,d4]
 refine aS (λ m fr st=>∃j:Nat,j≤p.threads.length∧m=p.threads.length - j∧fr=%[.o,.ref Z.length 0,.o,.o,dn j|D6 (D5 [.o,.o,.o])]∧st=Z++[bN p]) p.threads.length _ (Wk.mask [1,4] ⟨0,by omega,by omega,rfl,rfl⟩) ?_
 rintro m fr st ⟨j,hj,hm,rfl,rfl⟩
 rcases aC j p.threads.length with hlt|hge
 ·have hd:decide ((j:Int)<(p.threads.length:Int))=true:=by simp only[av];omega
  have w2:=bC j (by omega)
  have ht:=hs.threads _ (bT fg hlt)
  obtain⟨x,hx⟩:∃x,p.threads.getD j fg=x:=⟨_,rfl⟩
  rw[hx]at ht
  have g1:List.getD (p.threads.map c8) j default=c8 x:=by rw[fe hlt,hx]
  have e1:decide ((48:Int)<x.points)=false:=by have:=ht.points;simp only[ay];omega
  have e2:decide ((64:Int)<(x.steps.length:Int))=false:=by have:=ht.nst;simp only[ay];omega
  have e3:decide ((8:Int)<(x.loops.length:Int))=false:=by have:=ht.nlo;simp only[ay];omega
  simp only[go_sem,hd,w2,g1,c8,e1,e2,e3,ac,ad]
  exact⟨⟨by omega,by omega⟩,Wk.keep [1,4] [0] (by decide) (aE _) hbd ⟨p.threads.length - (j+1),by omega,j+1,by omega,rfl,by simp only[go_sem],by simp only[go_sem]⟩⟩
 ·have hd:decide ((j:Int)<(p.threads.length:Int))=false:=by simp only[ay];omega
  simp only[go_sem,hd,ac]
  exact dq hbd rfl h
def Ans(b:Bool)(G:Glob)(g:FuncId)(first cap:List A)(Dm:Int→Prop)(Pk:St→Prop):Prop:=
 ∀c st (R:A→St→Prop),Dm c→Pk st→R (db b) st→AC Tryz.prog G g (first++di c::cap) st R
theorem Cy{G:Glob}{g:FuncId}{first cap:List A}{Dm:Int→Prop}{Pk:St→Prop}(ha:Ans true G g first cap Dm Pk)(ib:Nat):Ans false G 152 [] [.ref ib 0] Dm λ st=>Pk st∧st[ib]? =some (some (.cells [.fn (.func g) first cap])):=by
 intro c st R hc ⟨hp,hb⟩ h
 show AC Tryz.prog G 152 [di c,.ref ib 0] st R
 refine bg a9 Tryz.func152 rfl Tryz.ntmps152 (by simp only[go_sem]) λ hbd=> ?_
 simp only[ae,aj,Nat.reduceAdd,Nat.reduceSub,af,ag,ah,ak]
 simp only[go_sem,aO hb,aX hb]
 refine bH (ha c _ _ hc hp ?_)
 try simp only[go_sem]
 exact cw h
theorem index_p{G:Glob}{g:FuncId}{first cap:List A}{Dm:Int→Prop}{Pk:St→Prop}(ha:Ans false G g first cap Dm Pk)(l:List Int)(hl:l.length≤1000)(hd:∀c∈l,Dm c)(Z:St)(hp:Pk Z)(R:A→St→Prop)(h:R (di (-1)) Z):
  AC Tryz.prog G 165 [.d (bu l),.fn (.func g) first cap] Z R:=by
 unfold bu
 refine bg a9 Tryz.func165 rfl Tryz.ntmps165 (by simp only[go_sem]) λ hbd=> ?_
 simp only[ae,aj,Nat.reduceAdd,Nat.reduceSub,af,ag,ah,ak]
 simp only[go_sem,ac]
 refine aS (λ m fr st=>∃j:Nat,j≤l.length∧m=l.length - j∧st=Z∧fr=%[.d (.sl 1 (l.map iD)),.fn (.func g) first cap,.o,.o,.o,.o,.o,dn l.length,dn j|D4 [.o,.o]]) l.length _ (Wk.mask [0,1,7,8] ⟨0,by omega,by omega,rfl,rfl⟩) ?_
 rintro m fr Z ⟨j,hj,hm,rfl,rfl⟩
 rcases aC j l.length with hlt|hge
 ·have hd':decide ((j:Int)<(l.length:Int))=true:=by simp only[av];omega
  have w2:=bC j (by omega)
  have hc:=hd _ (bT 0 hlt)
  simp only[go_sem,hd',w2,bW hlt,ac,ad]
  refine⟨⟨by omega,by omega⟩,bH (ha _ _ _ hc hp ?_)⟩
  simp only[go_sem,hd',w2,ac,ad]
  exact Wk.mask [0,1,7,8] ⟨l.length - (j+1),by omega,j+1,by omega,rfl,rfl,rfl⟩
 ·have hd':decide ((j:Int)<(l.length:Int))=false:=by simp only[ay];omega
  simp only[go_sem,hd']
  exact cw h
theorem Bu{G:Glob}{g:FuncId}{first cap:List A}{Dm:Int→Prop}{Pk:St→Prop}(ha:Ans false G g first cap Dm Pk)(l:List Int)(hl:l.length≤1000)(hd:∀c∈l,Dm c)(Z:St)(hp:Pk Z)(R:A→St→Prop)(h:R (db false) Z):
  AC Tryz.prog G 151 [.d (bu l),.fn (.func g) first cap] Z R:=by
 refine bg a9 Tryz.func151 rfl Tryz.ntmps151 (by simp only[go_sem]) λ hbd=> ?_
 simp only[ae,aj,Nat.reduceAdd,Nat.reduceSub,af,ag,ah,ak]
 try simp only[go_sem]
 refine bH (index_p ha l hl hd _ hp _ ?_)
 try simp only[go_sem]
 exact cw h
structure Pred (G:Glob) (g:FuncId) (first cap:List A) (Dm:Int→Prop) (Pk:St→Prop):Prop where
 ans:Ans true G g first cap Dm Pk
 keep:∀st l,Pk st→Pk (st++l)
 bd:∀st,Pk st→(jo st.length first&&jo st.length cap)=true
theorem nc{G:Glob}{g:FuncId}{first cap:List A}{Dm:Int→Prop}{Pk:St→Prop}(ha:Pred G g first cap Dm Pk)(l:List Int)(hl:l.length≤1000)(hd:∀c∈l,Dm c)(Z:St)(hp:Pk Z)(R:A→St→Prop)(h:R (db true) Z):
  AC Tryz.prog G 133 [.d (bu l),.fn (.func g) first cap] Z R:=by
 refine bg a9 Tryz.func133 rfl Tryz.ntmps133 (by simp only[go_sem]) λ hbd=> ?_
 simp only[ae,aj,Nat.reduceAdd,Nat.reduceSub,af,ag,ah,ak]
 try simp only[go_sem]
 refine⟨ha.bd _ hp,bH (Bu (Cy ha.ans Z.length) l hl hd _ ⟨ha.keep _ _ hp,?_⟩ _ ?_)⟩
 ·rw[az (aE _),Et];rfl
 try simp only[go_sem]
 exact aQ hbd h
theorem over_p {G:Glob} (hG:G.g 0=some cB) {g:FuncId} {first cap:List A} {Dm:Int→Prop} {Pk:St→Prop} (ha:Pred G g first cap Dm Pk) (e:Ex) (hok:e.Ok) (hn:e.nodes≤600) (hd:e.deep 40=true)
  (h3:∀c∈jW 3 e,Dm c) (h2:∀c∈jW 2 e,Dm c) (Z:St) (hp:Pk Z) (R:A→St→Prop) (h:R (db true) Z):
  AC Tryz.prog G 138 [.d (eD e),.fn (.func g) first cap] Z R:=by
 have l3:=lP 3 e
 have l2:=lP 2 e
 have hs:=AG e hok hn hd
 rw[ed]at hs
 have hw3:=nc ha (jW 3 e) (by omega) h3
 have hw2:=nc ha (jW 2 e) (by omega) h2
 unfold eD at*
 refine bg a9 Tryz.func138 rfl Tryz.ntmps138 (by simp only[go_sem]) λ hbd=> ?_
 simp only[ae,aj,Nat.reduceAdd,Nat.reduceSub,af,ag,ah,ak]
 try simp only[go_sem]
 refine bH (hs _ _ hG _ ?_)
 try simp only[go_sem]
 refine bH (hw3 _ (ha.keep _ _ hp) _ ?_)
 try simp only[go_sem]
 refine gO (.bool true) ⟨λ _=> ?_,?_⟩
 ·refine⟨rfl,bH (hw2 _ (ha.keep _ _ hp) _ ?_)⟩
  simp only[go_sem]
 try simp only[go_sem]
 exact aQ hbd h
theorem jf{st l:St}{i:Nat}{o:Option Ob}(h:st[i]? =some o):(st++l)[i]? =some o:=by
 rw[aq (aA.1 h).1];exact h
theorem se(p:Prg){c:Int}(hr:0≤c∧c<p.cells.length)(Z:St)(G:Glob)(R:A→St→Prop)(h:R (db true) Z):AC Tryz.prog G 127 [di c,di ((p.cells.map fb).length:Nat)] Z R:=kK _ _ _ _ _ (by
 have hi:kj c p.cells.length=true:=by simp only[kj,av];exact hr
 rw[ac,hi];exact h)
theorem xk(p:Prg)(t:Int)(hn:p.cells.length≤1000)(G:Glob)(i j:Nat):Pred G 166 [] [.ref i 0,.ref j 0] (λ c=>p.owB t c=true) λ st=>st[i]? =some (bN p)∧st[j]? =some (some (.cells [di t])):=by
 refine⟨?_,λ st l h=>⟨jf h.1,jf h.2⟩,λ st h=> ?_⟩
 ·intro c st R hc ⟨h1,h2⟩ h
  rw[gB]at hc
  obtain⟨hr,ht⟩:=hc
  have hb:=se p hr
  have e1:=fZ p hr
  show AC Tryz.prog G 166 [di c,.ref i 0,.ref j 0] st R
  refine bM a9 Tryz.func166 rfl Tryz.ntmps166 (by simp only[go_sem]) λ hbd=> ?_
  simp only[ae,aj,Nat.reduceAdd,Nat.reduceSub,af,ag,ah,ak]
  try simp only[go_sem]
  refine bb (.tk 5 0<| .pure 5<| .tk 12 6<| .done) (by kernel_rfl) ?_
  simp only[aY,go_sem,aO h1,aX h1,aO h2,aX h2,ac]
  refine mN (db true) ⟨λ Z'=>bH (hb Z' G _ (And.intro rfl rfl)),?_⟩
  simp only[aY,go_sem,aO h1,aX h1,aO h2,aX h2,e1,fb,ht,ac]
  exact⟨hr,cw (by simpa using h)⟩
 ·have:=aL h.1
  have:=aL h.2
  simp only[jo,A.bd]
  simp;omega
theorem B7(p:Prg)(t:Int)(Z:St)(G:Glob)(R:A→St→Prop)(h:R (.fn (.func 166) [] [.ref Z.length 0,.ref (Z.length+1) 0]) (Z++[bN p,some (.cells [di t])])):AC Tryz.prog G 153 [.d (bK p),di t] Z R:=by
 unfold bK
 refine bg a9 Tryz.func153 rfl Tryz.ntmps153 (by simp only[go_sem]) λ hbd=> ?_
 simp only[ae,aj,Nat.reduceAdd,Nat.reduceSub,af,ag,ah,ak]
 try simp only[go_sem]
 exact⟨_,_,bw.refl _ _ _ _,h⟩
theorem nj(p:Prg)(hn:p.cells.length≤1000)(c:Int)(hc:0≤c∧c<p.cells.length)(Z:St)(G:Glob)(R:A→St→Prop)(h:R (db (decide ((p.cell c).thread= -1))) Z):AC Tryz.prog G 131 [.d (bK p),di c] Z R:=by
 have hb:=se p hc
 have e1:=fZ p hc
 have e2:((p.cell c).thread== -1)=decide ((p.cell c).thread= -1):=by rw[dD];simp
 unfold bK
 refine bg a9 Tryz.func131 rfl Tryz.ntmps131 (by simp only[go_sem]) λ hbd=> ?_
 simp only[ae,aj,Nat.reduceAdd,Nat.reduceSub,af,ag,ah,ak]
 simp only[aY,go_sem]
 refine bH (hb _ _ _ ?_)
 simp only[aY,go_sem,e1,fb,e2,ac]
 exact⟨hc,aQ hbd h⟩
theorem vA(p:Prg)(hn:p.cells.length≤1000)(G:Glob):Pred G 131 [.d (bK p)] [] (λ c=>p.shB c=true) λ _=>True:=by
 refine⟨λ c st R hc _ h=> ?_,λ _ _ h=>h,λ st h=>rfl⟩
 rw[eJ]at hc
 exact nj p hn c hc.1 _ _ _ (by rw[dU hc.2];exact h)
theorem oY(p:Prg)(t:Int)(hn:p.cells.length≤1000)(G:Glob)(i j a b:Nat):Pred G 154 [] [.ref i 0,.ref j 0] (λ c=>p.viB t c=true) λ st=>(st[i]? =some (bN p)∧st[j]? =some (some (.cells [.fn (.func 166) [] [.ref a 0,.ref b 0]])))∧(st[a]? =some (bN p)∧st[b]? =some (some (.cells [di t]))):=by
 refine⟨?_,λ st l h=>⟨⟨jf h.1.1,jf h.1.2⟩,⟨jf h.2.1,jf h.2.2⟩⟩,λ st h=> ?_⟩
 ·intro c st R hc ⟨⟨h1,h2⟩,h3⟩ h
  rw[jT]at hc
  obtain⟨hr,ht⟩:=hc
  have hs:=nj p hn c hr
  have ho:=(xk p t hn G a b).ans
  have e1:=fZ p hr
  show AC Tryz.prog G 154 [di c,.ref i 0,.ref j 0] st R
  unfold bK at hs
  by_cases hsh:(p.cell c).thread= -1
  ·rw[dU hsh]at hs
   refine bg a9 Tryz.func154 rfl Tryz.ntmps154 (by simp only[go_sem]) λ hbd=> ?_
   simp only[ae,aj,Nat.reduceAdd,Nat.reduceSub,af,ag,ah,ak]
   simp only[go_sem,aO h1,aX h1,aO h2,aX h2]
   refine bH (hs _ _ _ ?_)
   simp only[go_sem,aO h1,aX h1,aO h2,aX h2]
   refine gO (.bool true) ⟨λ q=>Bool.noConfusion q,?_⟩
   try simp only[go_sem]
   exact cw h
  ·rw[decide_eq_false hsh]at hs
   have hoo:p.owB t c=true:=gB.2 ⟨hr,by rcases ht with q|q;exact absurd q hsh;exact q⟩
   refine bg a9 Tryz.func154 rfl Tryz.ntmps154 (by simp only[go_sem]) λ hbd=> ?_
   simp only[ae,aj,Nat.reduceAdd,Nat.reduceSub,af,ag,ah,ak]
   simp only[go_sem,aO h1,aX h1,aO h2,aX h2]
   refine bH (hs _ _ _ ?_)
   simp only[go_sem,aO h1,aX h1,aO h2,aX h2]
   refine gO (.bool true) ⟨λ _=>⟨rfl,bH (ho c _ _ hoo h3 ?_)⟩,?_⟩
   ·simp only[go_sem]
   try simp only[go_sem]
   exact cw h
 ·have:=aL h.1.1
  have:=aL h.1.2
  simp only[jo,A.bd]
  simp;omega
theorem qK(p:Prg)(t:Int)(Z:St)(G:Glob)(R:A→St→Prop)(h:R (.fn (.func 154) [] [.ref Z.length 0,.ref (Z.length+3) 0]) (Z++[bN p,bN p,some (.cells [di t]),some (.cells [.fn (.func 166) [] [.ref (Z.length+1) 0,.ref (Z.length+2) 0]])])):AC Tryz.prog G 135 [.d (bK p),di t] Z R:=by
 have ho:=B7 p t
 unfold bK at*
 refine bg a9 Tryz.func135 rfl Tryz.ntmps135 (by simp only[go_sem]) λ hbd=> ?_
 simp only[ae,aj,Nat.reduceAdd,Nat.reduceSub,af,ag,ah,ak]
 try simp only[go_sem]
 refine bH (ho _ _ _ ?_)
 try simp only[go_sem]
 exact⟨_,_,bw.refl _ _ _ _,h⟩
theorem bit_p {G:Glob} (hG:G.g 0=some cB) {g:FuncId} {first cap:List A} {Dm:Int→Prop} {Pk:St→Prop} (ha:Pred G g first cap Dm Pk) (p:Prg) (e:Ex) (hok:e.Ok) (hn:e.nodes≤600) (pair:Bool) (hw:e.w=1) (hv:e.valid p.cells pair=true)
  (h3:∀c∈jW 3 e,Dm c) (h2:∀c∈jW 2 e,Dm c) (Z:St) (hp:Pk Z) (R:A→St→Prop) (h:R (db true) Z):
  AC Tryz.prog G 130 [.d (bK p),.d (eD e),db pair,.fn (.func g) first cap] Z R:=by
 obtain⟨_,hd,ho⟩:=Ex.valid_iff.1 hv
 have hva:=ng e hok hn p.cells pair
 rw[ed,hd,ho]at hva
 have hov:=over_p hG ha e hok hn hd h3 h2
 have e1:(e.w==1)=true:=by simp [hw]
 unfold eD bK at*
 refine bg a9 Tryz.func130 rfl Tryz.ntmps130 (by simp only[go_sem]) λ hbd=> ?_
 simp only[ae,aj,Nat.reduceAdd,Nat.reduceSub,af,ag,ah,ak]
 simp only[go_sem,e1]
 refine gO (.bool true) ⟨λ _=>⟨rfl,bH (hva _ _ hG _ ?_)⟩,?_⟩
 ·simp only[go_sem]
 simp only[go_sem,e1]
 refine gO (.bool true) ⟨λ _=>⟨rfl,bH (hov _ (ha.keep _ _ hp) _ ?_)⟩,?_⟩
 ·simp only[go_sem]
 simp only[go_sem,e1]
 exact aQ hbd h
abbrev celO(c:Cel):Option Ob:=some (.cells [.d (.str c.name),.d (iD c.w),.d (iD c.init),.d (iD c.thread),.d (.bool c.ghost),.d (iD c.mod)])
theorem kX{α β:Type}{f:α→β}{l:List α}{j:Nat}(d:α)(hlt:j<l.length)(h:((l.take j).map f).Nodup)(hk:∀k,k<j→f (l.getD k d)≠f (l.getD j d)):((l.take (j+1)).map f).Nodup:=by
 rw[bG d hlt,aJ,cW]
 refine⟨h,by simp,λ a ha b hb e=> ?_⟩
 simp only[aM,bq,cm]at hb
 obtain⟨x,hx,rfl⟩:=aI.1 ha
 obtain⟨k,hk2,rfl⟩:=bF hx
 have hkj:k<j:=by rw[aP]at hk2;omega
 refine hk k hkj ?_
 rw[List.getElem_take]at e
 rw[au,ap (by omega)]
 exact e.trans hb
theorem fm{α:Type}{P:α→Prop}{l:List α}{j:Nat}(d:α)(hlt:j<l.length)(h:∀x∈l.take j,P x)(hj:P (l.getD j d)):∀x∈l.take (j+1),P x:=by
 rw[bG d hlt]
 intro x hx
 rcases aW.1 hx with hx|hx
 ·exact h x hx
 ·rw[cm]at hx
  rw[hx];exact hj
theorem eN{c:Int}{Φ:Prop}(hc:c≠0)(h:¬Φ):c=0↔Φ:=⟨λ q=>absurd q hc,λ q=>absurd q h⟩
theorem ou{α β:Type}{f:α→β}{l:List α}{k j:Nat}(d:α)(hk:k<j)(hj:j<l.length)(e:f (l.getD k d)=f (l.getD j d)):¬(l.map f).Nodup:=λ h=>by
 rw[Da]at h
 have:=h k j (f (l.getD j d)) (by rw[aN,pk d (by omega),bJ,e]) (by rw[aN,pk d hj];rfl)
 omega
theorem Ad(p:Prg)(c:Cel):(!jj c.name||decide (c.w<1)||decide (8<c.w)||decide (c.init<0)||decide (((2^c.w.toNat:Nat):Int)≤c.init)||decide (c.thread< -1)||decide ((p.threads.length:Int)≤c.thread)|| !kj c.mod p.modules.length)=false↔CelOk p c:=by
 simp only[bA,cF,ay]
 have e2:((2:Int)^c.w.toNat)=((2^c.w.toNat:Nat):Int):=by simp
 constructor
 ·rintro⟨⟨⟨⟨⟨⟨⟨q1,q2⟩,q3⟩,q4⟩,q5⟩,q6⟩,q7⟩,q8⟩
  exact⟨q1,by omega,by omega,by omega,cS.1 q8⟩
 ·rintro⟨q1,q2,q3,q4,q5⟩
  exact⟨⟨⟨⟨⟨⟨⟨q1,by omega⟩,by omega⟩,by omega⟩,by omega⟩,by omega⟩,by omega⟩,cS.2 q5⟩
theorem yX(w:Int)(hw:0≤w∧w≤60)(Z:St)(G:Glob)(R:A→St→Prop)(h:R (di ((2^w.toNat:Nat):Int)) Z):AC Tryz.prog G 102 [di w] Z R:=by
 have hq:=pow_ac w.toNat (by omega) Z G R h
 have e:((w.toNat:Nat):Int)=w:=by omega
 unfold dn at hq
 rw[e]at hq
 exact hq
theorem cells_r(p:Prg)(hs:p.Small)(hnm:∀c∈p.cells,c.name.length≤reachBytes)(Z:St)(G:Glob)(R:A→St→Prop)(h:∀c:Int,(c=0↔lL p)→R (di c) Z):AC Tryz.prog G 64 [.d (bK p)] Z R:=by
 have hn:=hs.ncel
 unfold bK
 refine bD [5,7] a9 Tryz.func64 rfl Tryz.ntmps64 (by simp only[go_sem]) λ hbd=> ?_
 simp only[ae,aj,Nat.reduceAdd,Nat.reduceSub,af,ag,ah,ak]
 simp only[aY,go_sem,ac]
 refine aS (λ m fr st=>∃j:Nat,j≤p.cells.length∧m=p.cells.length - j∧(∀c∈p.cells.take j,CelOk p c)∧((p.cells.take j).map Cel.name).Nodup∧fr=%[.o,.ref Z.length 0,.o,dn j|D7 (D4 [.o,.o,.o,.o,.o])]∧st=Z++[bN p]) p.cells.length _ (Wk.mask [1,3] ⟨0,by omega,by omega,by simp,by simp,rfl,rfl⟩) ?_
 rintro m fr st ⟨j,hj,hm,hall,hnd,rfl,rfl⟩
 rcases aC j p.cells.length with hlt|hge
 ·have hd:decide ((j:Int)<(p.cells.length:Int))=true:=by simp only[av];omega
  have w2:=bC j (by omega)
  obtain⟨c,hc⟩:∃c,p.cells.getD j fU=c:=⟨_,rfl⟩
  have hcm:c∈p.cells:=by rw[←hc];exact bT fU hlt
  have g1:List.getD (p.cells.map fb) j default=fb c:=by rw[iM hlt,hc]
  simp only[aY,go_sem,hd,ac]
  refine bc (λ fr st=>fr=%[.o,.ref Z.length 0,.o,dn j,.ref (Z.length+1) 0|D7 (D4 [.o,.o,.o,.o])]∧st=Z++[bN p,celO c]) ?_ ?_
  ·simp only[aY,go_sem,hd,g1,fb,ac,ad]
   exact⟨⟨by omega,by omega⟩,Wk.mask [1,3,4] ⟨rfl,rfl⟩⟩
  rintro fr st ⟨rfl,rfl⟩
  refine bc (λ fr st=>CelOk p c∧fr=%[.o,.ref Z.length 0,.o,dn j,.ref (Z.length+1) 0|D7 (D4 [.o,.o,.o,.o])]∧st=Z++[bN p,celO c]) ?_ ?_
  ·simp only[aY,go_sem,ac,ad]
   refine bb (.tk 2 0<| .pure 2<| .tk 17 3<| .tk 2 22<| .pure 24<| .tk 2 20<| .tk 21 25<| .pure 46<| .tk 2 47<| .done) (by kernel_rfl) ?_
   simp only[aY,go_sem,ac,ad]
   refine Go.Ab.mN (db (jj c.name)) ⟨λ Z'=>bH (qg c.name (hnm c hcm) _ _ _ ⟨rfl,rfl⟩),?_⟩
   simp only[aY,go_sem,ac,ad]
   refine⟨λ q=>by simpa using q,Go.Ab.exQ (iD ((2^c.w.toNat:Nat):Int)) ⟨λ hg=> ?_,?_⟩⟩
   ·simp only[go_sem]
    refine⟨hg,λ Z'=> ?_⟩
    simp only[bQ,bA,ay]at hg
    exact bH (yX c.w (by omega) _ _ _ ⟨rfl,rfl⟩)
   simp only[aY,go_sem,ac,ad]
   refine Go.Ab.exQ (.bool (kj c.mod p.modules.length)) ⟨λ hg=> ?_,?_⟩
   ·simp only[go_sem]
    exact⟨hg,λ Z'=>bH (k8 _ _ _ _ _ ⟨by rw[ac],rfl⟩)⟩
   simp only[aY,go_sem,ac,ad]
   refine⟨λ q=>aQ hbd (h 1 (eN (by decide) λ k=> ?_)),λ q=>Wk.mask [1,3,4] ⟨(Ad p c).1 q,rfl,rfl⟩⟩
   rw[(Ad p c).2 (k.1 c hcm)]at q
   exact Bool.noConfusion q
  rintro fr st ⟨hco,rfl,rfl⟩
  simp only[aY,go_sem,ac,ad]
  refine aS (λ m fr st=>∃k:Nat,k≤j∧m=j - k∧(∀i,i<k→(p.cells.getD i fU).name≠c.name)∧fr=%[.o,.ref Z.length 0,.o,dn j,.ref (Z.length+1) 0,dn k|D7 (D4 [.o,.o,.o])]∧st=Z++[bN p,celO c]) j _ (Wk.mask [1,3,4,5] ⟨0,by omega,by omega,λ i hi=>absurd hi (by omega),rfl,rfl⟩) ?_
  rintro m2 fr st ⟨k,hk,hm2,hne,rfl,rfl⟩
  rcases aC k j with hkl|hkg
  ·have hd2:decide ((k:Int)<(j:Int))=true:=by simp only[av];omega
   have w3:=bC k (by omega)
   have g2:List.getD (p.cells.map fb) k default=fb (p.cells.getD k fU):=iM (by omega)
   simp only[aY,go_sem,hd2,ac]
   refine bb (.tk 9 0<| .done) (by kernel_rfl) ?_
   simp only[aY,go_sem,w3,g2,fb,ac,ad]
   refine⟨⟨by omega,by omega⟩,λ q=>aQ hbd (h 41 (eN (by decide) λ hh=>ou (f:=Cel.name) fU hkl hlt (by rw[hc];simpa using q) hh.2)),λ q=>Wk.mask [1,3,4,5] ⟨j - (k+1),by omega,k+1,by omega,rfl,λ i hi=> ?_,rfl,rfl⟩⟩
   rcases aC i k with h1|h1
   ·exact hne i h1
   ·obtain rfl:i=k:=by omega
    simpa using q
  ·have hd2:decide ((k:Int)<(j:Int))=false:=by simp only[ay];omega
   simp only[aY,go_sem,hd2,w2,ac,ad]
   obtain rfl:k=j:=by omega
   exact Wk.keep [1,3] [0] (by decide) (aE _) hbd ⟨p.cells.length - (k+1),by omega,k+1,by omega,rfl,fm fU hlt hall (by rw[hc];exact hco),kX fU hlt hnd (by rw[hc];exact hne),by simp only[go_sem],by simp only[go_sem]⟩
 ·have hd:decide ((j:Int)<(p.cells.length:Int))=false:=by simp only[ay];omega
  obtain rfl:j=p.cells.length:=by omega
  simp only[aY,go_sem,hd,ac]
  rw[bB]at hall hnd
  exact aQ hbd (h 0 ⟨λ _=>⟨hall,hnd⟩,λ _=>rfl⟩)
theorem xx(e:Ex):e.kids.length≤e.nodes:=by
 rw[Ex.nodes_eq]
 have:∀l:List Ex,l.length≤(l.map Ex.nodes).sum:=by
  intro l
  induction l with
  |nil=>simp
  |cons a l ih=>
   have:=Ex.nodes_eq a
   simp only[ae,aM,Ey]
   omega
 have:=this e.kids
 omega
theorem zh:∀(n:Nat) (e:Ex),e.nodes≤n→n≤1000→e.Ok
 |0,e,h,_=>by rw[Ex.nodes_eq]at h;omega
 |n+1,e,h,hn=>by
  have h1:=xx e
  refine .mk (by simp [reachBytes];omega) λ k hk=>zh n k ?_ (by omega)
  have:k.nodes≤(e.kids.map Ex.nodes).sum:=by
   have:∀{l:List Nat} {x:Nat},x∈l→x≤l.sum:=by
    intro l
    induction l with
    |nil=>intro x hx;cases hx
    |cons a l ih=>
     intro x hx
     rw[Ey]
     rcases aV.1 hx with rfl|hx
     ·omega
     ·have:=ih hx;omega
   exact this (aI.2 ⟨k,hk,rfl⟩)
  rw[Ex.nodes_eq]at h
  omega
theorem lF{e:Ex}(h:e.nodes≤40):e.Ok:=zh 40 e h (by omega)
theorem BR(p:Prg):p.viB (-1)=p.shB:=by
 funext c
 rw[dD,jT,eJ,or_self]
def sW(p:Prg):Prop:=(∀l∈p.locks,LckOk p l)∧(p.locks.map Lck.cell).Nodup
theorem locks_r(p:Prg)(hs:p.Small)(hc:lL p)(Z:St)(G:Glob)(R:A→St→Prop)(h:∀c:Int,(c=0↔sW p)→R (di c) Z):AC Tryz.prog G 66 [.d (bK p)] Z R:=by
 have hn:=hs.ncel
 have hnl:=hs.nlck
 unfold bK
 refine bD [5,7,12] a9 Tryz.func66 rfl Tryz.ntmps66 (by simp only[go_sem]) λ hbd=> ?_
 simp only[ae,aj,Nat.reduceAdd,Nat.reduceSub,af,ag,ah,ak]
 simp only[aY,go_sem,ac]
 refine aS (λ m fr st=>∃j:Nat,j≤p.locks.length∧m=p.locks.length - j∧(∀c∈p.locks.take j,LckOk p c)∧((p.locks.take j).map Lck.cell).Nodup∧fr=%[.o,.ref Z.length 0,.o,dn j|D7 (D4 [.o,.o,.o,.o,.o,.o])]∧st=Z++[bN p]) p.locks.length _ (Wk.mask [1,3] ⟨0,by omega,by omega,by simp,by simp,rfl,rfl⟩) ?_
 rintro m fr st ⟨j,hj,hm,hall,hnd,rfl,rfl⟩
 rcases aC j p.locks.length with hlt|hge
 ·have hd:decide ((j:Int)<(p.locks.length:Int))=true:=by simp only[av];omega
  have w2:=bC j (by omega)
  obtain⟨l,hl⟩:∃l,p.locks.getD j mJ=l:=⟨_,rfl⟩
  have hlm:l∈p.locks:=by rw[←hl];exact bT mJ hlt
  have g1:List.getD (p.locks.map iZ) j default=iZ l:=by rw[xw hlt,hl]
  simp only[aY,go_sem,hd,ac]
  refine bc (λ fr st=>fr=%[.o,.ref Z.length 0,.o,dn j,.ref (Z.length+1) 0|D7 (D4 [.o,.o,.o,.o,.o])]∧st=Z++[bN p,lckO l]) ?_ ?_
  ·simp only[aY,go_sem,hd,g1,iZ,ac,ad]
   exact⟨⟨by omega,by omega⟩,Wk.mask [1,3,4] ⟨rfl,rfl⟩⟩
  rintro fr st ⟨rfl,rfl⟩
  refine bc (λ fr st=>(p.shB l.cell=true∧(p.cell l.cell).w=1∧(p.cell l.cell).ghost=false∧0≤l.mod∧l.mod<p.modules.length)∧fr=%[.o,.ref Z.length 0,.o,dn j,.ref (Z.length+1) 0|D7 (D4 [.o,.o,.o,.o,.o])]∧st=Z++[bN p,lckO l]) ?_ ?_
  ·simp only[aY,go_sem,ac,ad]
   refine bH (k8 _ _ _ _ _ ?_)
   cases hin:kj l.cell (p.cells.length:Int)with
   |false=>
    simp only[aY,go_sem,hin,ac,ad]
    refine gO (.bool false) ⟨λ q=>Bool.noConfusion q,?_⟩
    simp only[aY,go_sem,ac,ad]
    exact aQ hbd (h 1 (eN (by decide) λ k=>by rw[cS.2 (eJ.1 (k.1 l hlm).cell).1]at hin;exact Bool.noConfusion hin))
   |true=>
    have hcr:=cS.1 hin
    simp only[aY,go_sem,hin,fZ p hcr,fb,ac,ad]
    refine⟨hcr,λ q=>⟨q,hcr⟩,λ q=>⟨q,hcr⟩,gO (.bool (kj l.mod p.modules.length)) ⟨λ hg=> ?_,?_⟩⟩
    ·simp only[go_sem]
     exact⟨hg,bH (k8 _ _ _ _ _ ⟨by rw[ac],rfl⟩)⟩
    simp only[aY,go_sem,ac,ad]
    refine⟨λ q=>aQ hbd (h 1 (eN (by decide) λ k=> ?_)),λ q=>Wk.mask [1,3,4] ⟨?_,rfl,rfl⟩⟩
    ·have kk:=k.1 l hlm
     rw[(eJ.1 kk.cell).2,kk.w,kk.real,cS.2 kk.mod]at q
     exact absurd q (by decide)
    simp only[bA,cF,bne_eq_false_iff_eq]at q
    obtain⟨⟨⟨q1,q2⟩,q3⟩,q4⟩:=q
    exact⟨eJ.2 ⟨hcr,q1⟩,q2,q3,cS.1 q4⟩
  rintro fr st ⟨hco,rfl,rfl⟩
  refine bc (λ fr st=>(∀i,i<j→(p.locks.getD i mJ).cell≠l.cell)∧fr=%[.o,.ref Z.length 0,.o,dn j,.ref (Z.length+1) 0|D7 (D4 [.o,.o,.o,.o,.o])]∧st=Z++[bN p,lckO l]) ?_ ?_
  ·simp only[aY,go_sem,ac,ad]
   refine aS (λ m fr st=>∃k:Nat,k≤j∧m=j - k∧(∀i,i<k→(p.locks.getD i mJ).cell≠l.cell)∧fr=%[.o,.ref Z.length 0,.o,dn j,.ref (Z.length+1) 0,dn k|D7 (D4 [.o,.o,.o,.o])]∧st=Z++[bN p,lckO l]) j _ (Wk.mask [1,3,4,5] ⟨0,by omega,by omega,λ i hi=>absurd hi (by omega),rfl,rfl⟩) ?_
   rintro m2 fr st ⟨k,hk,hm2,hne,rfl,rfl⟩
   rcases aC k j with hkl|hkg
   ·have hd2:decide ((k:Int)<(j:Int))=true:=by simp only[av];omega
    have w3:=bC k (by omega)
    have g2:List.getD (p.locks.map iZ) k default=iZ (p.locks.getD k mJ):=xw (by omega)
    simp only[aY,go_sem,hd2,ac]
    refine bb (.tk 9 0<| .done) (by kernel_rfl) ?_
    simp only[aY,go_sem,w3,g2,iZ,ac,ad]
    refine⟨⟨by omega,by omega⟩,λ q=>aQ hbd (h 1 (eN (by decide) λ hh=>ou (f:=Lck.cell) mJ hkl hlt (by rw[hl];simpa using q) hh.2)),λ q=>Wk.mask [1,3,4,5] ⟨j - (k+1),by omega,k+1,by omega,rfl,λ i hi=> ?_,rfl,rfl⟩⟩
    rcases aC i k with h1|h1
    ·exact hne i h1
    ·obtain rfl:i=k:=by omega
     simpa using q
   ·have hd2:decide ((k:Int)<(j:Int))=false:=by simp only[ay];omega
    simp only[aY,go_sem,hd2,w2,ac,ad]
    obtain rfl:k=j:=by omega
    exact Wk.mask [1,3,4] ⟨hne,rfl,rfl⟩
  rintro fr st ⟨hne,rfl,rfl⟩
  have tr:=sG p (by omega) hc l.inv (lF (hs.locks l hlm)) false (-1)
  unfold bK eD at tr
  simp only[aY,go_sem,ac,ad]
  refine bH (tr _ _ _ ?_)
  rw[BR]
  simp only[aY,go_sem,w2,ac,ad]
  refine⟨λ q=>aQ hbd (h 60 (eN (by decide) λ k=>by rw[(k.1 l hlm).inv]at q;exact Bool.noConfusion q)),λ q=> ?_⟩
  have hb:p.truB l.inv false p.shB=true:=by simpa using q
  exact Wk.keep [1,3] [0] (by decide) (aE _) hbd ⟨p.locks.length - (j+1),by omega,j+1,by omega,rfl,fm mJ hlt hall (by rw[hl];exact⟨hco.1,hco.2.1,hco.2.2.1,hco.2.2.2,hb⟩),kX mJ hlt hnd (by rw[hl];exact hne),by simp only[go_sem],by simp only[go_sem]⟩
 ·have hd:decide ((j:Int)<(p.locks.length:Int))=false:=by simp only[ay];omega
  obtain rfl:j=p.locks.length:=by omega
  simp only[aY,go_sem,hd,ac]
  rw[bB]at hall hnd
  exact aQ hbd (h 0 ⟨λ _=>⟨hall,hnd⟩,λ _=>rfl⟩)
abbrev zZ(m:Ctr):Option Ob:=some (.cells [.d (.str m.name),.d (.str m.owner),.d (iD m.rely.op),.d (iD m.rely.w),.d (iD m.rely.n),.d (.sl 4 (m.rely.kids.map Ex.d)),.d (iD m.guar.op),.d (iD m.guar.w),.d (iD m.guar.n),.d (.sl 4 (m.guar.kids.map Ex.d)),.d (bu m.frame)])
def xU(p:Prg):Prop:=(∀m∈p.modules,CtrOk p m)∧(p.modules.map Ctr.name).Nodup
theorem Dg(p:Prg)(hs:p.Small)(hz:∀m∈p.modules,m.name.length≤reachBytes∧m.owner.length≤reachBytes)(hc:lL p)(Z:St)(G:Glob)(R:A→St→Prop)(h:∀c:Int,(c=0↔xU p)→R (di c) Z):AC Tryz.prog G 65 [.d (bK p)] Z R:=by
 have hn:=hs.ncel
 have hnl:=hs.nmod
 unfold bK
 refine bD [5,7,12,14,19] a9 Tryz.func65 rfl Tryz.ntmps65 (by simp only[go_sem]) λ hbd=> ?_
 simp only[ae,aj,Nat.reduceAdd,Nat.reduceSub,af,ag,ah,ak]
 simp only[aY,go_sem,ac]
 refine aS (λ m fr st=>∃j:Nat,j≤p.modules.length∧m=p.modules.length - j∧(∀c∈p.modules.take j,CtrOk p c)∧((p.modules.take j).map Ctr.name).Nodup∧fr=%[.o,.ref Z.length 0,.o,dn j|D7 (D5 (D4 [.o,.o,.o]))]∧st=Z++[bN p]) p.modules.length _ (Wk.mask [1,3] ⟨0,by omega,by omega,by simp,by simp,rfl,rfl⟩) ?_
 rintro m fr st ⟨j,hj,hm,hall,hnd,rfl,rfl⟩
 rcases aC j p.modules.length with hlt|hge
 ·have hd:decide ((j:Int)<(p.modules.length:Int))=true:=by simp only[av];omega
  have w2:=bC j (by omega)
  obtain⟨l,hl⟩:∃l,p.modules.getD j mj=l:=⟨_,rfl⟩
  have hlm:l∈p.modules:=by rw[←hl];exact bT mj hlt
  obtain⟨hfr,hrn,hgn⟩:=hs.modules l hlm
  have g1:List.getD (p.modules.map iH) j default=iH l:=by rw[xM hlt,hl]
  simp only[aY,go_sem,hd,ac]
  refine bc (λ fr st=>fr=%[.o,.ref Z.length 0,.o,dn j,.ref (Z.length+1) 0|D7 (D5 (D4 [.o,.o]))]∧st=Z++[bN p,zZ l]) ?_ ?_
  ·simp only[aY,go_sem,hd,g1,iH,ac,ad]
   exact⟨⟨by omega,by omega⟩,Wk.mask [1,3,4] ⟨rfl,rfl⟩⟩
  rintro fr st ⟨rfl,rfl⟩
  refine bc (λ fr st=>(jj l.name=true∧jj l.owner=true)∧fr=%[.o,.ref Z.length 0,.o,dn j,.ref (Z.length+1) 0|D7 (D5 (D4 [.o,.o]))]∧st=Z++[bN p,zZ l]) ?_ ?_
  ·simp only[aY,go_sem,ac,ad]
   refine bH (qg _ (hz l hlm).1 _ _ _ ?_)
   simp only[aY,go_sem,ac,ad]
   refine gO (.bool (jj l.owner)) ⟨λ hg=> ?_,?_⟩
   ·simp only[go_sem]
    exact⟨hg,bH (qg _ (hz l hlm).2 _ _ _ ⟨rfl,rfl⟩)⟩
   simp only[aY,go_sem,ac,ad]
   refine⟨λ q=>by simpa using q,λ q=>aQ hbd (h 1 (eN (by decide) λ k=>by rw[(k.1 l hlm).name,(k.1 l hlm).owner]at q;exact Bool.noConfusion q)),λ q=>Wk.mask [1,3,4] ⟨by simpa using q,rfl,rfl⟩⟩
  rintro fr st ⟨hco,rfl,rfl⟩
  refine bc (λ fr st=>(∀i,i<j→(p.modules.getD i mj).name≠l.name)∧fr=%[.o,.ref Z.length 0,.o,dn j,.ref (Z.length+1) 0|D7 (D5 (D4 [.o,.o]))]∧st=Z++[bN p,zZ l]) ?_ ?_
  ·simp only[aY,go_sem,ac,ad]
   refine aS (λ m fr st=>∃k:Nat,k≤j∧m=j - k∧(∀i,i<k→(p.modules.getD i mj).name≠l.name)∧fr=%[.o,.ref Z.length 0,.o,dn j,.ref (Z.length+1) 0,dn k|D7 (D5 (D4 [.o]))]∧st=Z++[bN p,zZ l]) j _ (Wk.mask [1,3,4,5] ⟨0,by omega,by omega,λ i hi=>absurd hi (by omega),rfl,rfl⟩) ?_
   rintro m2 fr st ⟨k,hk,hm2,hne,rfl,rfl⟩
   rcases aC k j with hkl|hkg
   ·have hd2:decide ((k:Int)<(j:Int))=true:=by simp only[av];omega
    have w3:=bC k (by omega)
    have g2:List.getD (p.modules.map iH) k default=iH (p.modules.getD k mj):=xM (by omega)
    simp only[aY,go_sem,hd2,ac]
    refine bb (.tk 9 0<| .done) (by kernel_rfl) ?_
    simp only[aY,go_sem,w3,g2,iH,ac,ad]
    refine⟨⟨by omega,by omega⟩,λ q=>aQ hbd (h 41 (eN (by decide) λ hh=>ou (f:=Ctr.name) mj hkl hlt (by rw[hl];simpa using q) hh.2)),λ q=>Wk.mask [1,3,4,5] ⟨j - (k+1),by omega,k+1,by omega,rfl,λ i hi=> ?_,rfl,rfl⟩⟩
    rcases aC i k with h1|h1
    ·exact hne i h1
    ·obtain rfl:i=k:=by omega
     simpa using q
   ·have hd2:decide ((k:Int)<(j:Int))=false:=by simp only[ay];omega
    simp only[aY,go_sem,hd2,w2,ac,ad]
    obtain rfl:k=j:=by omega
    exact Wk.mask [1,3,4] ⟨hne,rfl,rfl⟩
  rintro fr st ⟨hne,rfl,rfl⟩
  refine bc (λ fr st=>((l.rely.absent=true∨p.truB l.rely true p.shB=true)∧p.truB l.guar true p.shB=true)∧fr=%[.o,.ref Z.length 0,.o,dn j,.ref (Z.length+1) 0|D7 (D5 (D4 [.o,.o]))]∧st=Z++[bN p,zZ l]) ?_ ?_
  ·have tr:=sG p (by omega) hc l.rely (lF hrn) true (-1)
   have tg:=sG p (by omega) hc l.guar (lF hgn) true (-1)
   have ab:=DR l.rely (by have:=xx l.rely;simp [reachBytes];omega)
   rw[BR]at tr tg
   unfold bK eD at tr tg
   unfold eD at ab
   simp only[aY,go_sem,ac,ad]
   refine bH (ab _ _ _ ?_)
   have guarEnd:∀(b:Bool),(b=true→p.truB l.guar true p.shB=true)→((!b)=false→p.truB l.guar true p.shB=true):=λ b hb q=>hb (by simpa using q)
   cases hab:l.rely.absent with
   |true=>
    simp only[aY,go_sem,hab,ac,ad]
    refine gO (.bool false) ⟨λ q=>Bool.noConfusion q,?_⟩
    simp only[aY,go_sem,ac,ad]
    refine exs ⟨λ _=> ?_,λ q=>Bool.noConfusion q⟩
    simp only[aY,go_sem,ac,ad]
    refine bH (tg _ _ _ ?_)
    obtain⟨b,hbq⟩:∃b,p.truB l.guar true p.shB=b:=⟨_,rfl⟩
    rw[hbq]
    simp only[aY,go_sem,ac,ad]
    refine⟨λ q=>aQ hbd (h 60 (eN (by decide) λ k=>by rw[(k.1 l hlm).guar]at hbq;rw[←hbq]at q;exact Bool.noConfusion q)),λ q=>Wk.mask [1,3,4] ⟨⟨.inl trivial,by simpa using q⟩,rfl,rfl⟩⟩
   |false=>
    simp only[aY,go_sem,hab,ac,ad]
    refine exs ⟨λ _=> ?_,λ q=>Bool.noConfusion q⟩
    simp only[aY,go_sem,ac,ad]
    refine bH (tr _ _ _ ?_)
    obtain⟨b,hb⟩:∃b,p.truB l.rely true p.shB=b:=⟨_,rfl⟩
    rw[hb]
    cases b with
    |false=>
     simp only[aY,go_sem,ac,ad]
     refine gO (.bool false) ⟨λ q=>Bool.noConfusion q,?_⟩
     simp only[aY,go_sem,ac,ad]
     exact aQ hbd (h 60 (eN (by decide) λ k=>(k.1 l hlm).rely.elim (λ q=>by rw[hab]at q;exact Bool.noConfusion q) (λ q=>by rw[hb]at q;exact Bool.noConfusion q)))
    |true=>
     simp only[aY,go_sem,ac,ad]
     refine exs ⟨λ _=> ?_,λ q=>Bool.noConfusion q⟩
     simp only[aY,go_sem,ac,ad]
     refine bH (tg _ _ _ ?_)
     obtain⟨b2,hbq2⟩:∃b,p.truB l.guar true p.shB=b:=⟨_,rfl⟩
     rw[hbq2]
     simp only[aY,go_sem,ac,ad]
     refine⟨λ q=>aQ hbd (h 60 (eN (by decide) λ k=>by rw[(k.1 l hlm).guar]at hbq2;rw[←hbq2]at q;exact Bool.noConfusion q)),λ q=>Wk.mask [1,3,4] ⟨⟨.inr trivial,by simpa using q⟩,rfl,rfl⟩⟩
  rintro fr st ⟨htr,rfl,rfl⟩
  refine bc (λ fr st=>(∀c∈l.frame,p.shB c=true)∧fr=%[.o,.ref Z.length 0,.o,dn j,.ref (Z.length+1) 0|D7 (D5 (D4 [.o,.o]))]∧st=Z++[bN p,zZ l]) ?_ ?_
  ·simp only[aY,bu,go_sem,ac,ad]
   refine aS (λ m fr st=>∃k:Nat,k≤l.frame.length∧m=l.frame.length - k∧(∀c∈l.frame.take k,p.shB c=true)∧fr=%[.o,.ref Z.length 0,.o,dn j,.ref (Z.length+1) 0,.o,dn k|D7 (D5 (D4 []))]∧st=Z++[bN p,zZ l]) l.frame.length _ (Wk.mask [1,3,4,6] ⟨0,by omega,by omega,by simp,rfl,rfl⟩) ?_
   rintro m2 fr st ⟨k,hk,hm2,hfa,rfl,rfl⟩
   rcases aC k l.frame.length with hkl|hkg
   ·have hd2:decide ((k:Int)<(l.frame.length:Int))=true:=by simp only[av];omega
    have w3:=bC k (by omega)
    obtain⟨c,hcc⟩:∃c,l.frame.getD k 0=c:=⟨_,rfl⟩
    have g2:List.getD (l.frame.map iD) k default=iD c:=by rw[bW hkl,hcc]
    have hcm:c∈l.frame:=by rw[←hcc];exact bT 0 hkl
    simp only[aY,bu,go_sem,hd2,ac]
    refine bb (.tk 8 0<| .pure 8<| .tk 14 9<| .done) (by kernel_rfl) ?_
    simp only[aY,bu,go_sem,w3,g2,ac,ad]
    refine⟨⟨by omega,by omega⟩,Go.Ab.mN (db (kj c p.cells.length)) ⟨λ Z'=>bH (k8 _ _ _ _ _ ⟨rfl,rfl⟩),?_⟩⟩
    cases hin:kj c (p.cells.length:Int)with
    |false=>
     simp only[aY,bu,go_sem,hin,w3,g2,ac,ad]
     exact aQ hbd (h 1 (eN (by decide) λ k=>by rw[cS.2 (eJ.1 ((k.1 l hlm).frame c hcm)).1]at hin;exact Bool.noConfusion hin))
    |true=>
     have hcr:=cS.1 hin
     simp only[aY,bu,go_sem,hin,w3,g2,fZ p hcr,fb,ac,ad]
     refine⟨⟨by omega,by omega⟩,hcr,λ q=>aQ hbd (h 1 (eN (by decide) λ k=>by rw[(eJ.1 ((k.1 l hlm).frame c hcm)).2]at q;exact absurd q (by decide))),λ q=>Wk.mask [1,3,4,6] ⟨l.frame.length - (k+1),by omega,k+1,by omega,rfl,?_,rfl,rfl⟩⟩
     exact fm 0 hkl hfa (by rw[hcc];exact eJ.2 ⟨hcr,by simpa using q⟩)
   ·have hd2:decide ((k:Int)<(l.frame.length:Int))=false:=by simp only[ay];omega
    simp only[aY,bu,go_sem,hd2,w2,ac,ad]
    obtain rfl:k=l.frame.length:=by omega
    rw[bB]at hfa
    exact Wk.mask [1,3,4] ⟨hfa,rfl,rfl⟩
  rintro fr st ⟨hfa,rfl,rfl⟩
  simp only[aY,go_sem,w2,ac,ad]
  refine bH (vG _ (by simp [reachBytes];omega) _ _ _ λ b hb=> ?_)
  simp only[aY,go_sem,w2,ac,ad]
  refine⟨λ q=>aQ hbd (h 1 (eN (by decide) λ k=>by rw[hb.2 (k.1 l hlm).rise]at q;exact Bool.noConfusion q)),λ q=> ?_⟩
  exact Wk.keep [1,3] [0] (by decide) (aE _) hbd ⟨p.modules.length - (j+1),by omega,j+1,by omega,rfl,fm mj hlt hall (by rw[hl];exact⟨hco.1,hco.2,htr.1,htr.2,hfa,hb.1 (by simpa using q)⟩),kX mj hlt hnd (by rw[hl];exact hne),by simp only[go_sem],by simp only[go_sem]⟩
 ·have hd:decide ((j:Int)<(p.modules.length:Int))=false:=by simp only[ay];omega
  obtain rfl:j=p.modules.length:=by omega
  simp only[aY,go_sem,hd,ac]
  rw[bB]at hall hnd
  exact aQ hbd (h 0 ⟨λ _=>⟨hall,hnd⟩,λ _=>rfl⟩)
end
end Go.Proofs.YtdpdbokicanpoaaGreatDoor
section
namespace Go.Proofs.YtdpdbokicanpoaaGreatDoor
theorem Au{Φ:Prop}(h:¬Φ):(false=true↔Φ):=⟨λ q=>Bool.noConfusion q,λ q=>absurd q h⟩
theorem Av{Φ:Prop}(h:Φ):(true=true↔Φ):=⟨λ _=>h,λ _=>rfl⟩
section
variable {p:Prg} {t:Int} {s:Stp}
theorem kindOk1(k:s.kind=1)(h:jR p t s):∀a∈s.set,p.owB t a.cell=true:=by
 rcases h with h|h|h|h|h|h|h
 ·exactλ a ha=>(h.2.2 a ha).2
 all_goals exact absurd (h.1.symm.trans k) (by decide)
theorem idx_of{α:Type}{P:α→Prop}{l r:List α}{a:α}(d:α)(e:l=a::r)(h:∀b∈r,P b):∀i,0<i→i<l.length→P (l.getD i d):=λ i hi hl=>by
 subst e
 obtain⟨j,rfl⟩:∃j,i=j+1:=⟨i - 1,by omega⟩
 rw[eU]
 have hl2:j<r.length:=by simpa using hl
 rw[au,ap hl2]
 exact h _ (bI hl2)
theorem om(k:s.kind=2)(h:jR p t s):0<s.set.length∧p.owB t (s.set.getD 0 dt).cell=true∧(p.cell (s.set.getD 0 dt).cell).ghost=false∧(s.set.getD 0 dt).to.op=2∧p.shB (s.set.getD 0 dt).to.n=true∧(p.cell (s.set.getD 0 dt).to.n).ghost=false∧
  ∀i,0<i→i<s.set.length→p.owB t (s.set.getD i dt).cell=true∧(p.cell (s.set.getD i dt).cell).ghost=true∧(s.set.getD i dt).to.allB (p.owB t)=true:=by
 rcases h with h|h|h|h|h|h|h
 ·exact absurd (h.1.symm.trans k) (by decide)
 ·obtain⟨_,_,a,r,e,h1,h2,h3,h4,h5,h6⟩:=h
  have h7:=idx_of dt e h6
  refine⟨by rw[e];simp,?_,?_,?_,?_,?_,h7⟩<;> (rw[e,dA];assumption)
 all_goals exact absurd (h.1.symm.trans k) (by decide)
theorem sL(k:s.kind=3)(h:jR p t s):0<s.set.length∧p.shB (s.set.getD 0 dt).cell=true∧(p.cell (s.set.getD 0 dt).cell).ghost=false∧∀i,0<i→i<s.set.length→(p.cell (s.set.getD i dt).cell).ghost=true∧p.viB t (s.set.getD i dt).cell=true:=by
 rcases h with h|h|h|h|h|h|h
 ·exact absurd (h.1.symm.trans k) (by decide)
 ·exact absurd (h.1.symm.trans k) (by decide)
 ·obtain⟨_,_,_,a,r,e,h1,h2,h6⟩:=h
  have h7:=idx_of dt e h6
  refine⟨by rw[e];simp,?_,?_,h7⟩<;> (rw[e,dA];assumption)
 all_goals exact absurd (h.1.symm.trans k) (by decide)
theorem Ch(k:5≤s.kind)(h:jR p t s):s.guard.one=true∧s.set=[]:=by
 rcases h with h|h|h|h|h|h|h
 ·have:=h.1;omega
 ·have:=h.1;omega
 ·have:=h.1;omega
 ·have:=h.1;omega
 ·exact⟨h.2.1,h.2.2⟩
 ·exact⟨h.2.1,h.2.2.1⟩
 ·exact⟨h.2.1,h.2.2.1⟩
theorem Cg(k:s.kind=6)(h:jR p t s):kj s.target p.threads.length=true∧s.target≠t∧(p.threads.getD s.target.toNat fg).asleep=true:=by
 rcases h with h|h|h|h|h|h|h
 ·have:=h.1;omega
 ·have:=h.1;omega
 ·have:=h.1;omega
 ·have:=h.1;omega
 ·have:=h.1;omega
 ·exact h.2.2.2
 ·have:=h.1;omega
theorem Cf(k:s.kind=7)(h:jR p t s):kj s.target p.threads.length=true∧s.target≠t:=by
 rcases h with h|h|h|h|h|h|h
 ·have:=h.1;omega
 ·have:=h.1;omega
 ·have:=h.1;omega
 ·have:=h.1;omega
 ·have:=h.1;omega
 ·have:=h.1;omega
 ·exact h.2.2.2
theorem tR{f:Int→Bool}{e:Ex}(h:e.one=true):e.allB f=true:=by
 simp only[Ex.one,aB,cg,List.isEmpty_iff]at h
 rw[Ex.allB_eq,h.1.1.1,h.2];rfl
theorem kind_pre(hset:∀a∈s.set,AsgOk p a){F:Int→Bool}(hF:(if(s.kind==4)=true then p.viB t else p.owB t)=F)(h:jR p t s):s.guard.allB F=true∧∀i,i<s.set.length→((0<i∨s.kind≠2)→(s.set.getD i dt).to.allB F=true)∧((p.cell (s.set.getD i dt).cell).thread=t∨(p.cell (s.set.getD i dt).cell).thread= -1):=by
 have hm:∀i,i<s.set.length→s.set.getD i dt∈s.set:=λ i hi=>by rw[au,ap hi];exact bI hi
 have F4:s.kind≠4→p.owB t=F:=λ q=>by rw[←hF,if_neg (by simpa using q)]
 rcases h with h|h|h|h|h|h|h
 ·have e:=F4 (by omega)
  rw[←e]
  exact⟨h.2.1,λ i hi=>⟨λ _=>(h.2.2 _ (hm i hi)).1,.inl (gB.1 (h.2.2 _ (hm i hi)).2).2⟩⟩
 ·have e:=F4 (by omega)
  rw[←e]
  have h2:=om h.1 (.inr (.inl h))
  refine⟨h.2.1,λ i hi=> ?_⟩
  rcases cv i with h0|h0
  ·subst h0
   exact⟨λ q=>absurd h.1 (q.resolve_left (by omega)),.inl (gB.1 h2.2.1).2⟩
  ·obtain⟨g1,_,g3⟩:=h2.2.2.2.2.2.2 i h0 hi
   exact⟨λ _=>g3,.inl (gB.1 g1).2⟩
 ·have e:=F4 (by omega)
  rw[←e]
  have h3:=sL h.1 (.inr (.inr (.inl h)))
  refine⟨h.2.1,λ i hi=>⟨λ _=>h.2.2.1 _ (hm i hi),?_⟩⟩
  rcases cv i with h0|h0
  ·subst h0
   exact .inr (eJ.1 h3.2.1).2
  ·exact(jT.1 (h3.2.2.2 i h0 hi).2).2.symm
 ·have e:p.viB t=F:=by rw[←hF,if_pos (by rw[h.1];rfl)]
  rw[←e]
  exact⟨h.2.1,λ i hi=>⟨λ _=>(h.2.2 _ (hm i hi)).1,(jT.1 (h.2.2 _ (hm i hi)).2).2.symm⟩⟩
 ·exact⟨tR h.2.1,λ i hi=>by rw[h.2.2]at hi;simp at hi⟩
 ·exact⟨tR h.2.1,λ i hi=>by rw[h.2.2.1]at hi;simp at hi⟩
 ·exact⟨tR h.2.1,λ i hi=>by rw[h.2.2.1]at hi;simp at hi⟩
theorem to_not{j:Nat}{k:Int}{b:Bool}(q:((decide (0<(j:Int))||k !=2)&& !b)=true)(h:(0<j∨k≠2)→b=true):False:=by
 simp only[aB,cd,av,bne_iff_ne,bQ]at q
 rw[h (q.1.imp (λ x=>by omega) id)]at q
 exact Bool.noConfusion q.2
theorem own_not{x y:Int}(q:(!(x==y)&& !(x== -1))=true)(h:x=y∨x= -1):False:=by
 simp only[aB,bQ,ck]at q
 omega
theorem eq_not{x y:Int}(q:(!(x==y))=true)(h:x=y):False:=by
 simp only[bQ,ck]at q
 exact q h
theorem xI{x y:Int}{g:Bool}(q:(!(x==y)||g)=true)(h:x=y)(hg:g=false):False:=by
 simp only[cd,bQ,ck]at q
 rcases q with q|q
 ·exact q h
 ·rw[hg]at q;exact Bool.noConfusion q
end
end Go.Proofs.YtdpdbokicanpoaaGreatDoor
end
namespace Go.Proofs.YtdpdbokicanpoaaGreatDoor
section
open Go Go.Ab
theorem AP(e:Ex)(hk:e.kids.length≤reachBytes)(Z:St)(G:Glob)(R:A→St→Prop)(h:R (db e.one) Z):AC Tryz.prog G 159 [.d (.agg [iD e.op,iD e.w,iD e.n,.sl 4 (e.kids.map Ex.d)]),.d (.agg [iD 1,iD 1,iD 1,.sl 4 []])] Z R:=by
 have hk2:=rS hk
 cases ho:e.one with
 |true=>
  rw[ho]at h
  simp only[Ex.one,aB,cg,List.isEmpty_iff]at ho
  obtain⟨⟨⟨h1,h2⟩,h3⟩,h4⟩:=ho
  have b1:((1:Int)!=1)=false:=by decide
  have b0:(((0:Nat):Int)!=((0:Nat):Int))=false:=by decide
  have d0:decide (((0:Nat):Int)<((0:Nat):Int))=false:=by decide
  have d1:decide ((0:Int)<((0:Nat):Int))=false:=by decide
  rw[h1,h2,h3,h4]
  refine bM a9 Tryz.func159 rfl Tryz.ntmps159 (by simp only[go_sem]) λ hbd=> ?_
  simp only[ae,aj,Nat.reduceAdd,Nat.reduceSub,af,ag,ah,ak]
  simp only[bq,aj,go_sem,b1,b0,d0,d1]
  refine aS (λ m fr st=>fr=%[.o,.o,.ref Z.length 0,.ref (Z.length+1) 0,.o,di 0|D6 (D4 [.o,.o,.o,.o,.o,.o,.o])]∧st=Z++[some (.cells [di 1,di 1,di 1,.d (.sl 4 [])]),some (.cells [di 1,di 1,di 1,.d (.sl 4 [])])]) 0 _ (Wk.mask [2,3,5] ⟨rfl,rfl⟩) ?_
  rintro m fr st ⟨rfl,rfl⟩
  simp only[go_sem,aj,b1,b0,d0,d1]
  exact aQ hbd h
 |false=>
  rw[ho]at h
  have hc:(e.op !=1||e.w !=1||e.n !=1||(e.kids.length:Int)!=((0:Nat):Int))=true:=by
   rw[←Bool.not_eq_false]
   intro q
   simp only[bA,bne_eq_false_iff_eq]at q
   have:e.one=true:=by
    simp only[Ex.one,aB,cg,List.isEmpty_iff]
    exact⟨⟨⟨q.1.1.1,q.1.1.2⟩,q.1.2⟩,cM.1 (by omega)⟩
   rw[this]at ho
   exact Bool.noConfusion ho
  refine bD [3] a9 Tryz.func159 rfl Tryz.ntmps159 (by simp only[go_sem]) λ hbd=> ?_
  simp only[ae,aj,Nat.reduceAdd,Nat.reduceSub,af,ag,ah,ak]
  simp only[go_sem]
  refine bc (λ _ _=>False) ?_ (λ _ _ h=>h.elim)
  simp only[aj,ac,go_sem]
  exact⟨λ _=>aQ hbd h,λ q=>absurd (q.symm.trans hc) (by decide)⟩
theorem bw.blur{G:Glob}{n0:Nat}{fr:Fr}{Z:St}{id:Nat}{cs cs':List A}(h:Z[id]? =some (some (.cells cs)))(hl:cs'.length=cs.length)(hb:∀(i:Nat) (x:A),cs'[i]? =some x→x= .o∨cs[i]? =some x):bw G n0 fr Z fr (Z.set id (some (.cells cs'))):=by
 intro U0 w0 U w vs h0 hx hI hF
 have hid:=(aA.1 h).1
 refine⟨U,hx,⟨by rw[aH];exact hI.len,hI.inj,hI.lt,λ i o ho=> ?_,hI.glob,λ i o ho=> ?_,hI.own⟩,hF⟩
 ·rw[aR]at ho
  split at ho
  ·rename_i e
   subst e
   cases ho
   rcases hI.obj id _ h with⟨b,hρ,us,e,h1,h2,h3⟩|⟨hρ,he⟩
   ·refine .inl ⟨b,hρ,us,e,h1,by omega,λ i x hx'=> ?_⟩
    have hi:=(aA.1 hx').1
    obtain⟨y,hy⟩:∃y,cs[i]? =some y:=⟨_,ap (by omega)⟩
    obtain⟨v,hv1,hv2,hv3⟩:=h3 i y hy
    rcases hb i x hx' with rfl|hx2
    ·exact⟨v,hv1,hv2,.o v⟩
    ·rw[hy]at hx2
     cases hx2
     exact⟨v,hv1,hv2,hv3⟩
   ·refine .inr ⟨hρ,?_⟩
    have he2:cs=[]:=by injection he
    rw[he2]at hl
    have:cs'=[]:=cM.1 (by simpa using hl)
    rw[this]
  ·exact hI.obj i o ho
 ·rw[aH]
  rw[aR]at ho
  split at ho
  ·rename_i e
   subst e
   cases ho
   have hbd:=hI.bd id _ h
   show jo _ cs'=true
   refine gI λ x hx'=> ?_
   obtain⟨i,hi,rfl⟩:=bF hx'
   rcases hb i _ (ap hi)with e|hx2
   ·rw[e];rfl
   ·exact gl hbd i _ hx2
  ·exact hI.bd i o ho
abbrev stpB(s:Stp):Option Ob:=some (.cells [.d (iD s.kind),.d (iD s.src),.d (iD s.dst),.d (iD s.guard.op),.d (iD s.guard.w),.d (iD s.guard.n),.d (.sl 4 (s.guard.kids.map Ex.d)),.o,.d (.bool s.rel),.d (iD s.target),.d (iD s.mod)])
abbrev gS(s:Stp):Option Ob:=some (.cells [.d (iD s.kind),.d (iD s.src),.d (iD s.dst),.d (iD s.guard.op),.d (iD s.guard.w),.d (iD s.guard.n),.d (.sl 4 (s.guard.kids.map Ex.d)),.d (.sl 5 (s.set.map dM)),.d (.bool s.rel),.d (iD s.target),.d (iD s.mod)])
theorem leaf_rng{p:Prg}{e:Ex}(hv:e.valid p.cells false=true)(ho:e.op=2):0≤e.n∧e.n<p.cells.length:=by
 obtain⟨_,hd,hov⟩:=Ex.valid_iff.1 hv
 have hf:e.fits=true:=by
  obtain⟨l,hl⟩:∃l,40=l+1:=⟨39,rfl⟩
  rw[hl]at hd
  simp only[Ex.deep,aB]at hd
  exact hd.1
 rw[Ex.over_eq,aB]at hov
 exact⟨(xu hf (.inl ho)).1,(Fs hov.1 (.inl ho)).1⟩
theorem pz{α:Type}{P:α→Prop}{l:List α}(d:α)(h:∀i,i<l.length→P (l.getD i d)):∀a∈l,P a:=λ a ha=>by
 obtain⟨i,hi,rfl⟩:=bF ha
 have:=h i hi
 rwa [au,ap hi]at this
theorem r7{α:Type}{P:α→Prop}{l:List α}(d:α)(h:∀i,0<i→i<l.length→P (l.getD i d)):∀a∈l.tail,P a:=λ a ha=>by
 obtain⟨i,hi,rfl⟩:=bF ha
 rw[List.length_tail]at hi
 have:=h (i+1) (by omega) (by omega)
 rw[au,ap (by omega)]at this
 rw[List.getElem_tail]
 exact this
theorem wu{α:Type}{l:List α}(d:α)(h:0<l.length):l=l.getD 0 d::l.tail:=by
 cases l with
 |nil=>simp at h
 |cons a r=>rfl
theorem kind_r(p:Prg)(hs:p.Small)(hc:lL p)(t:Nat)(s:Stp)(hsm:StpSm s)(hset:∀a∈s.set,AsgOk p a)(hg:s.guard.valid p.cells false=true)(hk:1≤s.kind∧s.kind≤7)(Z:St)(G:Glob)(R:A→St→Prop)(h:∀b:Bool,(b=true↔jR p t s)→R (db b) Z):AC Tryz.prog G 139 [.d (bK p),dn t,.d (eP s)] Z R:=by
 have hn:=hs.ncel
 have hsn:=hsm.set
 have hth:∀c∈p.cells,-1≤c.thread:=λ c h=>(hc.1 c h).thread.1
 obtain⟨F,hF⟩:∃F,(if(s.kind==4)=true then p.viB (t:Int)else p.owB (t:Int))=F:=⟨_,rfl⟩
 have mS:jR p t s→_:=kind_pre hset hF
 have ov:∀(e:Ex),e.nodes≤40→e.valid p.cells false=true→∀(Z:St) (R:A→St→Prop),R (db (e.allB F)) Z→AC Tryz.prog G 109 [.d (bK p),.d (eD e),db (s.kind==4),dn t] Z R:=λ e he hv Z R hR=>A1 p (by omega) hth e (lF he) false hv (s.kind==4) t (λ _=>by omega) Z G R (by rw[hF];exact hR)
 have ow:∀c:Int,(0≤c∧c<p.cells.length)→∀(Z:St) (R:A→St→Prop),R (db ((p.cell c).thread==t)) Z→AC Tryz.prog G 157 [.d (bK p),di c,dn t] Z R:=λ c hc Z R hR=>own_ac p c t hc Z G R hR
 have shd:∀c:Int,(0≤c∧c<p.cells.length)→∀(Z:St) (R:A→St→Prop),R (db ((p.cell c).thread== -1)) Z→AC Tryz.prog G 158 [.d (bK p),di c] Z R:=λ c hc Z R hR=>CE p c hc Z G R hR
 unfold bK eP at*
 unfold eD at ov
 refine bD [3,5,13] a9 Tryz.func139 rfl Tryz.ntmps139 (by simp only[go_sem]) λ hbd=> ?_
 simp only[ae,aj,Nat.reduceAdd,Nat.reduceSub,af,ag,ah,ak]
 simp only[go_sem,ac]
 refine bc (λ fr st=>fr=%[.o,dn t,.o,.ref Z.length 0,.o,.ref (Z.length+1) 0,.o,dn s.set.length,db (s.kind==4)|D7 (D7 (D7 (D6 (D5 [.o,.o,.o]))))]∧st=Z++[bN p,gS s]) ?_ ?_
 ·simp only[go_sem,ac]
  exact Wk.mask [1,3,5,7,8] ⟨rfl,rfl⟩
 rintro fr st ⟨rfl,rfl⟩
 refine bc (λ fr st=>s.guard.allB F=true∧fr=%[.o,dn t,.o,.ref Z.length 0,.o,.ref (Z.length+1) 0,.o,dn s.set.length,db (s.kind==4)|D7 (D7 (D7 (D6 (D5 [.o,.o,.o]))))]∧st=Z++[bN p,gS s]) ?_ ?_
 ·simp only[go_sem,ac]
  refine bH (ov s.guard hsm.guard hg _ _ ?_)
  simp only[go_sem,ac]
  exact⟨λ q=>aQ hbd (h false (Au λ kk=>by rw[(mS kk).1]at q;exact Bool.noConfusion q)),λ q=>Wk.mask [1,3,5,7,8] ⟨by simpa using q,rfl,rfl⟩⟩
 rintro fr st ⟨hgF,rfl,rfl⟩
 refine bc (λ fr st=>(∀i,i<s.set.length→((0<i∨s.kind≠2)→(s.set.getD i dt).to.allB F=true)∧((p.cell (s.set.getD i dt).cell).thread=t∨(p.cell (s.set.getD i dt).cell).thread= -1))∧fr=%[.o,dn t,.o,.ref Z.length 0,.o,.ref (Z.length+1) 0,.o,dn s.set.length,db (s.kind==4)|D7 (D7 (D7 (D6 (D5 [.o,.o,.o]))))]∧((0<s.set.length∧st=Z++[bN p,gS s])∨(s.set=[]∧st=Z++[bN p,stpB s]))) ?_ ?_
 ·simp only[go_sem,ac]
  refine aS (λ m fr st=>∃j:Nat,j≤s.set.length∧m=s.set.length - j∧(∀i,i<j→((0<i∨s.kind≠2)→(s.set.getD i dt).to.allB F=true)∧((p.cell (s.set.getD i dt).cell).thread=t∨(p.cell (s.set.getD i dt).cell).thread= -1))∧fr=%[.o,dn t,.o,.ref Z.length 0,.o,.ref (Z.length+1) 0,.o,dn s.set.length,db (s.kind==4),dn j|D7 (D7 (D7 (D6 (D5 [.o,.o]))))]∧st=Z++[bN p,gS s]) s.set.length _ (Wk.mask [1,3,5,7,8,9] ⟨0,by omega,by omega,λ i hi=>absurd hi (by omega),rfl,rfl⟩) ?_
  rintro m fr st ⟨j,hj,hm,hall,rfl,rfl⟩
  rcases aC j s.set.length with hlt|hge
  ·have hd:decide ((j:Int)<(s.set.length:Int))=true:=by simp only[av];omega
   have w2:=bC j (by omega)
   obtain⟨a,ha⟩:∃a,s.set.getD j dt=a:=⟨_,rfl⟩
   have ham:a∈s.set:=by rw[←ha];exact bT dt hlt
   have hao:=hset a ham
   have har:=cS.1 hao.cell
   have g1:List.getD (s.set.map dM) j default=dM a:=by rw[iP hlt,ha]
   simp only[go_sem,hd,ac]
   refine bb (.tk 17 0<| .pure 17<| .tk 2 18<| .done) (by kernel_rfl) ?_
   simp only[go_sem,g1,dM,ac,ad]
   refine⟨λ q=>⟨q,by omega,by omega⟩,Go.Ab.exQ (.bool (a.to.allB F)) ⟨λ hg=> ?_,?_⟩⟩
   ·simp only[go_sem]
    exact⟨hg,λ Z'=>bH (ov a.to (hsm.to a ham) hao.to _ _ ⟨rfl,rfl⟩)⟩
   simp only[go_sem,g1,dM,ac,ad]
   refine⟨λ q=>aQ hbd (h false (Au λ kk=>to_not q (by have:=((mS kk).2 j hlt).1;rwa [ha]at this))),λ q1=>⟨⟨by omega,by omega⟩,bH (ow a.cell har _ _ ?_)⟩⟩
   simp only[go_sem,g1,dM,w2,ac,ad]
   refine gO (.bool ((p.cell a.cell).thread== -1)) ⟨λ hg=> ?_,?_⟩
   ·simp only[go_sem]
    exact⟨hg,bH (shd a.cell har _ _ ⟨rfl,rfl⟩)⟩
   simp only[go_sem,g1,dM,w2,ac,ad]
   refine⟨λ q=>aQ hbd (h false (Au λ kk=>own_not q (by have:=((mS kk).2 j hlt).2;rwa [ha]at this))),λ q2=>Wk.mask [1,3,5,7,8,9] ⟨s.set.length - (j+1),by omega,j+1,by omega,rfl,λ i hi=> ?_,rfl,rfl⟩⟩
   rcases aC i j with h1|h1
   ·exact hall i h1
   ·obtain rfl:i=j:=by omega
    rw[ha]
    refine⟨λ hq=> ?_,?_⟩
    ·simp only[dw,bA,ay,bne_eq_false_iff_eq,cF]at q1
     rcases q1 with q1|q1
     ·rcases hq with hq|hq
      ·exact absurd (by omega) q1.1
      ·exact absurd q1.2 hq
     ·exact q1
    ·simp only[dw,cF,cg]at q2
     exact q2
  ·have hd:decide ((j:Int)<(s.set.length:Int))=false:=by simp only[ay];omega
   obtain rfl:j=s.set.length:=by omega
   simp only[go_sem,hd,ac]
   rcases cv s.set.length with h0|h0
   ·refine Wk.via (bw.blur (G:=G) (n0:=Z.length) (id:=Z.length+1) (cs:=[.d (iD s.kind),.d (iD s.src),.d (iD s.dst),.d (iD s.guard.op),.d (iD s.guard.w),.d (iD s.guard.n),.d (.sl 4 (s.guard.kids.map Ex.d)),.d (.sl 5 (s.set.map dM)),.d (.bool s.rel),.d (iD s.target),.d (iD s.mod)]) (cs':=[.d (iD s.kind),.d (iD s.src),.d (iD s.dst),.d (iD s.guard.op),.d (iD s.guard.w),.d (iD s.guard.n),.d (.sl 4 (s.guard.kids.map Ex.d)),.o,.d (.bool s.rel),.d (iD s.target),.d (iD s.mod)]) (by simp) rfl λ i x hx=> ?_) ?_
    ·match i,hx with
     |0,hx|1,hx|2,hx|3,hx|4,hx|5,hx|6,hx|8,hx|9,hx|10,hx=>exact .inr hx
     |7,hx=>exact .inl (by simpa using hx.symm)
     |i+11,hx=>simp at hx
    exact Wk.mask [1,3,5,7,8] ⟨hall,rfl,.inr ⟨cM.1 h0,by simp⟩⟩
   ·exact Wk.mask [1,3,5,7,8] ⟨hall,rfl,.inl ⟨h0,rfl⟩⟩
 rintro fr st ⟨hall,rfl,hst⟩
 have hks:s.kind=1∨s.kind=2∨s.kind=3∨s.kind=4∨s.kind=5∨s.kind=6∨s.kind=7:=by omega
 rcases hst with⟨h0,rfl⟩|⟨hnil,rfl⟩
 ·have e0:((s.set.length:Int)==0)=false:=by simp only[ck];omega
  have d0:decide (0<(s.set.length:Int))=true:=by simp only[av];omega
  obtain⟨a0,ha0⟩:∃a,s.set.getD 0 dt=a:=⟨_,rfl⟩
  have ham0:a0∈s.set:=by rw[←ha0];exact bT dt h0
  have hao0:=hset a0 ham0
  have har0:=cS.1 hao0.cell
  have g0:List.getD (s.set.map dM) 0 default=dM a0:=by rw[iP h0,ha0]
  have tz:Int.toNat 0=0:=rfl
  rcases hks with k|k|k|k|k|k|k
  ·have hF1:p.owB t=F:=by rw[←hF,k];exact(if_neg (by decide)).symm
   simp only[go_sem,k,Int.reduceBEq]
   refine aS (λ m fr st=>∃j:Nat,j≤s.set.length∧m=s.set.length - j∧(∀i,i<j→(p.cell (s.set.getD i dt).cell).thread=t)∧fr=%[.o,dn t,.o,.ref Z.length 0,.o,.ref (Z.length+1) 0,.o,dn s.set.length,.o,.o,.o,dn j|D7 (D7 (D7 (D6 (D5 []))))]∧st=Z++[bN p,gS s]) s.set.length _ (Wk.mask [1,3,5,7,11] ⟨0,by omega,by omega,λ i hi=>absurd hi (by omega),rfl,rfl⟩) ?_
   rintro m fr st ⟨j,hj,hm,hown,rfl,rfl⟩
   rcases aC j s.set.length with hlt|hge
   ·have hd:decide ((j:Int)<(s.set.length:Int))=true:=by simp only[av];omega
    have w2:=bC j (by omega)
    obtain⟨a,ha⟩:∃a,s.set.getD j dt=a:=⟨_,rfl⟩
    have ham:a∈s.set:=by rw[←ha];exact bT dt hlt
    have har:=cS.1 (hset a ham).cell
    have g1:List.getD (s.set.map dM) j default=dM a:=by rw[iP hlt,ha]
    simp only[go_sem,hd,ac]
    refine bb (.tk 8 0<| .pure 8<| .take 9<| .done) (by kernel_rfl) ?_
    simp only[go_sem,g1,dM,w2,ac,ad]
    refine⟨⟨by omega,by omega⟩,Go.Ab.mN (db ((p.cell a.cell).thread==t)) ⟨λ Z'=>bH (ow a.cell har _ _ ⟨rfl,rfl⟩),?_⟩⟩
    simp only[go_sem,g1,dM,w2,ac,ad]
    refine⟨λ q=>aQ hbd (h false (Au λ kk=>eq_not q (gB.1 (kindOk1 k kk a ham)).2)),λ q=>Wk.mask [1,3,5,7,11] ⟨s.set.length - (j+1),by omega,j+1,by omega,rfl,λ i hi=> ?_,rfl,rfl⟩⟩
    rcases aC i j with h1|h1
    ·exact hown i h1
    ·obtain rfl:i=j:=by omega
     rw[ha];simpa using q
   ·have hd:decide ((j:Int)<(s.set.length:Int))=false:=by simp only[ay];omega
    obtain rfl:j=s.set.length:=by omega
    simp only[go_sem,hd,ac]
    refine aQ hbd (h true<|Av<| .inl ⟨k,by rw[hF1];exact hgF,pz dt λ i hi=>⟨?_,?_⟩⟩)
    ·rw[hF1];exact(hall i hi).1 (.inr (by omega))
    ·exact gB.2 ⟨cS.1 (hset _ (bT dt hi)).cell,hown i hi⟩
  ·have hF1:p.owB t=F:=by rw[←hF,k];exact(if_neg (by decide)).symm
   simp only[go_sem,k,Int.reduceBEq]
   refine bb (.tk 25 0<| .done) (by kernel_rfl) ?_
   simp only[aY,go_sem,e0,tz,g0,dM,fZ p har0,fb,ac,ad]
   refine⟨⟨by omega,by omega⟩,gO (.bool ((p.cell a0.cell).thread==t)) ⟨λ hg=> ?_,?_⟩⟩
   ·simp only[go_sem]
    exact bH (ow a0.cell har0 _ _ ⟨rfl,rfl⟩)
   simp only[aY,go_sem,e0,tz,g0,dM,fZ p har0,fb,ac,ad]
   refine⟨λ q=>⟨q,by omega,by omega⟩,λ q=>⟨q,har0⟩,λ q=>by simpa using q,λ q=>aQ hbd (h false (Au λ kk=>by obtain⟨_,o1,o2,_⟩:=om k kk;rw[ha0]at o1 o2;exact xI q (gB.1 o1).2 o2)),λ q1=>⟨⟨by omega,by omega⟩,?_⟩⟩
   have e2:(a0.to.op !=2)= !(a0.to.op==2):=rfl
   cases ho:(a0.to.op==2)with
   |false=>
    refine gO (.bool false) ⟨λ hg=> ?_,?_⟩
    ·simp only[bne,ho]at hg
     exact Bool.noConfusion hg
    simp only[aY,go_sem,e2,ho,ac,ad]
    exact aQ hbd (h false (Au λ kk=>by have:=(om k kk).2.2.2.1;rw[ha0]at this;rw[this]at ho;exact absurd ho (by decide)))
   |true=>
    have hnr:=leaf_rng hao0.to (cg.1 ho)
    refine gO (.bool ((p.cell a0.to.n).thread== -1)) ⟨λ hg=> ?_,?_⟩
    ·simp only[go_sem]
     exact⟨hg,bH (shd a0.to.n hnr _ _ ⟨rfl,rfl⟩)⟩
    simp only[aY,go_sem,e2,ho,fZ p hnr,fb,ac,ad]
    refine⟨λ q=>⟨q,hnr⟩,λ q=>by simpa using q,λ q=>aQ hbd (h false (Au λ kk=>by obtain⟨_,_,_,_,o1,o2,_⟩:=om k kk;rw[ha0]at o1 o2;exact xI q (eJ.1 o1).2 o2)),λ q2=> ?_⟩
    refine aS (λ m fr st=>∃j:Nat,0<j∧j≤s.set.length∧m=s.set.length - j∧(∀i,0<i→i<j→(p.cell (s.set.getD i dt).cell).thread=t∧(p.cell (s.set.getD i dt).cell).ghost=true)∧fr=%[.o,dn t,.o,.ref Z.length 0,.o,.ref (Z.length+1) 0,.o,dn s.set.length,.o,.o,.o,.o,.o,dn j|D7 (D7 (D7 (D6 (D4 [.o,.o,.o,.o,.o,.o]))))]∧st=Z++[bN p,gS s]) (s.set.length - 1) _ (Wk.keep [1,3,5,7,13] [0,1] (by decide) (aE _) hbd ⟨1,by omega,by omega,by omega,λ i hi hi2=>absurd hi (by omega),by simp only[go_sem];rfl,by simp only[go_sem]⟩) ?_
    rintro m fr st ⟨j,hj0,hj,hm,hgh,rfl,rfl⟩
    rcases aC j s.set.length with hlt|hge
    ·have hd:decide ((j:Int)<(s.set.length:Int))=true:=by simp only[av];omega
     have w2:=bC j (by omega)
     obtain⟨a,ha⟩:∃a,s.set.getD j dt=a:=⟨_,rfl⟩
     have ham:a∈s.set:=by rw[←ha];exact bT dt hlt
     have har:=cS.1 (hset a ham).cell
     have g1:List.getD (s.set.map dM) j default=dM a:=by rw[iP hlt,ha]
     simp only[aY,go_sem,hd,ac]
     refine bb (.tk 8 0<| .pure 8<| .tk 15 9<| .done) (by kernel_rfl) ?_
     simp only[aY,go_sem,g1,dM,w2,fZ p har,fb,ac,ad]
     refine⟨⟨by omega,by omega⟩,Go.Ab.mN (db ((p.cell a.cell).thread==t)) ⟨λ Z'=>bH (ow a.cell har _ _ ⟨rfl,rfl⟩),?_⟩⟩
     simp only[aY,go_sem,g1,dM,w2,fZ p har,fb,ac,ad]
     refine⟨λ q=>⟨q,by omega,by omega⟩,λ q=>⟨q,har⟩,λ q=>by simpa using q,λ q=>aQ hbd (h false (Au λ kk=>by obtain⟨g1,g2,_⟩:=(om k kk).2.2.2.2.2.2 j hj0 hlt;rw[ha]at g1 g2;exact xI q (gB.1 g1).2 (by rw[g2];rfl))),λ q3=>Wk.mask [1,3,5,7,13] ⟨s.set.length - (j+1),by omega,j+1,by omega,by omega,rfl,λ i hi0 hi=> ?_,rfl,rfl⟩⟩
     rcases aC i j with h1|h1
     ·exact hgh i hi0 h1
     ·obtain rfl:i=j:=by omega
      rw[ha];simpa using q3
    ·have hd:decide ((j:Int)<(s.set.length:Int))=false:=by simp only[ay];omega
     obtain rfl:j=s.set.length:=by omega
     simp only[go_sem,hd,ac]
     refine aQ hbd (h true<|Av<| .inr (.inl ⟨k,by rw[hF1];exact hgF,a0,s.set.tail,by rw[←ha0];exact wu dt h0,?_⟩))
     simp only[bA,cF,cg]at q1 q2
     refine⟨gB.2 ⟨har0,q1.1⟩,q1.2,cg.1 ho,eJ.2 ⟨hnr,q2.1⟩,q2.2,r7 dt λ i hi0 hi=> ?_⟩
     have hr:=cS.1 (hset _ (bT dt hi)).cell
     obtain⟨g1,g2⟩:=hgh i hi0 hi
     exact⟨gB.2 ⟨hr,g1⟩,g2,by rw[hF1];exact(hall i hi).1 (.inl hi0)⟩
  ·have hF1:p.owB t=F:=by rw[←hF,k];exact(if_neg (by decide)).symm
   simp only[go_sem,k,Int.reduceBEq]
   refine bb (.tk 9 0<| .pure 9<| .tk 14 10<| .done) (by kernel_rfl) ?_
   simp only[aY,go_sem,e0,tz,g0,dM,fZ p har0,fb,ac,ad]
   refine⟨⟨by omega,by omega⟩,Go.Ab.exQ (.bool ((p.cell a0.cell).thread== -1)) ⟨λ hg=> ?_,?_⟩⟩
   ·simp only[go_sem]
    exactλ Z'=>bH (shd a0.cell har0 _ _ ⟨rfl,rfl⟩)
   simp only[aY,go_sem,e0,tz,g0,dM,fZ p har0,fb,ac,ad]
   refine⟨λ q=>⟨q,by omega,by omega⟩,λ q=>⟨q,har0⟩,λ q=>by simpa using q,λ q=>aQ hbd (h false (Au λ kk=>by obtain⟨_,o1,o2,_⟩:=sL k kk;rw[ha0]at o1 o2;exact xI q (eJ.1 o1).2 o2)),λ q1=> ?_⟩
   refine aS (λ m fr st=>∃j:Nat,0<j∧j≤s.set.length∧m=s.set.length - j∧(∀i,0<i→i<j→(p.cell (s.set.getD i dt).cell).ghost=true)∧fr=%[.o,dn t,.o,.ref Z.length 0,.o,.ref (Z.length+1) 0,.o,dn s.set.length,.o,.o,.o,.o,.o,.o,dn j|D7 (D7 (D7 (D6 (D4 [.o,.o,.o,.o,.o]))))]∧st=Z++[bN p,gS s]) (s.set.length - 1) _ (Wk.mask [1,3,5,7,14] ⟨1,by omega,by omega,by omega,λ i hi hi2=>absurd hi (by omega),rfl,rfl⟩) ?_
   rintro m fr st ⟨j,hj0,hj,hm,hgh,rfl,rfl⟩
   rcases aC j s.set.length with hlt|hge
   ·have hd:decide ((j:Int)<(s.set.length:Int))=true:=by simp only[av];omega
    have w2:=bC j (by omega)
    obtain⟨a,ha⟩:∃a,s.set.getD j dt=a:=⟨_,rfl⟩
    have ham:a∈s.set:=by rw[←ha];exact bT dt hlt
    have har:=cS.1 (hset a ham).cell
    have g1:List.getD (s.set.map dM) j default=dM a:=by rw[iP hlt,ha]
    simp only[aY,go_sem,hd,ac]
    refine bb (.tk 12 0<| .done) (by kernel_rfl) ?_
    simp only[aY,go_sem,g1,dM,w2,fZ p har,fb,ac,ad]
    refine⟨⟨by omega,by omega⟩,har,λ q=>aQ hbd (h false (Au λ kk=>by obtain⟨g1,_⟩:=(sL k kk).2.2.2 j hj0 hlt;rw[ha]at g1;rw[g1]at q;exact Bool.noConfusion q)),λ q2=>Wk.mask [1,3,5,7,14] ⟨s.set.length - (j+1),by omega,j+1,by omega,by omega,rfl,λ i hi0 hi=> ?_,rfl,rfl⟩⟩
    rcases aC i j with h1|h1
    ·exact hgh i hi0 h1
    ·obtain rfl:i=j:=by omega
     rw[ha];simpa using q2
   ·have hd:decide ((j:Int)<(s.set.length:Int))=false:=by simp only[ay];omega
    obtain rfl:j=s.set.length:=by omega
    simp only[go_sem,hd,ac]
    simp only[bA,cF,cg]at q1
    refine aQ hbd (h true<|Av<| .inr (.inr (.inl ⟨k,by rw[hF1];exact hgF,pz dt λ i hi=>by rw[hF1];exact(hall i hi).1 (.inr (by omega)),a0,s.set.tail,by rw[←ha0];exact wu dt h0,eJ.2 ⟨har0,q1.1⟩,q1.2,r7 dt λ i hi0 hi=>⟨hgh i hi0 hi,?_⟩⟩)))
    exact jT.2 ⟨cS.1 (hset _ (bT dt hi)).cell,(hall i hi).2.symm⟩
  ·have hF1:p.viB t=F:=by rw[←hF,k];rfl
   simp only[go_sem,k,Int.reduceBEq]
   refine aQ hbd (h true<|Av<| .inr (.inr (.inr (.inl ⟨k,by rw[hF1];exact hgF,pz dt λ i hi=>⟨?_,?_⟩⟩))))
   ·rw[hF1];exact(hall i hi).1 (.inr (by omega))
   ·exact jT.2 ⟨cS.1 (hset _ (bT dt hi)).cell,(hall i hi).2.symm⟩
  all_goals (
   simp only[go_sem,k,Int.reduceBEq]
   refine bb (.tk 3 0<| .pure 5<| .tk 2 3<| .pure 6<| .tk 2 7<| .done) (by kernel_rfl) ?_
   simp only[go_sem,d0,ac,ad]
   refine Go.Ab.exQ (.bool false) ⟨λ q=>Bool.noConfusion q,?_⟩
   simp only[go_sem,d0,ac,ad]
   refine Go.Ab.exQ (.bool false) ⟨λ q=>Bool.noConfusion q,?_⟩
   simp only[go_sem,d0,ac,ad]
   exact aQ hbd (h false (Au λ kk=>by rw[(Ch (by omega) kk).2]at h0;simp at h0)))
 ·have e0:(((0:Nat):Int)==0)=true:=rfl
  have d0:decide (0<((0:Nat):Int))=false:=rfl
  have d1:decide (((0:Nat):Int)<((0:Nat):Int))=false:=rfl
  have d2:decide ((0:Int)<((0:Nat):Int))=false:=rfl
  have d3:decide ((0:Int)<0)=false:=rfl
  have e3:((0:Int)==0)=true:=rfl
  rw[hnil]
  rcases hks with k|k|k|k|k|k|k
  ·have hF1:p.owB t=F:=by rw[←hF,k];exact(if_neg (by decide)).symm
   simp only[go_sem,k,aj,Int.reduceBEq]
   refine aS (λ m fr st=>fr=%[.o,.o,.o,.o,.o,.o,.o,di 0,.o,.o,.o,di 0|D7 (D7 (D7 (D6 (D5 []))))]∧st=Z++[bN p,stpB s]) 0 _ (Wk.mask [7,11] ⟨rfl,rfl⟩) ?_
   rintro m fr st ⟨rfl,rfl⟩
   simp only[go_sem,aj,d1,d2,d3]
   refine aQ hbd (h true<|Av<| .inl ⟨k,by rw[hF1];exact hgF,λ a ha=> ?_⟩)
   rw[hnil]at ha;cases ha
  ·simp only[go_sem,k,aj,Int.reduceBEq]
   refine bb (.tk 25 0<| .done) (by kernel_rfl) ?_
   simp only[aY,go_sem,e0,e3,ac,ad]
   refine gO (.bool false) ⟨λ q=>Bool.noConfusion q,?_⟩
   simp only[aY,go_sem,e0,e3,ac,ad]
   exact aQ hbd (h false (Au λ kk=>by have:=(om k kk).1;rw[hnil]at this;simp at this))
  ·simp only[go_sem,k,aj,Int.reduceBEq]
   refine bb (.tk 9 0<| .pure 9<| .tk 14 10<| .done) (by kernel_rfl) ?_
   simp only[aY,go_sem,e0,e3,ac,ad]
   refine Go.Ab.exQ (.bool false) ⟨λ q=>Bool.noConfusion q,?_⟩
   simp only[aY,go_sem,e0,e3,ac,ad]
   exact aQ hbd (h false (Au λ kk=>by have:=(sL k kk).1;rw[hnil]at this;simp at this))
  ·have hF1:p.viB t=F:=by rw[←hF,k];rfl
   simp only[go_sem,k,aj,Int.reduceBEq]
   refine aQ hbd (h true<|Av<| .inr (.inr (.inr (.inl ⟨k,by rw[hF1];exact hgF,λ a ha=> ?_⟩))))
   rw[hnil]at ha;cases ha
  all_goals (
   simp only[go_sem,k,aj,Int.reduceBEq]
   refine bb (.tk 3 0<| .pure 5<| .tk 2 3<| .pure 6<| .tk 2 7<| .done) (by kernel_rfl) ?_
   simp only[go_sem,d0,d2,d3,ac,ad]
   refine Go.Ab.exQ (.agg [iD 1,iD 1,iD 1,.sl 4 []]) ⟨λ hg=> ?_,?_⟩
   ·simp only[go_sem]
    exactλ Z'=>bH (one_ac _ _ _ ⟨rfl,rfl⟩)
   simp only[go_sem,d0,d2,d3,ac,ad]
   refine Go.Ab.exQ (.bool s.guard.one) ⟨λ hg=> ?_,?_⟩
   ·simp only[go_sem]
    exactλ Z'=>bH (AP _ (by have:=xx s.guard;have:=hsm.guard;simp [reachBytes];omega) _ _ _ ⟨rfl,rfl⟩)
   simp only[go_sem,k,d0,d2,d3,Int.reduceBEq,ac,ad]
   refine⟨λ q=>aQ hbd (h false (Au λ kk=>by rw[(Ch (by omega) kk).1]at q;exact Bool.noConfusion q)),λ q1=> ?_⟩)
  ·exact aQ hbd (h true<|Av<| .inr (.inr (.inr (.inr (.inl ⟨k,by simpa using q1,hnil⟩)))))
  ·refine bH (k8 _ _ _ _ _ ?_)
   cases hin:kj s.target (p.threads.length:Int)with
   |false=>
    simp only[go_sem,k,hin,d3,Int.reduceBEq,ac,ad]
    exact aQ hbd (h false (Au λ kk=>by rw[(Cg k kk).1]at hin;exact Bool.noConfusion hin))
   |true=>
    have htr:=cS.1 hin
    have g2:List.getD (p.threads.map c8) s.target.toNat default=c8 (p.threads.getD s.target.toNat fg):=fe (by omega)
    simp only[go_sem,k,hin,d3,g2,c8,Int.reduceBEq,ac,ad]
    refine⟨λ q=>⟨q,htr⟩,aQ hbd (h _ ⟨λ q=> ?_,λ kk=>by obtain⟨_,g1,g2⟩:=Cg k kk;rw[g2,dJ];exact bne_iff_ne.2 g1⟩)⟩
    simp only[aB,bne_iff_ne]at q
    exact .inr (.inr (.inr (.inr (.inr (.inl ⟨k,by simpa using q1,hnil,hin,q.1,q.2⟩)))))
  ·refine bH (k8 _ _ _ _ _ ?_)
   cases hin:kj s.target (p.threads.length:Int)with
   |false=>
    simp only[go_sem,k,hin,d3,Int.reduceBEq,ac,ad]
    exact aQ hbd (h false (Au λ kk=>by rw[(Cf k kk).1]at hin;exact Bool.noConfusion hin))
   |true=>
    have htr:=cS.1 hin
    have g2:List.getD (p.threads.map c8) s.target.toNat default=c8 (p.threads.getD s.target.toNat fg):=fe (by omega)
    simp only[go_sem,k,hin,d3,g2,c8,Int.reduceBEq,ac,ad]
    refine aQ hbd (h _ ⟨λ q=> ?_,λ kk=>bne_iff_ne.2 (Cf k kk).2⟩)
    simp only[bne_iff_ne]at q
    exact .inr (.inr (.inr (.inr (.inr (.inr ⟨k,by simpa using q1,hnil,hin,q⟩)))))
theorem kind_rng{p:Prg}{t:Int}{s:Stp}(h:jR p t s):1≤s.kind∧s.kind≤7:=by
 rcases h with h|h|h|h|h|h|h<;> (have:=h.1;omega)
theorem ym{s:Stp}{n m:Int}{am:Bool}(ham:(s.kind==6||s.kind==7)=am):(decide (s.kind<1)||decide (7<s.kind)|| !kj s.src (n - 1)|| !kj s.dst n|| !kj s.mod m||s.rel&&s.kind !=3||s.target !=0&& !am)=false↔
  ((1≤s.kind∧s.kind≤7)∧(0≤s.src∧s.src<n - 1)∧(0≤s.dst∧s.dst<n)∧(0≤s.mod∧s.mod<m)∧(s.rel=true→s.kind=3)∧(s.target≠0→s.kind=6∨s.kind=7)):=by
 subst ham
 simp only[bA,dw,cF,ay,bne_eq_false_iff_eq,cS,cd,cg]
 constructor
 ·rintro⟨⟨⟨⟨⟨⟨q1,q2⟩,q3⟩,q4⟩,q5⟩,q6⟩,q7⟩
  refine⟨by omega,q3,q4,q5,λ r=> ?_,λ r=> ?_⟩
  ·rcases q6 with q6|q6
   ·rw[r]at q6;exact Bool.noConfusion q6
   ·exact q6
  ·rcases q7 with q7|q7
   ·exact absurd q7 r
   ·exact q7
 ·rintro⟨q1,q2,q3,q4,q5,q6⟩
  refine⟨⟨⟨⟨⟨⟨by omega,by omega⟩,q2⟩,q3⟩,q4⟩,?_⟩,?_⟩
  ·cases hr:s.rel with
   |false=>exact .inl rfl
   |true=>exact .inr (q5 hr)
  ·by_cases ht:s.target=0
   ·exact .inl ht
   ·exact .inr (q6 ht)
theorem step_r(p:Prg)(hs:p.Small)(hc:lL p)(t:Nat)(ht:t<p.threads.length)(hpt:1≤(p.thr t).points∧(p.thr t).points≤8)(s:Stp)(hsm:StpSm s)(Z:St)(G:Glob)(R:A→St→Prop)(h:∀c:Int,(c=0↔StpOk p t (p.thr t).points s)→R (di c) Z):AC Tryz.prog G 107 [.d (bK p),dn t,.d (eP s)] Z R:=by
 have hn:=hs.ncel
 have hsn:=hsm.set
 have hk2:∀(hset:∀a∈s.set,AsgOk p a) (hg:s.guard.valid p.cells false=true) (hk:1≤s.kind∧s.kind≤7) (Z:St) (R:A→St→Prop),(∀b:Bool,(b=true↔jR p t s)→R (db b) Z)→AC Tryz.prog G 139 [.d (bK p),dn t,.d (eP s)] Z R:=λ hset hg hk Z R hR=>kind_r p hs hc t s hsm hset hg hk Z G R hR
 have rv:∀(e:Ex),e.nodes≤40→∀(Z:St) (R:A→St→Prop),R (db (e.valid p.cells false)) Z→AC Tryz.prog G 108 [.d (eD e),.d (aY p.cells),db false] Z R:=λ e he Z R hR=>by
  have:=qS e (lF he) p.cells (by simp [reachBytes];omega) false Z G R hR
  rw[ed]at this
  exact this
 obtain⟨n,hnn⟩:∃n,(p.thr t).points=n:=⟨_,rfl⟩
 rw[hnn]at hpt h
 have gt:List.getD (p.threads.map c8) t default=c8 (p.thr t):=fe ht
 have wn:IntKind.i64.wrap (n - 1)=n - 1:=cq _ (by omega) (by omega)
 unfold bK eP at*
 unfold eD at rv
 refine bD [3,5,7,20,11,13,18] a9 Tryz.func107 rfl Tryz.ntmps107 (by simp only[go_sem]) λ hbd=> ?_
 simp only[ae,aj,Nat.reduceAdd,Nat.reduceSub,af,ag,ah,ak]
 simp only[go_sem,gt,c8,hnn,ac,ad]
 refine⟨⟨by omega,by omega⟩,?_⟩
 obtain⟨am,ham⟩:∃am,(s.kind==6||s.kind==7)=am:=⟨_,rfl⟩
 refine bc (λ fr st=>fr=%[.o,dn t,.o,.ref Z.length 0,.o,.ref (Z.length+1) 0,.o,di n,db am|D7 (D7 (D4 [.o,.o,.o,.o,.o,.o]))]∧st=Z++[bN p,gS s]) ?_ ?_
 ·simp only[go_sem,ac,ad]
  rw[ham]
  exact Wk.mask [1,3,5,7,8] ⟨rfl,rfl⟩
 rintro fr st ⟨rfl,rfl⟩
 refine bc (λ fr st=>((1≤s.kind∧s.kind≤7)∧(0≤s.src∧s.src<n - 1)∧(0≤s.dst∧s.dst<n)∧(0≤s.mod∧s.mod<p.modules.length)∧(s.rel=true→s.kind=3)∧(s.target≠0→s.kind=6∨s.kind=7))∧fr=%[.o,dn t,.o,.ref Z.length 0,.o,.ref (Z.length+1) 0,.o,di n,db am|D7 (D7 (D4 [.o,.o,.o,.o,.o,.o]))]∧st=Z++[bN p,gS s]) ?_ ?_
 ·simp only[go_sem,wn,ac,ad]
  refine gO (.bool (kj s.src (n - 1))) ⟨λ hg=> ?_,?_⟩
  ·simp only[go_sem]
   exact⟨hg,bH (k8 _ _ _ _ _ ⟨by rw[wn],rfl⟩)⟩
  simp only[go_sem,ac,ad]
  refine gO (.bool (kj s.dst n)) ⟨λ hg=> ?_,?_⟩
  ·simp only[go_sem]
   exact⟨hg,bH (k8 _ _ _ _ _ ⟨rfl,rfl⟩)⟩
  simp only[go_sem,ac,ad]
  refine gO (.bool (kj s.mod p.modules.length)) ⟨λ hg=> ?_,?_⟩
  ·simp only[go_sem]
   exact⟨hg,bH (k8 _ _ _ _ _ ⟨by rw[ac],rfl⟩)⟩
  simp only[go_sem,ac,ad]
  refine⟨λ q=>⟨q,λ r=>by rw[q,r];rfl⟩,λ q=>⟨q,λ r=>by rw[q,r];rfl⟩,λ q=>aQ hbd (h 70 (eN (by decide) λ k=> ?_)),λ q=>Wk.mask [1,3,5,7,8] ⟨(ym ham).1 q,rfl,rfl⟩⟩
  rw[(ym ham).2 ⟨kind_rng k.kind,k.src,k.dst,k.mod,k.rel,k.target⟩]at q
  exact Bool.noConfusion q
 rintro fr st ⟨hf,rfl,rfl⟩
 refine bc (λ fr st=>(s.guard.valid p.cells false=true∧s.guard.w=1)∧fr=%[.o,dn t,.o,.ref Z.length 0,.o,.ref (Z.length+1) 0|D7 (D7 (D5 [.o]))]∧st=Z++[bN p,gS s]) ?_ ?_
 ·simp only[go_sem,ac,ad]
  refine bH (rv s.guard hsm.guard _ _ ?_)
  simp only[go_sem,ac,ad]
  refine⟨λ q=>by simpa using q,λ q=>aQ hbd (h 60 (eN (by decide) λ k=>by rw[k.guard,k.gw]at q;exact absurd q (by decide))),λ q=>Wk.mask [1,3,5] ⟨?_,rfl,rfl⟩⟩
  simpa using q
 rintro fr st ⟨hg,rfl,rfl⟩
 refine bc (λ fr st=>((∀a∈s.set,AsgOk p a)∧(s.set.map Asg.cell).Nodup)∧fr=%[.o,dn t,.o,.ref Z.length 0,.o,.ref (Z.length+1) 0|D7 (D7 (D5 [.o]))]∧st=Z++[bN p,gS s]) ?_ ?_
 ·simp only[go_sem,ac,ad]
  refine aS (λ m fr st=>∃j:Nat,j≤s.set.length∧m=s.set.length - j∧(∀a∈s.set.take j,AsgOk p a)∧((s.set.take j).map Asg.cell).Nodup∧fr=%[.o,dn t,.o,.ref Z.length 0,.o,.ref (Z.length+1) 0,.o,.o,.o,dn j|D7 (D7 (D4 [.o,.o,.o,.o,.o]))]∧st=Z++[bN p,gS s]) s.set.length _ (Wk.mask [1,3,5,9] ⟨0,by omega,by omega,by simp,by simp,rfl,rfl⟩) ?_
  rintro m fr st ⟨j,hj,hm,hall,hnd,rfl,rfl⟩
  rcases aC j s.set.length with hlt|hge
  ·have hd:decide ((j:Int)<(s.set.length:Int))=true:=by simp only[av];omega
   have w2:=bC j (by omega)
   obtain⟨a,ha⟩:∃a,s.set.getD j dt=a:=⟨_,rfl⟩
   have ham2:a∈s.set:=by rw[←ha];exact bT dt hlt
   have g1:List.getD (s.set.map dM) j default=dM a:=by rw[iP hlt,ha]
   simp only[go_sem,hd,ac,ad]
   refine bc (λ fr st=>fr=%[.o,dn t,.o,.ref Z.length 0,.o,.ref (Z.length+1) 0,.o,.o,.o,dn j,di a.cell|D7 (D7 (D4 [.o,.o,.o,.o]))]∧st=Z++[bN p,gS s]) ?_ ?_
   ·simp only[go_sem,hd,g1,dM,ac,ad]
    exact⟨⟨by omega,by omega⟩,Wk.mask [1,3,5,9,10] ⟨rfl,rfl⟩⟩
   rintro fr st ⟨rfl,rfl⟩
   refine bc (λ fr st=>(0≤a.cell∧a.cell<p.cells.length)∧fr=%[.o,dn t,.o,.ref Z.length 0,.o,.ref (Z.length+1) 0,.o,.o,.o,dn j,di a.cell|D7 (D7 (D4 [.o,.o,.o,.o]))]∧st=Z++[bN p,gS s]) ?_ ?_
   ·simp only[aY,go_sem,ac,ad]
    refine bH (k8 _ _ _ _ _ ?_)
    simp only[aY,go_sem,ac,ad]
    exact⟨λ q=>aQ hbd (h 70 (eN (by decide) λ k=>by rw[(k.set a ham2).cell]at q;exact Bool.noConfusion q)),λ q=>Wk.mask [1,3,5,9,10] ⟨cS.1 (by simpa using q),rfl,rfl⟩⟩
   rintro fr st ⟨har,rfl,rfl⟩
   refine bc (λ fr st=>(∀i,i<j→(s.set.getD i dt).cell≠a.cell)∧fr=%[.o,dn t,.o,.ref Z.length 0,.o,.ref (Z.length+1) 0,.o,.o,.o,dn j,di a.cell|D7 (D7 (D4 [.o,.o,.o,.o]))]∧st=Z++[bN p,gS s]) ?_ ?_
   ·simp only[go_sem,ac,ad]
    refine aS (λ m fr st=>∃k:Nat,k≤j∧m=j - k∧(∀i,i<k→(s.set.getD i dt).cell≠a.cell)∧fr=%[.o,dn t,.o,.ref Z.length 0,.o,.ref (Z.length+1) 0,.o,.o,.o,dn j,di a.cell,dn k|D7 (D7 (D4 [.o,.o,.o]))]∧st=Z++[bN p,gS s]) j _ (Wk.mask [1,3,5,9,10,11] ⟨0,by omega,by omega,λ i hi=>absurd hi (by omega),rfl,rfl⟩) ?_
    rintro m2 fr st ⟨k,hk,hm2,hne,rfl,rfl⟩
    rcases aC k j with hkl|hkg
    ·have hd2:decide ((k:Int)<(j:Int))=true:=by simp only[av];omega
     have w3:=bC k (by omega)
     have g2:List.getD (s.set.map dM) k default=dM (s.set.getD k dt):=iP (by omega)
     simp only[aY,go_sem,hd2,w3,g2,dM,ac,ad]
     refine⟨⟨by omega,by omega⟩,λ q=>aQ hbd (h 70 (eN (by decide) λ k=>ou (f:=Asg.cell) dt hkl hlt (by rw[ha];simpa using q) k.nodup)),λ q=>Wk.mask [1,3,5,9,10,11] ⟨j - (k+1),by omega,k+1,by omega,rfl,λ i hi=> ?_,rfl,rfl⟩⟩
     rcases aC i k with h1|h1
     ·exact hne i h1
     ·obtain rfl:i=k:=by omega
      simpa using q
    ·have hd2:decide ((k:Int)<(j:Int))=false:=by simp only[ay];omega
     simp only[aY,go_sem,hd2,ac,ad]
     obtain rfl:k=j:=by omega
     exact Wk.mask [1,3,5,9,10] ⟨hne,rfl,rfl⟩
   rintro fr st ⟨hne,rfl,rfl⟩
   simp only[aY,go_sem,ac,ad]
   refine bb (.tk 8 0<| .pure 8<| .tk 17 9<| .done) (by kernel_rfl) ?_
   simp only[aY,go_sem,g1,dM,ac,ad]
   have rva:=rv a.to (hsm.to a ham2)
   unfold aY at rva
   refine⟨⟨by omega,by omega⟩,Go.Ab.mN (db (a.to.valid p.cells false)) ⟨λ Z'=>bH (rva _ _ ⟨rfl,rfl⟩),?_⟩⟩
   simp only[aY,go_sem,g1,dM,w2,fZ p har,fb,ac,ad]
   refine⟨λ q=>⟨q,by omega,by omega⟩,λ q=>⟨q,har⟩,λ q=>by simpa using q,λ q=>aQ hbd (h 60 (eN (by decide) λ k=> ?_)),λ q=> ?_⟩
   ·have ka:=k.set a ham2
    rw[ka.to,ka.w]at q
    simp at q
   ·simp only[bA,cF,bne_eq_false_iff_eq]at q
    exact Wk.mask [1,3,5,9] ⟨s.set.length - (j+1),by omega,j+1,by omega,rfl,fm dt hlt hall (by rw[ha];exact⟨cS.2 har,q.2,q.1⟩),kX dt hlt hnd (by rw[ha];exact hne),rfl,rfl⟩
  ·have hd:decide ((j:Int)<(s.set.length:Int))=false:=by simp only[ay];omega
   obtain rfl:j=s.set.length:=by omega
   simp only[go_sem,hd,ac]
   rw[bB]at hall hnd
   exact Wk.mask [1,3,5] ⟨⟨hall,hnd⟩,rfl,rfl⟩
 rintro fr st ⟨⟨hall,hnd⟩,rfl,rfl⟩
 simp only[go_sem,ac,ad]
 refine bH (hk2 hall hg.1 hf.1 _ _ λ b hb=> ?_)
 simp only[go_sem,ac,ad]
 refine⟨λ q=>aQ hbd (h 70 (eN (by decide) λ k=>by rw[hb.2 k.kind]at q;exact Bool.noConfusion q)),λ q=>aQ hbd (h 0 ⟨λ _=>⟨hf.2.1,hf.2.2.1,hf.2.2.2.1,hf.2.2.2.2.1,hf.2.2.2.2.2,hg.2,hg.1,hall,hnd,hb.1 (by simpa using q)⟩,λ _=>rfl⟩)⟩
abbrev iw(x:Thr):Option Ob:=some (.cells [.d (.str x.name),.d (iD x.points),.d (.sl 4 (x.asserts.map Ex.d)),.d (bu x.mods),.d (.sl 11 (x.steps.map eP)),.d (.sl 6 (x.loops.map pt)),.d (.bool x.asleep)])
abbrev lopO(l:Lop):Option Ob:=some (.cells [.d (iD l.head),.d (bu l.body),.d (iD l.var.op),.d (iD l.var.w),.d (iD l.var.n),.d (.sl 4 (l.var.kids.map Ex.d))])
def xT(p:Prg)(t:Nat):Prop:=ThrOk p t (p.thr t)∧∀k,k<t→(p.thr k).name≠(p.thr t).name
theorem thread_r(p:Prg)(hs:p.Small)(hc:lL p)(hz:∀x∈p.threads,x.name.length≤reachBytes)(t:Nat)(ht:t<p.threads.length)(Z:St)(G:Glob)(R:A→St→Prop)(h:∀c i:Int,(c=0↔xT p t)→R (.tup [di c,di i]) Z):AC Tryz.prog G 67 [.d (bK p),dn t] Z R:=by
 have hn:=hs.ncel
 have hnt:=hs.nthr
 obtain⟨x,hx⟩:∃x,p.thr t=x:=⟨_,rfl⟩
 have hxm:x∈p.threads:=by rw[←hx];exact bT fg ht
 have sx:=hs.threads x hxm
 have l1:=sx.nas
 have l2:=sx.nmo
 have l3:=sx.nst
 have l4:=sx.nlo
 have l5:=sx.points
 have gt:List.getD (p.threads.map c8) t default=c8 x:=by rw[fe ht];exact congrArg c8 hx
 have stp:1≤x.points→∀(s:Stp),StpSm s→∀(Z:St) (R:A→St→Prop),(∀c:Int,(c=0↔StpOk p t x.points s)→R (di c) Z)→AC Tryz.prog G 107 [.d (bK p),dn t,.d (eP s)] Z R:=λ h1 s hsm Z R hR=>step_r p hs hc t ht (by rw[hx];exact⟨h1,l5⟩) s hsm Z G R (by rw[hx];exact hR)
 have tru:∀(e:Ex),e.nodes≤40→∀(Z:St) (R:A→St→Prop),R (db (p.truB e false (p.viB t))) Z→AC Tryz.prog G 105 [.d (bK p),.d (eD e),db false,dn t] Z R:=λ e he Z R hR=>sG p (by omega) hc e (lF he) false t Z G R hR
 have rv:∀(e:Ex),e.nodes≤40→∀(Z:St) (R:A→St→Prop),R (db (e.valid p.cells false)) Z→AC Tryz.prog G 108 [.d (eD e),.d (aY p.cells),db false] Z R:=λ e he Z R hR=>by
  have:=qS e (lF he) p.cells (by simp [reachBytes];omega) false Z G R hR
  rw[ed]at this
  exact this
 have ov:∀(e:Ex),e.nodes≤40→e.valid p.cells false=true→∀(Z:St) (R:A→St→Prop),R (db (e.allB (p.viB t))) Z→AC Tryz.prog G 109 [.d (bK p),.d (eD e),db true,dn t] Z R:=λ e he hv Z R hR=>A1 p (by omega) (λ c h=>(hc.1 c h).thread.1) e (lF he) false hv true t (λ q=>Bool.noConfusion q) Z G R hR
 unfold xT at h
 rw[hx]at h
 unfold bK at*
 unfold eP at stp
 unfold eD at tru rv ov
 refine bD [2,4,9,11,16,21,27,31,33,38] a9 Tryz.func67 rfl Tryz.ntmps67 (by simp only[go_sem]) λ hbd=> ?_
 simp only[ae,aj,Nat.reduceAdd,Nat.reduceSub,af,ag,ah,ak]
 simp only[go_sem,ac,ad]
 refine bc (λ fr st=>fr=%[.o,dn t,.ref Z.length 0,.o,.o,.o,.ref (Z.length+1) 0|D7 (D7 (D6 [.o,.o,.o,.o,.o,.o]))]∧st=Z++[bN p,iw x]) ?_ ?_
 ·simp only[go_sem,gt,c8,ac,ad]
  exact⟨⟨by omega,by omega⟩,Wk.mask [1,2,6] ⟨rfl,rfl⟩⟩
 rintro fr st ⟨rfl,rfl⟩
 refine bc (λ fr st=>jj x.name=true∧fr=%[.o,dn t,.ref Z.length 0,.o,.o,.o,.ref (Z.length+1) 0|D7 (D7 (D6 [.o,.o,.o,.o,.o,.o]))]∧st=Z++[bN p,iw x]) ?_ ?_
 ·try simp only[go_sem]
  refine bH (qg _ (hz x hxm) _ _ _ ?_)
  try simp only[go_sem]
  exact⟨λ q=>dq hbd rfl (h 1 (-1) (eN (by decide) λ k=>by rw[k.1.name]at q;exact Bool.noConfusion q)),λ q=>Wk.mask [1,2,6] ⟨by simpa using q,rfl,rfl⟩⟩
 rintro fr st ⟨hlab,rfl,rfl⟩
 refine bc (λ fr st=>(∀k,k<t→(p.thr k).name≠x.name)∧fr=%[.o,dn t,.ref Z.length 0,.o,.o,.o,.ref (Z.length+1) 0|D7 (D7 (D6 [.o,.o,.o,.o,.o,.o]))]∧st=Z++[bN p,iw x]) ?_ ?_
 ·try simp only[go_sem]
  refine aS (λ m fr st=>∃k:Nat,k≤t∧m=t - k∧(∀i,i<k→(p.thr i).name≠x.name)∧fr=%[.o,dn t,.ref Z.length 0,.o,.o,.o,.ref (Z.length+1) 0,dn k|D7 (D7 (D6 [.o,.o,.o,.o,.o]))]∧st=Z++[bN p,iw x]) t _ (Wk.mask [1,2,6,7] ⟨0,by omega,by omega,λ i hi=>absurd hi (by omega),rfl,rfl⟩) ?_
  rintro m fr st ⟨k,hk,hm,hne,rfl,rfl⟩
  rcases aC k t with hkl|hkg
  ·have hd2:decide ((k:Int)<(t:Int))=true:=by simp only[av];omega
   have w3:=bC k (by omega)
   have g2:List.getD (p.threads.map c8) k default=c8 (p.thr k):=fe (by omega)
   simp only[go_sem,hd2,ac]
   refine bb (.tk 9 0<| .done) (by kernel_rfl) ?_
   simp only[go_sem,w3,g2,c8,ac,ad]
   refine⟨⟨by omega,by omega⟩,λ q=>dq hbd rfl (h 41 (-1) (eN (by decide) λ kk=>kk.2 k hkl (by simpa using q))),λ q=>Wk.mask [1,2,6,7] ⟨t - (k+1),by omega,k+1,by omega,rfl,λ i hi=> ?_,rfl,rfl⟩⟩
   rcases aC i k with h1|h1
   ·exact hne i h1
   ·obtain rfl:i=k:=by omega
    simpa using q
  ·have hd2:decide ((k:Int)<(t:Int))=false:=by simp only[ay];omega
   simp only[go_sem,hd2,ac,ad]
   obtain rfl:k=t:=by omega
   exact Wk.mask [1,2,6] ⟨hne,rfl,rfl⟩
 rintro fr st ⟨hne,rfl,rfl⟩
 refine bc (λ fr st=>(1≤x.points∧(x.asserts.length:Int)=x.points∧(x.mods.length:Int)=x.points)∧fr=%[.o,dn t,.ref Z.length 0,.o,.o,.o,.ref (Z.length+1) 0|D7 (D7 (D6 [.o,.o,.o,.o,.o,.o]))]∧st=Z++[bN p,iw x]) ?_ ?_
 ·simp only[bu,go_sem,ac]
  refine⟨λ q=>dq hbd rfl (h 1 (-1) (eN (by decide) λ k=> ?_)),λ q=>Wk.mask [1,2,6] ⟨?_,rfl,rfl⟩⟩
  ·rw[k.1.nas,k.1.nmo]at q
   have:=k.1.points
   simp only[cd,av,bne_self_eq_false,eG,or_false]at q
   omega
  ·simp only[bA,ay,bne_eq_false_iff_eq]at q
   exact⟨by omega,q.1.2,q.2⟩
 rintro fr st ⟨hpt,rfl,rfl⟩
 refine bc (λ fr st=>(∀m∈x.mods,0≤m∧m<p.modules.length)∧fr=%[.o,dn t,.ref Z.length 0,.o,.o,.o,.ref (Z.length+1) 0|D7 (D7 (D6 [.o,.o,.o,.o,.o,.o]))]∧st=Z++[bN p,iw x]) ?_ ?_
 ·simp only[bu,go_sem,ac]
  refine aS (λ m fr st=>∃k:Nat,k≤x.mods.length∧m=x.mods.length - k∧(∀m∈x.mods.take k,0≤m∧m<(p.modules.length:Int))∧fr=%[.o,dn t,.ref Z.length 0,.o,.o,.o,.ref (Z.length+1) 0,.o,dn k|D7 (D7 (D6 [.o,.o,.o,.o]))]∧st=Z++[bN p,iw x]) x.mods.length _ (Wk.mask [1,2,6,8] ⟨0,by omega,by omega,by simp,rfl,rfl⟩) ?_
  rintro m fr st ⟨k,hk,hm,hall,rfl,rfl⟩
  rcases aC k x.mods.length with hkl|hkg
  ·have hd2:decide ((k:Int)<(x.mods.length:Int))=true:=by simp only[av];omega
   have w3:=bC k (by omega)
   obtain⟨c,hcc⟩:∃c,x.mods.getD k 0=c:=⟨_,rfl⟩
   have hcm:c∈x.mods:=by rw[←hcc];exact bT 0 hkl
   have g2:List.getD (x.mods.map iD) k default=iD c:=by rw[bW hkl,hcc]
   simp only[bu,go_sem,hd2,ac]
   refine bb (.tk 8 0<| .pure 8<| .take 9<| .done) (by kernel_rfl) ?_
   simp only[bu,go_sem,w3,g2,ac,ad]
   refine⟨⟨by omega,by omega⟩,Go.Ab.mN (db (kj c p.modules.length)) ⟨λ Z'=>bH (k8 _ _ _ _ _ ⟨rfl,rfl⟩),?_⟩⟩
   simp only[bu,go_sem,w3,g2,ac,ad]
   refine⟨λ q=>dq hbd rfl (h 1 (-1) (eN (by decide) λ kk=>by rw[cS.2 (kk.1.mods c hcm)]at q;exact Bool.noConfusion q)),λ q=>Wk.mask [1,2,6,8] ⟨x.mods.length - (k+1),by omega,k+1,by omega,rfl,fm 0 hkl hall (by rw[hcc];exact cS.1 (by simpa using q)),rfl,rfl⟩⟩
  ·have hd2:decide ((k:Int)<(x.mods.length:Int))=false:=by simp only[ay];omega
   simp only[bu,go_sem,hd2,ac,ad]
   obtain rfl:k=x.mods.length:=by omega
   rw[bB]at hall
   exact Wk.mask [1,2,6] ⟨hall,rfl,rfl⟩
 rintro fr st ⟨hmods,rfl,rfl⟩
 refine bc (λ fr st=>(∀e∈x.asserts,p.truB e false (p.viB t)=true)∧fr=%[.o,dn t,.ref Z.length 0,.o,.o,.o,.ref (Z.length+1) 0|D7 (D7 (D6 [.o,.o,.o,.o,.o,.o]))]∧st=Z++[bN p,iw x]) ?_ ?_
 ·simp only[go_sem,ac]
  refine aS (λ m fr st=>∃k:Nat,k≤x.asserts.length∧m=x.asserts.length - k∧(∀e∈x.asserts.take k,p.truB e false (p.viB t)=true)∧fr=%[.o,dn t,.ref Z.length 0,.o,.o,.o,.ref (Z.length+1) 0,.o,.o,dn k|D7 (D7 (D6 [.o,.o,.o]))]∧st=Z++[bN p,iw x]) x.asserts.length _ (Wk.mask [1,2,6,9] ⟨0,by omega,by omega,by simp,rfl,rfl⟩) ?_
  rintro m fr st ⟨k,hk,hm,hall,rfl,rfl⟩
  rcases aC k x.asserts.length with hkl|hkg
  ·have hd2:decide ((k:Int)<(x.asserts.length:Int))=true:=by simp only[av];omega
   have w3:=bC k (by omega)
   obtain⟨c,hcc⟩:∃c,x.asserts.getD k zQ=c:=⟨_,rfl⟩
   have hcm:c∈x.asserts:=by rw[←hcc];exact bT zQ hkl
   have g2:List.getD (x.asserts.map Ex.d) k default=eD c:=by rw[Gy hkl,hcc]
   unfold eD at g2
   simp only[go_sem,hd2,ac]
   refine bb (.tk 7 0<| .pure 7<| .take 8<| .done) (by kernel_rfl) ?_
   simp only[go_sem,w3,g2,ac,ad]
   refine⟨⟨by omega,by omega⟩,Go.Ab.mN (db (p.truB c false (p.viB t))) ⟨λ Z'=>bH (tru c (sx.asserts c hcm) _ _ ⟨rfl,rfl⟩),?_⟩⟩
   simp only[go_sem,w3,g2,ac,ad]
   refine⟨λ q=>dq hbd rfl (h 60 (-1) (eN (by decide) λ kk=>by rw[kk.1.asserts c hcm]at q;exact Bool.noConfusion q)),λ q=>Wk.mask [1,2,6,9] ⟨x.asserts.length - (k+1),by omega,k+1,by omega,rfl,fm zQ hkl hall (by rw[hcc];simpa using q),rfl,rfl⟩⟩
  ·have hd2:decide ((k:Int)<(x.asserts.length:Int))=false:=by simp only[ay];omega
   simp only[go_sem,hd2,ac,ad]
   obtain rfl:k=x.asserts.length:=by omega
   rw[bB]at hall
   exact Wk.mask [1,2,6] ⟨hall,rfl,rfl⟩
 rintro fr st ⟨hass,rfl,rfl⟩
 refine bc (λ fr st=>(∀s∈x.steps,StpOk p t x.points s)∧fr=%[.o,dn t,.ref Z.length 0,.o,.o,.o,.ref (Z.length+1) 0|D7 (D7 (D6 [.o,.o,.o,.o,.o,.o]))]∧st=Z++[bN p,iw x]) ?_ ?_
 ·simp only[go_sem,ac]
  refine aS (λ m fr st=>∃k:Nat,k≤x.steps.length∧m=x.steps.length - k∧(∀s∈x.steps.take k,StpOk p t x.points s)∧fr=%[.o,dn t,.ref Z.length 0,.o,.o,.o,.ref (Z.length+1) 0,.o,.o,.o,dn k|D7 (D7 (D6 [.o,.o]))]∧st=Z++[bN p,iw x]) x.steps.length _ (Wk.mask [1,2,6,10] ⟨0,by omega,by omega,by simp,rfl,rfl⟩) ?_
  rintro m fr st ⟨k,hk,hm,hall,rfl,rfl⟩
  rcases aC k x.steps.length with hkl|hkg
  ·have hd2:decide ((k:Int)<(x.steps.length:Int))=true:=by simp only[av];omega
   have w3:=bC k (by omega)
   obtain⟨s,hcc⟩:∃c,x.steps.getD k jY=c:=⟨_,rfl⟩
   have hcm:s∈x.steps:=by rw[←hcc];exact bT jY hkl
   have g2:List.getD (x.steps.map eP) k default=eP s:=by rw[mw hkl,hcc]
   simp only[go_sem,hd2,ac]
   refine bb (.tk 9 0<| .done) (by kernel_rfl) ?_
   simp only[go_sem,w3,g2,eP,ac,ad]
   refine⟨⟨by omega,by omega⟩,bH (stp hpt.1 s (sx.steps s hcm) _ _ λ c hcs=> ?_)⟩
   simp only[go_sem,w3,g2,ac,ad]
   refine⟨λ q=>dq hbd rfl (h c _ ⟨λ q0=> ?_,λ kk=> ?_⟩),λ q=>Wk.mask [1,2,6,10] ⟨x.steps.length - (k+1),by omega,k+1,by omega,rfl,fm jY hkl hall (by rw[hcc];exact hcs.1 (by simpa using q)),rfl,rfl⟩⟩
   ·rw[q0]at q;exact absurd q (by decide)
   ·exact hcs.2 (kk.1.steps s hcm)
  ·have hd2:decide ((k:Int)<(x.steps.length:Int))=false:=by simp only[ay];omega
   simp only[go_sem,hd2,ac,ad]
   obtain rfl:k=x.steps.length:=by omega
   rw[bB]at hall
   exact Wk.mask [1,2,6] ⟨hall,rfl,rfl⟩
 rintro fr st ⟨hstp,rfl,rfl⟩
 simp only[go_sem,ac]
 refine aS (λ m fr st=>∃k:Nat,k≤x.loops.length∧m=x.loops.length - k∧(∀s∈x.loops.take k,LopOk p t x.points s)∧fr=%[.o,dn t,.ref Z.length 0,.o,.o,.o,.ref (Z.length+1) 0,.o,.o,.o,.o,.o,dn k|D7 (D7 (D6 []))]∧st=Z++[bN p,iw x]) x.loops.length _ (Wk.mask [1,2,6,12] ⟨0,by omega,by omega,by simp,rfl,rfl⟩) ?_
 rintro m fr st ⟨k,hk,hm,hall,rfl,rfl⟩
 rcases aC k x.loops.length with hkl|hkg
 ·have hd2:decide ((k:Int)<(x.loops.length:Int))=true:=by simp only[av];omega
  have w3:=bC k (by omega)
  obtain⟨l,hcc⟩:∃c,x.loops.getD k vg=c:=⟨_,rfl⟩
  have hcm:l∈x.loops:=by rw[←hcc];exact bT vg hkl
  obtain⟨sl1,sl2⟩:=sx.loops l hcm
  have g2:List.getD (x.loops.map pt) k default=pt l:=by rw[A5 hkl,hcc]
  simp only[go_sem,hd2,ac,ad]
  refine bc (λ fr st=>fr=%[.o,dn t,.ref Z.length 0,.o,.o,.o,.ref (Z.length+1) 0,.o,.o,.o,.o,.o,dn k,.ref (Z.length+2) 0|D7 (D7 (D5 (D4 [.o,.o,.o,.o,.o,.o,.o])))]∧st=Z++[bN p,iw x,lopO l]) ?_ ?_
  ·simp only[go_sem,g2,pt,ac,ad]
   exact⟨⟨by omega,by omega⟩,Wk.mask [1,2,6,12,13] ⟨rfl,rfl⟩⟩
  rintro fr st ⟨rfl,rfl⟩
  refine bc (λ fr st=>((0≤l.head∧l.head<x.points)∧qE l.body)∧fr=%[.o,dn t,.ref Z.length 0,.o,.o,.o,.ref (Z.length+1) 0,.o,.o,.o,.o,.o,dn k,.ref (Z.length+2) 0|D7 (D7 (D5 (D4 [.o,.o,.o,.o,.o,.o,.o])))]∧st=Z++[bN p,iw x,lopO l]) ?_ ?_
  ·simp only[go_sem,ac,ad]
   refine bH (k8 _ _ _ _ _ ?_)
   cases hin:kj l.head x.points with
   |false=>
    simp only[go_sem,ac,ad]
    refine gO (.bool false) ⟨λ q=>Bool.noConfusion q,?_⟩
    simp only[go_sem,ac,ad]
    exact dq hbd rfl (h 1 (-1) (eN (by decide) λ kk=>by rw[cS.2 (kk.1.loops l hcm).head]at hin;exact Bool.noConfusion hin))
   |true=>
    simp only[go_sem,ac,ad]
    refine exs ⟨λ _=> ?_,λ q=>Bool.noConfusion q⟩
    simp only[go_sem,ac,ad]
    refine bH (vG _ (by simp [reachBytes];omega) _ _ _ λ b hb=> ?_)
    simp only[go_sem,ac,ad]
    exact⟨λ q=>dq hbd rfl (h 1 (-1) (eN (by decide) λ kk=>by rw[hb.2 (kk.1.loops l hcm).rise]at q;exact Bool.noConfusion q)),λ q=>Wk.mask [1,2,6,12,13] ⟨⟨cS.1 hin,hb.1 (by simpa using q)⟩,rfl,rfl⟩⟩
  rintro fr st ⟨hhr,rfl,rfl⟩
  refine bc (λ fr st=>(∀c∈l.body,0≤c∧c<x.points∧c≠l.head)∧fr=%[.o,dn t,.ref Z.length 0,.o,.o,.o,.ref (Z.length+1) 0,.o,.o,.o,.o,.o,dn k,.ref (Z.length+2) 0|D7 (D7 (D5 (D4 [.o,.o,.o,.o,.o,.o,.o])))]∧st=Z++[bN p,iw x,lopO l]) ?_ ?_
  ·simp only[bu,go_sem,ac]
   refine aS (λ m fr st=>∃i:Nat,i≤l.body.length∧m=l.body.length - i∧(∀c∈l.body.take i,0≤c∧c<x.points∧c≠l.head)∧fr=%[.o,dn t,.ref Z.length 0,.o,.o,.o,.ref (Z.length+1) 0,.o,.o,.o,.o,.o,dn k,.ref (Z.length+2) 0,dn i|D7 (D7 (D5 (D4 [.o,.o,.o,.o,.o,.o])))]∧st=Z++[bN p,iw x,lopO l]) l.body.length _ (Wk.mask [1,2,6,12,13,14] ⟨0,by omega,by omega,by simp,rfl,rfl⟩) ?_
   rintro m2 fr st ⟨i,hi,hm2,hbd2,rfl,rfl⟩
   rcases aC i l.body.length with hil|hig
   ·have hd3:decide ((i:Int)<(l.body.length:Int))=true:=by simp only[av];omega
    have w4:=bC i (by omega)
    obtain⟨c,hc3⟩:∃c,l.body.getD i 0=c:=⟨_,rfl⟩
    have hcm3:c∈l.body:=by rw[←hc3];exact bT 0 hil
    have g3:List.getD (l.body.map iD) i default=iD c:=by rw[bW hil,hc3]
    simp only[bu,go_sem,hd3,ac]
    refine bb (.tk 7 0<| .pure 7<| .tk 11 8<| .done) (by kernel_rfl) ?_
    simp only[bu,go_sem,w4,g3,ac,ad]
    refine⟨⟨by omega,by omega⟩,Go.Ab.mN (db (kj c x.points)) ⟨λ Z'=>bH (k8 _ _ _ _ _ ⟨rfl,rfl⟩),?_⟩⟩
    simp only[bu,go_sem,w4,g3,ac,ad]
    refine⟨λ q=>⟨q,by omega,by omega⟩,λ q=>by simpa using q,λ q=>dq hbd rfl (h 1 (-1) (eN (by decide) λ kk=> ?_)),λ q=>Wk.mask [1,2,6,12,13,14] ⟨l.body.length - (i+1),by omega,i+1,by omega,rfl,fm 0 hil hbd2 ?_,rfl,rfl⟩⟩
    ·obtain⟨b1,b2,b3⟩:=(kk.1.loops l hcm).body c hcm3
     rw[cS.2 ⟨b1,b2⟩]at q
     simp only[g9,fj,cg]at q
     exact b3 q
    ·simp only[bA,cF,ck]at q
     rw[hc3]
     exact⟨(cS.1 q.1).1,(cS.1 q.1).2,q.2⟩
   ·have hd3:decide ((i:Int)<(l.body.length:Int))=false:=by simp only[ay];omega
    simp only[bu,go_sem,hd3,ac,ad]
    obtain rfl:i=l.body.length:=by omega
    rw[bB]at hbd2
    exact Wk.mask [1,2,6,12,13] ⟨hbd2,rfl,rfl⟩
  rintro fr st ⟨hbod,rfl,rfl⟩
  simp only[go_sem,w3,ac,ad]
  refine bH (rv l.var sl2 _ _ ?_)
  cases hv:l.var.valid p.cells false with
  |false=>
   simp only[go_sem,w3,ac,ad]
   refine gO (.bool false) ⟨λ q=>Bool.noConfusion q,?_⟩
   simp only[go_sem,w3,ac,ad]
   exact dq hbd rfl (h 60 (-1) (eN (by decide) λ kk=>by rw[(kk.1.loops l hcm).var]at hv;exact Bool.noConfusion hv))
  |true=>
   simp only[go_sem,w3,ac,ad]
   refine exs ⟨λ _=> ?_,λ q=>Bool.noConfusion q⟩
   simp only[go_sem,w3,ac,ad]
   refine bH (ov l.var sl2 hv _ _ ?_)
   simp only[go_sem,w3,ac,ad]
   refine⟨λ q=>dq hbd rfl (h 60 (-1) (eN (by decide) λ kk=>by rw[(kk.1.loops l hcm).over]at q;exact Bool.noConfusion q)),λ q=> ?_⟩
   exact Wk.keep [1,2,6,12] [0,1] (by decide) (aE _) hbd ⟨x.loops.length - (k+1),by omega,k+1,by omega,rfl,fm vg hkl hall (by rw[hcc];exact⟨hhr.1,hhr.2,hbod,hv,by simpa using q⟩),by simp only[go_sem],by simp only[go_sem]⟩
 ·have hd2:decide ((k:Int)<(x.loops.length:Int))=false:=by simp only[ay];omega
  simp only[go_sem,hd2,ac,ad]
  obtain rfl:k=x.loops.length:=by omega
  rw[bB]at hall
  exact dq hbd rfl (h 0 (-1) ⟨λ _=>⟨⟨hlab,hpt.1,hpt.2.1,hpt.2.2,hmods,hass,hstp,hall⟩,hne⟩,λ _=>rfl⟩)
structure NamesSz (p:Prg):Prop where
 cells:∀c∈p.cells,c.name.length≤reachBytes
 modules:∀m∈p.modules,m.name.length≤reachBytes∧m.owner.length≤reachBytes
 threads:∀x∈p.threads,x.name.length≤reachBytes
theorem ok_iff{p:Prg}:p.Ok↔lL p∧xU p∧sW p∧∀t,t<p.threads.length→xT p t:=by
 constructor
 ·intro h
  refine⟨⟨h.cells,h.cnames⟩,⟨h.modules,h.mnames⟩,⟨h.locks,h.lcells⟩,λ t ht=>⟨wV h ht,λ k hk e=> ?_⟩⟩
  exact ou (f:=Thr.name) fg hk ht e h.tnames
 ·rintro⟨h1,h2,h3,h4⟩
  refine⟨h1.1,h1.2,h2.1,h2.2,h3.1,h3.2,λ t x hx=> ?_,?_⟩
  ·have ht:=(aA.1 hx).1
   have:=(h4 t ht).1
   rwa [show p.thr t=x from jA hx]at this
  ·have key:∀j,j≤p.threads.length→((p.threads.take j).map Thr.name).Nodup:=by
    intro j
    induction j with
    |zero=>intro _;simp
    |succ j ih=>intro hj;exact kX fg (by omega) (ih (by omega)) (h4 j (by omega)).2
   have:=key p.threads.length (aE _)
   rwa [bB]at this
theorem wU(p:Prg)(hs:p.Small)(hz:NamesSz p)(Z:St)(G:Glob)(R:A→St→Prop)(h:∀c i j:Int,(c=0↔p.Ok)→R (.tup [di c,di i,di j]) Z):AC Tryz.prog G 30 [.d (bK p)] Z R:=by
 have hnt:=hs.nthr
 rw[ok_iff]at h
 have n0:((0:Int)!=0)=false:=rfl
 have lim:=limits_r p hs
 have cel:=cells_r p hs hz.cells
 have mods:=λ hc=>Dg p hs hz.modules hc
 have lck:=λ hc=>locks_r p hs hc
 have thr:=λ hc=>thread_r p hs hc hz.threads
 unfold bK at*
 refine bD [4,16] a9 Tryz.func30 rfl Tryz.ntmps30 (by simp only[go_sem]) λ hbd=> ?_
 simp only[ae,aj,Nat.reduceAdd,Nat.reduceSub,af,ag,ah,ak]
 try simp only[go_sem]
 refine bH (lim _ _ _ ?_)
 try simp only[go_sem]
 refine bc (λ fr st=>fr=%[.o,.ref Z.length 0|D6 (D5 (D4 []))]∧st=Z++[bN p]) ?_ ?_
 ·simp only[go_sem,n0]
  exact Wk.mask [1] ⟨rfl,rfl⟩
 rintro fr st ⟨rfl,rfl⟩
 refine bc (λ fr st=>(lL p∧xU p∧sW p)∧fr=%[.o,.ref Z.length 0|D6 (D5 (D4 []))]∧st=Z++[bN p]) ?_ ?_
 ·try simp only[go_sem]
  refine aS (λ m fr st=>∃k:Nat,k≤3∧m=3 - k∧(1≤k→lL p)∧(2≤k→xU p)∧(3≤k→sW p)∧fr=%[.o,.ref Z.length 0,.o,.o,.o,.o,.o,dn k|D6 (D5 [.o,.o])]∧st=Z++[bN p]) 3 _ (Wk.mask [1,7] ⟨0,by omega,by omega,λ q=>absurd q (by decide),λ q=>absurd q (by decide),λ q=>absurd q (by decide),rfl,rfl⟩) ?_
  rintro m fr st ⟨k,hk,hm,h1,h2,h3,rfl,rfl⟩
  have w3:=bC k (by omega)
  have hk4:k=0∨k=1∨k=2∨k=3:=by omega
  rcases hk4 with rfl|rfl|rfl|rfl
  ·have e0:(((0:Nat):Int)==0)=true:=rfl
   have d0:decide (((0:Nat):Int)<3)=true:=rfl
   simp only[go_sem,e0,d0,w3]
   refine bH (cel _ _ _ λ c hcs=> ?_)
   simp only[go_sem,w3]
   refine⟨λ q=>dq hbd rfl (h c (-1) (-1) ⟨λ q0=> ?_,λ kk=>hcs.2 kk.1⟩),λ q=>Wk.mask [1,7] ⟨3 - 1,by omega,1,by omega,rfl,λ _=>hcs.1 (by simpa using q),λ q=>absurd q (by decide),λ q=>absurd q (by decide),rfl,rfl⟩⟩
   rw[q0]at q;exact absurd q (by decide)
  ·have e0:(((1:Nat):Int)==0)=false:=rfl
   have e1:(((1:Nat):Int)==1)=true:=rfl
   have d0:decide (((1:Nat):Int)<3)=true:=rfl
   simp only[go_sem,e0,e1,d0,w3]
   refine bH (mods (h1 (by decide)) _ _ _ λ c hcs=> ?_)
   simp only[go_sem,w3]
   refine⟨λ q=>dq hbd rfl (h c (-1) (-1) ⟨λ q0=> ?_,λ kk=>hcs.2 kk.2.1⟩),λ q=>Wk.mask [1,7] ⟨3 - 2,by omega,2,by omega,rfl,λ _=>h1 (by decide),λ _=>hcs.1 (by simpa using q),λ q=>absurd q (by decide),rfl,rfl⟩⟩
   rw[q0]at q;exact absurd q (by decide)
  ·have e0:(((2:Nat):Int)==0)=false:=rfl
   have e1:(((2:Nat):Int)==1)=false:=rfl
   have e2:(((2:Nat):Int)==2)=true:=rfl
   have d0:decide (((2:Nat):Int)<3)=true:=rfl
   simp only[go_sem,e0,e1,e2,d0,w3]
   refine bH (lck (h1 (by decide)) _ _ _ λ c hcs=> ?_)
   simp only[go_sem,w3]
   refine⟨λ q=>dq hbd rfl (h c (-1) (-1) ⟨λ q0=> ?_,λ kk=>hcs.2 kk.2.2.1⟩),λ q=>Wk.mask [1,7] ⟨3 - 3,by omega,3,by omega,rfl,λ _=>h1 (by decide),λ _=>h2 (by decide),λ _=>hcs.1 (by simpa using q),rfl,rfl⟩⟩
   rw[q0]at q;exact absurd q (by decide)
  ·have d0:decide (((3:Nat):Int)<3)=false:=rfl
   simp only[go_sem,d0]
   exact Wk.mask [1] ⟨⟨h1 (by decide),h2 (by decide),h3 (by decide)⟩,rfl,rfl⟩
 rintro fr st ⟨⟨hc,hm,hl⟩,rfl,rfl⟩
 simp only[go_sem,ac]
 refine aS (λ m fr st=>∃k:Nat,k≤p.threads.length∧m=p.threads.length - k∧(∀t,t<k→xT p t)∧fr=%[.o,.ref Z.length 0,.o,.o,.o,.o,.o,.o,dn k|D6 (D5 [.o])]∧st=Z++[bN p]) p.threads.length _ (Wk.mask [1,8] ⟨0,by omega,by omega,λ t ht=>absurd ht (by omega),rfl,rfl⟩) ?_
 rintro m fr st ⟨k,hk,hmm,hall,rfl,rfl⟩
 have w3:=bC k (by omega)
 rcases aC k p.threads.length with hkl|hkg
 ·have hd2:decide ((k:Int)<(p.threads.length:Int))=true:=by simp only[av];omega
  simp only[go_sem,hd2,w3,ac]
  refine bH (thr hc k hkl _ _ _ λ c i hcs=> ?_)
  simp only[go_sem,hd2,w3,ac]
  refine⟨λ q=>dq hbd rfl (h c _ _ ⟨λ q0=> ?_,λ kk=>hcs.2 (kk.2.2.2 k hkl)⟩),λ q=>Wk.mask [1,8] ⟨p.threads.length - (k+1),by omega,k+1,by omega,rfl,λ t ht=> ?_,rfl,rfl⟩⟩
  ·rw[q0]at q;exact absurd q (by decide)
  ·rcases aC t k with h1|h1
   ·exact hall t h1
   ·obtain rfl:t=k:=by omega
    exact hcs.1 (by simpa using q)
 ·have hd2:decide ((k:Int)<(p.threads.length:Int))=false:=by simp only[ay];omega
  simp only[go_sem,hd2,ac]
  obtain rfl:k=p.threads.length:=by omega
  exact dq hbd rfl (h 0 (-1) (-1) ⟨λ _=>⟨hc,hm,hl,hall⟩,λ _=>rfl⟩)
theorem ok_r(p:Prg)(hs:p.Small)(hz:NamesSz p)(Z:St)(G:Glob)(R:A→St→Prop)(h:∀b:Bool,(b=true↔p.Ok)→R (db b) Z):AC Tryz.prog G 8 [.d (bK p)] Z R:=by
 have va:=wU p hs hz
 unfold bK at*
 refine bg a9 Tryz.func8 rfl Tryz.ntmps8 (by simp only[go_sem]) λ hbd=> ?_
 simp only[ae,aj,Nat.reduceAdd,Nat.reduceSub,af,ag,ah,ak]
 try simp only[go_sem]
 refine bH (va _ _ _ λ c i j hcs=> ?_)
 try simp only[go_sem]
 exact aQ hbd (h _ (by rw[cg];exact hcs))
theorem formed_r(p:Prg)(hs:p.Small)(hz:NamesSz p)(hp:p.Ok)(Z:St)(G:Glob)(R:A→St→Prop)(h:R (db true) Z):AC Tryz.prog G 68 [.d (bK p)] Z R:=by
 have va:=wU p hs hz
 unfold bK at*
 refine bg a9 Tryz.func68 rfl Tryz.ntmps68 (by simp only[go_sem]) λ hbd=> ?_
 simp only[ae,aj,Nat.reduceAdd,Nat.reduceSub,af,ag,ah,ak]
 try simp only[go_sem]
 refine bH (va _ _ _ λ c i j hcs=> ?_)
 obtain rfl:c=0:=hcs.2 hp
 try simp only[go_sem]
 exact aQ hbd h
end
end Go.Proofs.YtdpdbokicanpoaaGreatDoor
