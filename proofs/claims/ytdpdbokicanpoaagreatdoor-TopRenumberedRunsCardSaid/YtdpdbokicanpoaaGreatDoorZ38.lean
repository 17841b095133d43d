import Derived.Test.YtdpdbokicanpoaaGreatDoorZ37
set_option linter.unusedSimpArgs false
set_option linter.unusedVariables false
set_option maxHeartbeats 64000000
set_option maxRecDepth 100000
namespace Go.Proofs.YtdpdbokicanpoaaGreatDoor
section
open Go Go.Ab
structure SrA (p:Prg) (m:Int) (n bp sid y:Nat) (V:List Vis) (ia:Nat) (st:St):Prop where
 o0:st[n]? =some (some (.cells [.fn (.yield y) [] []]))
 o1:st[n+1]? =some (some (.map (u2 (qh V))))
 o2:st[n+2]? =some (some (.cells [.mapr (n+1)]))
 ob:st[bp]? =some (some (.cells [.ref sid 0]))
 os:st[sid]? =some (tu p m (.rs ia 7 0 V.length (some 126)))
 oa:st[ia]? =some (lO V)
def Off(n bp sid ia:Nat)(D:Nat→Prop):Prop:=¬D n∧¬D (n+1)∧¬D (n+2)∧¬D bp∧¬D sid∧¬D ia
theorem SrA.keep{p:Prg}{m:Int}{n bp sid y:Nat}{V:List Vis}{ia:Nat}{st st':St}{D:Nat→Prop}(h:SrA p m n bp sid y V ia st)(ho:Off n bp sid ia D)(hk:∀k,k<st.length→¬D k→st'[k]? =st[k]?):SrA p m n bp sid y V ia st':=by
 obtain⟨h0,h1,h2,h3,h4,h5⟩:=h
 obtain⟨d0,d1,d2,d3,d4,d5⟩:=ho
 have e:∀{k:Nat} {o:Option Ob},st[k]? =some o→¬D k→st'[k]? =some o:=λ h hn=>(hk _ (aL h) hn).trans h
 exact⟨e h0 d0,e h1 d1,e h2 d2,e h3 d3,e h4 d4,e h5 d5⟩
theorem SrA.app{p:Prg}{m:Int}{n bp sid y:Nat}{V:List Vis}{ia:Nat}{st:St}(h:SrA p m n bp sid y V ia st)(l:St):SrA p m n bp sid y V ia (st++l):=
 h.keep (D:=λ _=>False) ⟨id,id,id,id,id,id⟩ λ k hk _=>aq hk
def Ds(n bp sid ia:Nat):Prop:=bp≠sid∧bp≠ia∧sid≠ia∧bp<n∧sid<n∧(ia<n∨n+2<ia)
theorem foundK {G:Glob} (p:Prg) (hp:Good p) (m:Int) (N:Nat) (hN:N≤10000) {n bp sid y:Nat} (K:List Vis→(Nat→Prop)→St→Prop) (E:St→Prop)
  (kD:∀V D st,K V D st→∀k,D k→k<st.length) (kC:∀V D st st',K V D st→(∀k,D k→st'[k]? =st[k]?)→K V D st')
  (hY:∀V v D ia st,(∃S,Steps p m (kP p m) S∧S.V=V++[v])→K V D st→SrA p m n bp sid y (V++[v]) ia st→Off n bp sid ia D→YC Tryz.prog G y [dn V.length] st λ r st'=>∃b:Bool,r=db b∧(b=true→V.length<N∧∃D',K (V++[v]) D' st'∧(∀k,D' k→D k∨st.length≤k)∧(∀k,k<st.length→¬D k→st'[k]? =st[k]?)∧st.length≤st'.length)∧(b=false→E st'))
  (V:List Vis) (v:Vis) (D:Nat→Prop) (ia:Nat) (st:St) (hV:∀u∈V,Fits p m u.cfg) (hVl:V.length≤20000) (hv:Fits p m v.cfg) (hS:v.cfg∉V.map Vis.cfg→∃S,Steps p m (kP p m) S∧S.V=V++[v])
  (hK:K V D st) (hA:SrA p m n bp sid y V ia st) (hO:Off n bp sid ia D) (hd:Ds n bp sid ia) (Q:A→St→Prop)
  (q1:v.cfg∈V.map Vis.cfg→∀l,Q (db true) (st++l))
  (q2:∀D' ia' st',v.cfg∉V.map Vis.cfg→V.length<N→K (V++[v]) D' st'→SrA p m n bp sid y (V++[v]) ia' st'→Off n bp sid ia' D'→Ds n bp sid ia'→(∀k,k<st.length→¬D k→k≠n+1→k≠sid→k≠ia→st'[k]? =st[k]?)→(∀k,D' k→D k∨st.length≤k)→st.length≤st'.length→Q (db true) st')
  (q3:∀st',E st'→Q (db false) st'):AC Tryz.prog G 117 [.d (jv v),.ref (n+2) 0,.ref bp 0,.ref n 0] st Q:=by
 obtain⟨d1,d2,d3,d4,d5,d6⟩:=hd
 obtain⟨o0,o1,o2,o3,o4,o5⟩:=hO
 have hA0:=hA
 obtain⟨h0,h1,h2,h3,h4,h5⟩:=hA0
 have hn2:=aL h2
 refine found_p p hp m V hV hVl v hv st h2 h3 h0 h1 h4 h5 ⟨by omega,by omega,by omega,by omega,by omega,by omega,by omega,by omega,by omega,by omega⟩ Q q1 (λ hin ia' st2 g1 g2 g3 g4 g5 g6=> ?_)
 have hia':=aL g4
 have hK2:K V D st2:=kC V D st st2 hK λ k hk=>g1 k (kD V D st hK k hk) (λ e=>o1 (e▸hk)) (λ e=>o4 (e▸hk)) (λ e=>o5 (e▸hk))
 have hA2:SrA p m n bp sid y (V++[v]) ia' st2:=by
  refine⟨(g1 n (by omega) (by omega) (by omega) (by omega)).trans h0,g2,(g1 (n+2) (by omega) (by omega) (by omega) (by omega)).trans h2,(g1 bp (aL h3) (by omega) (by omega) (by omega)).trans h3,?_,g4⟩
  rw[aF];exact g3
 have hnd:¬D ia':=λ q=>by have:=kD V D st hK ia' q;omega
 refine(hY V v D ia' st2 (hS hin) hK2 hA2 ⟨o0,o1,o2,o3,o4,hnd⟩).mono λ r st' ⟨b,e,ht,hf⟩=>⟨b,e,?_⟩
 cases b with
 |false=>exact q3 _ (hf rfl)
 |true=>
  obtain⟨hlt,D',k1,k2,k3,k4⟩:=ht rfl
  have nd:∀k,k<st2.length→¬D k→¬D' k:=λ k hk hn hq=>by
   rcases k2 k hq with q|q
   ·exact hn q
   ·omega
  have hb3:=aL h3
  have hs4:=aL h4
  refine q2 D' ia' st' hin hlt k1 (hA2.keep ⟨o0,o1,o2,o3,o4,hnd⟩ k3) ⟨nd _ (by omega) o0,nd _ (by omega) o1,nd _ (by omega) o2,nd _ (by omega) o3,nd _ (by omega) o4,nd _ hia' hnd⟩ ⟨d1,by omega,by omega,d4,d5,by omega⟩ (λ k hk hn e1 e2 e3=> ?_) (λ k hk=> ?_) (by omega)
  ·rw[k3 k (by omega) hn];exact g1 k hk e1 e2 e3
  ·rcases k2 k hk with q|q
   ·exact .inl q
   ·exact .inr (by omega)
theorem r8(V:List Vis)(i:Nat)(hi:i<V.length):List.take 3 (List.drop (i*7) (bU (V.map jv)))=[.d (bu (V.getD i e8).cfg.mem),.d (bu (V.getD i e8).cfg.pos),.d (.sl 1 ((V.getD i e8).cfg.buf.map cu))]:=by
 have e1:V=V.take i++([V.getD i e8]++V.drop (i+1)):=by
  rw[←aU,←bG e8 hi,ct]
 have e3:bU (V.map jv)=bU ((V.take i).map jv)++(bU ([V.getD i e8].map jv)++bU ((V.drop (i+1)).map jv)):=by
  rw[←cZ,←cZ,←aJ,←aJ,←e1]
 have l1:(bU ((V.take i).map jv)).length=i*7:=by rw[fD,aP,cC (by omega)]
 rw[e3,Ez l1]
 rfl
def HS(p:Prg)(m:Int)(i:Nat)(V:List Vis):Prop:=(i<V.length∧Steps p m (kP p m) ⟨V,i,fY p m (V.getD i e8).cfg⟩)∨(i=V.length∧∃S,Steps p m (kP p m) S∧eX p m S=none∧S.V=V)
theorem all1_p {G:Glob} (hG:G.g 0=some cB) (hpan:∀a s,¬G.pan a s) (p:Prg) (hp:Good p) (m:Int) (hm:0≤m∧m≤2) (N:Nat) (hN:N≤10000) {bp sid y ia0:Nat} (Z:St) (K:List Vis→(Nat→Prop)→St→Prop) (E:St→Prop)
  (kD:∀V D st,K V D st→∀k,D k→k<st.length) (kC:∀V D st st',K V D st→(∀k,D k→st'[k]? =st[k]?)→K V D st')
  {D0:Nat→Prop} (h0:K [] D0 Z) (hb:Z[bp]? =some (some (.cells [.ref sid 0]))) (hs:Z[sid]? =some (tu p m (.rs ia0 7 0 0 (some 126)))) (ha:Z[ia0]? =some (lO [])) (hD0:¬D0 bp∧¬D0 sid∧¬D0 ia0) (hne:bp≠sid∧bp≠ia0∧sid≠ia0)
  (hY:∀V v D ia st,(∃S,Steps p m (kP p m) S∧S.V=V++[v])→K V D st→SrA p m Z.length bp sid y (V++[v]) ia st→Off Z.length bp sid ia D→YC Tryz.prog G y [dn V.length] st λ r st'=>∃b:Bool,r=db b∧(b=true→V.length<N∧∃D',K (V++[v]) D' st'∧(∀k,D' k→D k∨st.length≤k)∧(∀k,k<st.length→¬D k→st'[k]? =st[k]?)∧st.length≤st'.length)∧(b=false→E st'))
  (R:A→St→Prop) (hR:∀r st V D S,Steps p m (kP p m) S→eX p m S=none→S.V=V→K V D st→R r st) (hE:∀r st l,E st→R r (st++l)):AC Tryz.prog G 116 [.fn (.yield y) [] [],.ref bp 0] Z R:=by
 have st0:=yt hG p hp
 refine bM a9 Tryz.func116 rfl Tryz.ntmps116 (by simp only[go_sem]) λ hbd=> ?_
 simp only[ae,aj,Nat.reduceAdd,Nat.reduceSub,af,ag,ah,ak]
 simp only[go_sem,iY hb,gU hb,iY hs,gU hs]
 refine bH (st0 _ _ ?_)
 have lb:=aL hb
 have ls:=aL hs
 have la:=aL ha
 obtain⟨hD1,hD2,hD3⟩:=hD0
 have hDl:=kD [] D0 Z h0
 obtain⟨Z3,hσ3⟩:∃Z3:St,Z++[some (Ob.cells [A.fn (Fn.yield y) [] []]),some (Ob.map []),some (Ob.cells [A.mapr (Z.length+1)])]=Z3:=⟨_,rfl⟩
 have hat:∀(k:Nat) (l:St) (o:Option Ob),l[k]? =some o→(Z++l)[Z.length+k]? =some o:=λ k l o hk=>by rw[az (by omega),bk];exact hk
 have hol:∀{k:Nat} {o:Option Ob},Z[k]? =some o→Z3[k]? =some o:=λ hk=>by rw[←hσ3,aq (aL hk)];exact hk
 have hfs:=jl hp.ok m
 have fk0:=foundK (G:=G) (n:=Z.length) (bp:=bp) (sid:=sid) (y:=y) p hp m N hN K E kD kC hY [] ⟨bS p,-1,fE⟩ D0 ia0 Z3 (λ u hu=>by cases hu) (by simp) hfs (λ _=>⟨_,.refl,rfl⟩) (kC [] D0 Z Z3 h0 λ k hk=>by rw[←hσ3,aq (hDl k hk)])
  ⟨by rw[←hσ3];exact hat 0 _ _ rfl,by rw[←hσ3];exact hat 1 _ _ rfl,by rw[←hσ3];exact hat 2 _ _ rfl,hol hb,hol hs,hol ha⟩ ⟨λ q=>by have:=hDl _ q;omega,λ q=>by have:=hDl _ q;omega,λ q=>by have:=hDl _ q;omega,hD1,hD2,hD3⟩ ⟨hne.1,hne.2.1,hne.2.2,lb,ls,.inl la⟩
 unfold jv at fk0
 have hk1:=hol hb
 have hk2:=hol hs
 rw[hσ3]
 simp only[bX,go_sem,aO hk1,aX hk1,aO hk2,aX hk2]
 refine bH (fk0 _ (λ q=>by cases q) (λ D' ia' st1 _ hlt hK1 hA1 hO1 hd1 hk hDk hle=> ?_) (λ st' he=> ?_))
 ·try simp only[go_sem]
  refine aS (λ k fr st=>∃(i:Nat) (V:List Vis) (D:Nat→Prop) (ia:Nat),k=N+1 - i∧V.length≤N∧fr=%[.o,.ref bp 0,.o,.o,.fn (.func 117) [] [.ref (Z.length+2) 0,.ref bp 0,.ref Z.length 0],dn i|D7 (D4 [.o,.o])]∧K V D st∧SrA p m Z.length bp sid y V ia st∧Off Z.length bp sid ia D∧Ds Z.length bp sid ia∧HS p m i V∧Z.length+2<st.length) (N+1) _ (Wk.mask [1,4,5] ⟨0,[⟨bS p,-1,fE⟩],D',ia',by omega,by show 1≤N;have:0<N:=hlt;omega,rfl,hK1,hA1,hO1,hd1,.inl ⟨by simp,.refl⟩,aL hA1.o2⟩) ?_
  rintro k fr st ⟨i,V,D,ia,hk,hVN,rfl,hK,hA,hO,hd,hHS,hsl⟩
  have hA0:=hA
  obtain⟨a0,a1,a2,a3,a4,a5⟩:=hA0
  rcases hHS with⟨hi,hst⟩|⟨hi,S,hS1,hS2,hS3⟩
  ·have hd':decide ((i:Int)<(V.length:Int))=true:=by simp;omega
   have w2:=bC i (by omega)
   have hinv:=fx hp.ok hst
   have hfit:=hinv.fits
   have hvm:=bv e8 hi
   have hat7:=r8 V i hi
   have hfl:=fD V
   have hCf:=hfit _ hvm
   obtain⟨C,hC⟩:∃C,(V.getD i e8).cfg=C:=⟨_,rfl⟩
   rw[hC]at hat7 hCf hst
   have en:=Gh hG hpan p hp m hm C hCf
   obtain⟨xs,hxs⟩:∃xs,fY p m C=xs:=⟨_,rfl⟩
   have hxl:xs.length≤39:=by rw[←hxs];exact qy hp hCf
   rw[hxs]at en hst
   have app:∀{k:Nat} {o:Option Ob},st[k]? =some o→(st++[dy C])[k]? =some o:=λ hk=>by rw[aq (aL hk)];exact hk
   have b3:=app a3
   have b4:=app a4
   have hbq:(st++[dy C])[st.length]? =some (dy C):=by simp
   unfold lO at a5
   simp only[go_sem,aO a3,aX a3,aO a4,aX a4,aO a5,aX a5,hd',hat7,fC,ac,ad]
   refine⟨⟨by omega,by omega⟩,by omega,?_⟩
   refine bb (.tk 9 0<| .take 11<| .tk 2 9<| .done) (by kernel_rfl) ?_
   simp only[go_sem,aO b3,aX b3,aO b4,aX b4,aO hbq,aX hbq,fC]
   unfold bK bX at en
   refine bH (en _ _ ?_)
   simp only[go_sem,ac]
   have hAq:=hA.app [dy C]
   refine aS (λ k fr st'=>∃(j:Nat) (V':List Vis) (D':Nat→Prop) (ia':Nat),k=xs.length - j∧j≤xs.length∧V'.length≤N∧i<V'.length∧(V'.getD i e8).cfg=C∧Steps p m (kP p m) ⟨V',i,xs.drop j⟩∧fr=%[.o,.ref bp 0,.o,.o,.fn (.func 117) [] [.ref (Z.length+2) 0,.ref bp 0,.ref Z.length 0],dn i,.ref st.length 0|D6 (D4 %[.o,.d (.sl 3 (xs.map c7)),dn xs.length,dn j|D5 (D4 [.o,.o,.o,.o,.o])])]∧K V' D' st'∧SrA p m Z.length bp sid y V' ia' st'∧Off Z.length bp sid ia' D'∧Ds Z.length bp sid ia'∧st'[st.length]? =some (dy C)∧¬D' st.length∧ia'≠st.length) xs.length _ (Wk.mask [1,4,5,6,48,49,50] ⟨0,V,D,ia,by omega,by omega,hVN,hi,hC,by simpa using hst,rfl,kC V D st _ hK (λ k hk=>aq (kD V D st hK k hk)),hAq,hO,hd,hbq,λ q=>by have:=kD V D st hK _ q;omega,by have:=aL hA.oa;omega⟩) ?_
   rintro k2 fr st' ⟨j,V',D',ia',hk2,hj,hVN',hi',hC',hst',rfl,hK',hA',hO',hd2,hq',hDq,hiq⟩
   have hA0':=hA'
   obtain⟨c0,c1,c2,c3,c4,c5⟩:=hA0'
   have hql:=aL hq'
   rcases aC j xs.length with hlt|hge
   ·have hd3:decide ((j:Int)<(xs.length:Int))=true:=by simp;omega
    have w3:=bC j (by omega)
    have e2:=uF (l:=xs) hlt
    have hxm:xs.getD j fE∈fY p m C:=by rw[hxs];exact bv fE hlt
    have hdrop:xs.drop j=xs.getD j fE::xs.drop (j+1):=by
     rw[List.drop_eq_getElem_cons hlt,au,ap hlt];rfl
    generalize xs.getD j fE=x at e2 hxm hdrop
    simp only[c7]at e2
    have nx:=nextU hG hpan p hp m hm C hCf x hxm
    have hfn:=rp hp.ok hCf hxm
    obtain⟨C1,hC1⟩:∃C1,fV p m C x=C1:=⟨_,rfl⟩
    rw[hC1]at nx hfn
    have hinv':=fx hp.ok hst'
    have hfit':=hinv'.fits
    have hbs:eX p m ⟨V',i,xs.drop j⟩=some (if C1∈V'.map Vis.cfg then⟨V',i,xs.drop (j+1)⟩else⟨V'++[⟨C1,i,x⟩],i,xs.drop (j+1)⟩):=by
     rw[hdrop];simp only[eX];rw[hC',hC1]
    obtain⟨s2,hs2⟩:∃s2,st'++[iO x,dy C1]=s2:=⟨_,rfl⟩
    have app1:∀{k:Nat} {o:Option Ob},st'[k]? =some o→(st'++[iO x])[k]? =some o:=λ hk=>by rw[aq (aL hk)];exact hk
    have app2:∀{k:Nat} {o:Option Ob},st'[k]? =some o→s2[k]? =some o:=λ hk=>by rw[←hs2,aq (aL hk)];exact hk
    have l3:=app1 c3
    have l4:=app1 c4
    have lq:=app1 hq'
    have m8:s2[st'.length]? =some (iO x):=by rw[←hs2];simp
    have m9:s2[st'.length+1]? =some (dy C1):=by rw[←hs2];simp
    have z0:((0:Int)==0)=true:=rfl
    have hA2:SrA p m Z.length bp sid y V' ia' s2:=by rw[←hs2];exact hA'.app _
    have hK2:K V' D' s2:=kC V' D' st' _ hK' λ k hk=>by rw[←hs2];exact aq (kD V' D' st' hK' k hk)
    have fk:=foundK (G:=G) p hp m N hN K E kD kC hY V' ⟨C1,i,x⟩ D' ia' s2 hfit' (by omega) hfn (λ hin=>⟨_,hst'.tail hbs,by rw[if_neg hin]⟩) hK2 hA2 hO' hd2
    unfold jv at fk
    unfold bK bX c7 at nx
    simp only[go_sem,hd3,e2,ac,ad]
    refine⟨⟨by omega,by omega⟩,?_⟩
    refine bb (.tk 10 0<| .alt 10 (.tk 6 11<| .done)<| .alt 14 (.tk 4 10<| .tk 2 15<| .done)<| .stop) (by kernel_rfl) ?_
    simp only[go_sem,aO l3,aX l3,aO l4,aX l4,aO lq,aX lq,fC]
    refine⟨bH (nx _ _ ?_),bH (nx _ _ ?_)⟩
    all_goals
     simp only[go_sem,z0,hs2,aO m8,aX m8,aO m9,aX m9,fC]
    all_goals
     refine exs ⟨λ _=> ?_,λ q=>Bool.noConfusion q⟩
     try simp only[go_sem]
     refine bH (fk _ (λ hin l=> ?_) (λ D2 ia2 st3 hin hlt3 hK3 hA3 hO3 hd3' hk3 hDk3 hle3=> ?_) (λ st3 he=> ?_))
     ·simp only[go_sem,w3]
      rw[if_pos hin]at hbs
      have e4:∀k,k<s2.length→(s2++l)[k]? =s2[k]? :=λ k hk=>aq hk
      refine Wk.mask [1,4,5,6,48,49,50] ⟨xs.length - (j+1),by omega,j+1,V',D',ia',rfl,by omega,hVN',hi',hC',hst'.tail hbs,rfl,kC V' D' s2 _ hK2 (λ k hk=>e4 k (kD V' D' s2 hK2 k hk)),hA2.app l,hO',hd2,?_,hDq,hiq⟩
      rw[e4 _ (aL (app2 hq'))];exact app2 hq'
     ·simp only[go_sem,w3]
      rw[if_neg hin]at hbs
      have hs2l:s2.length=st'.length+2:=by rw[←hs2];simp
      refine Wk.mask [1,4,5,6,48,49,50] ⟨xs.length - (j+1),by omega,j+1,V'++[⟨C1,i,x⟩],D2,ia2,rfl,by omega,by rw[aF];show V'.length+1≤N;omega,by rw[aF];omega,by rw[kl hi'];exact hC',hst'.tail hbs,rfl,hK3,hA3,hO3,hd3',?_,λ q=> ?_,?_⟩
      ·rw[hk3 st.length (by omega) hDq (by omega) (by have:=hd2.2.2.2.2.1;omega) (Ne.symm hiq)];exact app2 hq'
      ·rcases hDk3 _ q with q|q
       ·exact hDq q
       ·omega
      ·intro e
       have r1:=hA3.oa
       have r2:=(hk3 st.length (by omega) hDq (by omega) (by have:=hd2.2.2.2.2.1;omega) (Ne.symm hiq)).trans (app2 hq')
       rw[e,r2]at r1
       have r3:([.d (bu C.mem),.d (bu C.pos),.d (.sl 1 (C.buf.map cu))]:List A)=bU ((V'++[(⟨C1,i,x⟩:Vis)]).map jv):=by
        injection r1 with r1;injection r1 with r1;injection r1
       have r4:=congrArg List.length r3
       rw[fD]at r4
       simp at r4
       omega
     ·try simp only[go_sem]
      have:=hE (.tup []) st3 [] he
      rw[bt]at this
      exact⟨_,_,bw.refl _ _ _ _,this⟩
   ·have hd3:decide ((j:Int)<(xs.length:Int))=false:=by simp;omega
    rw[d7 hge]at hst'
    simp only[go_sem,hd3,w2]
    refine Wk.mask [1,4,5] ⟨k - 1,by omega,i+1,V',D',ia',by omega,hVN',rfl,hK',hA',hO',hd2,?_,by omega⟩
    rcases aC (i+1) V'.length with hl|hl
    ·exact .inl ⟨hl,hst'.tail (by simp only[eX];rw[if_pos hl])⟩
    ·exact .inr ⟨by omega,_,hst',by simp only[eX];rw[if_neg (by omega)],rfl⟩
  ·have hd':decide ((i:Int)<(V.length:Int))=false:=by simp;omega
   simp only[go_sem,aO a3,aX a3,aO a4,aX a4,aO a5,hd']
   exact⟨_,_,bw.refl _ _ _ _,hR _ _ V D S hS1 hS2 hS3 hK⟩
 ·try simp only[go_sem]
  have:=hE (.tup []) st' [] he
  rw[bt]at this
  exact⟨_,_,bw.refl _ _ _ _,this⟩
theorem all_p(sid:Nat)(Z:St)(hl:dr Z sid=true)(G:Glob)(R:A→St→Prop)(h:R (.fn (.func 116) [] [.ref Z.length 0]) (Z++[some (.cells [.ref sid 0])])):AC Tryz.prog G 79 [.ref sid 0] Z R:=by
 refine bg a9 Tryz.func79 rfl Tryz.ntmps79 (by simp only[go_sem]) λ hbd=> ?_
 simp only[ae,aj,Nat.reduceAdd,Nat.reduceSub,af,ag,ah,ak]
 simp only[go_sem,hl]
 exact⟨_,_,bw.refl _ _ _ _,h⟩
structure FiK (n sid lim g:Nat) (cap:List A) (lp:Ob) (J:List Cfg→(Nat→Prop)→St→Prop) (acc:Cfg→Bool) (V:List Vis) (D:Nat→Prop) (st:St):Prop where
 no:∀u∈V,acc u.cfg=false
 le:V.length≤lim
 j:∃DJ,J (V.map Vis.cfg) DJ st∧(∀k,D k↔DJ k∨k=n∨k=n+1∨k=n+2∨k=n+3∨k=n+4∨k=n+6)∧∀k,n≤k→k≤n+6→¬DJ k
 o0:st[n]? =some (some (.cells [.ref sid 0]))
 o1:st[n+1]? =some (some (.cells [dn lim]))
 o2:st[n+2]? =some (some (.cells [.fn (.func g) [] cap]))
 o3:st[n+3]? =some (some (.cells [di 0]))
 o4:st[n+4]? =some (some (.cells [di 0]))
 o6:st[n+6]? =some (some lp)
theorem Cn {G:Glob} (hG:G.g 0=some cB) (hpan:∀a s,¬G.pan a s) (p:Prg) (hp:Good p) (m:Int) (hm:0≤m∧m≤2) (lim:Nat) (hlim:1≤lim∧lim≤10000) {sid ia0 g:Nat} {cap:List A} (acc:Cfg→Bool) (Z:St) (hcap:jo Z.length cap=true)
  (J:List Cfg→(Nat→Prop)→St→Prop) (jD:∀L D st,J L D st→∀k,D k→k<st.length) (jC:∀L D st st',J L D st→(∀k,D k→st'[k]? =st[k]?)→J L D st')
  (hAcc:∀L D st c,L.length<lim→J L D st→Fits p m c→AC Tryz.prog G g (.d (bX c)::cap) st λ r st'=>r=db (acc c)∧∃D',J (L++[c]) D' st'∧(∀k,D' k→D k∨st.length≤k)∧(∀k,k<st.length→¬D k→st'[k]? =st[k]?)∧st.length≤st'.length)
  {DJ0:Nat→Prop} (h0:J [] DJ0 Z) (hs:Z[sid]? =some (tu p m (.rs ia0 7 0 0 (some 126)))) (ha:Z[ia0]? =some (lO [])) (hD:¬DJ0 sid∧¬DJ0 ia0) (hne:sid≠ia0) (R:A→St→Prop)
  (hR1:∀st S L D,Steps p m (kP p m) S→S.V.length=lim+1→(∀u∈S.V.take lim,acc u.cfg=false)→J L D st→R (.tup [di 0,di 2]) st)
  (hR2:∀st V v D ia S,Steps p m (kP p m) S→S.V=V++[v]→V.length<lim→acc v.cfg=true→(∀u∈V,acc u.cfg=false)→st[sid]? =some (tu p m (.rs ia 7 0 (V.length+1) (some 126)))→st[ia]? =some (lO (V++[v]))→J ((V++[v]).map Vis.cfg) D st→¬D ia→R (.tup [dn V.length,di 0]) st)
  (hR3:∀st S D,Steps p m (kP p m) S→eX p m S=none→S.V.length≤lim→(∀u∈S.V,acc u.cfg=false)→J (S.V.map Vis.cfg) D st→R (.tup [di 0,di 4]) st):AC Tryz.prog G 38 [.ref sid 0,dn lim,.fn (.func g) [] cap] Z R:=by
 have al:=all_p sid
 have lsd:=aL hs
 have lia:=aL ha
 have hJl:=jD [] DJ0 Z h0
 refine bD [7] a9 Tryz.func38 rfl Tryz.ntmps38 (by simp only[go_sem]) λ hbd=> ?_
 simp only[ae,aj,Nat.reduceAdd,Nat.reduceSub,af,ag,ah,ak]
 simp only[go_sem,aO hs,gW (show Z.length≤Z.length+2 by omega) _ hcap]
 refine bc (λ fr st=>fr=%[.o,.o,.o,.o,.o,.o,.ref (Z.length+3) 0,.ref (Z.length+4) 0|D5 [.o,.o]]∧st[Z.length+3]? =some (some (.cells [di 0]))∧st[Z.length+4]? =some (some (.cells [di 0]))∧∃S D,Steps p m (kP p m) S∧eX p m S=none∧S.V.length≤lim∧(∀u∈S.V,acc u.cfg=false)∧(∀st',(∀k,k≠Z.length+3→k≠Z.length+4→st'[k]? =st[k]?)→J (S.V.map Vis.cfg) D st')) ?_ ?_
 ·try simp only[go_sem]
  refine bH (al _ (iY hs) _ _ ?_)
  try simp only[go_sem]
  obtain⟨fr0,hfr0⟩:∃fr0:Fr,fr0=%[.o,.o,.o,.ref Z.length 0,.ref (Z.length+1) 0,.ref (Z.length+2) 0,.ref (Z.length+3) 0,.ref (Z.length+4) 0,.o,.o,.fn (.func 116) [] [.ref (Z.length+5) 0]|D4 [.o,.o,.o,.o,.o,.o,.o]]:=⟨_,rfl⟩
  refine qB hpan ⟨fr0,_,by rw[hfr0];exact bw.mask [3,4,5,6,7,10],by rw[hfr0];simp [jo,A.bd],116,[],[.ref (Z.length+5) 0],by rw[hfr0];rfl,λ q r hYc=> ?_⟩
  simp only[aF,ae,aj,Nat.reduceAdd,aU,ah,ak]at hYc ⊢
  obtain⟨Z7,hσ7⟩:∃Z7:St,Z++[some (Ob.cells [A.ref sid 0]),some (Ob.cells [A.d (D.int IntKind.i64 (lim:Int))]),some (Ob.cells [A.fn (Fn.func g) [] cap]),some (Ob.cells [A.d (D.int IntKind.i64 0)]),some (Ob.cells [A.d (D.int IntKind.i64 0)]),some (Ob.cells [A.ref sid 0]),some (Ob.lp q r fr0)]=Z7:=⟨_,rfl⟩
  have l7:Z7.length=Z.length+7:=by rw[←hσ7];simp
  have hat:∀(k:Nat) (l:St) (o:Option Ob),l[k]? =some o→(Z++l)[Z.length+k]? =some o:=λ k l o hk=>by rw[az (by omega),bk];exact hk
  have hol:∀{k:Nat} {o:Option Ob},Z[k]? =some o→Z7[k]? =some o:=λ hk=>by rw[←hσ7,aq (aL hk)];exact hk
  have hsg:∀k,k<Z.length→Z7[k]? =Z[k]? :=λ k hk=>by rw[←hσ7];exact aq hk
  have e5:Z7[Z.length+5]? =some (some (.cells [.ref sid 0])):=by rw[←hσ7];exact hat 5 _ _ rfl
  rw[hσ7]
  refine all1_p hG hpan p hp m hm lim hlim.2 (bp:=Z.length+5) (sid:=sid) (ia0:=ia0) Z7 (FiK Z.length sid lim g cap (.lp q r fr0) J acc) (λ st=>st[Z.length+6]? =some (some (.lp q { r with state:= .done,pending:=some .ret} fr0))∧∃a b:Int,st[Z.length+3]? =some (some (.cells [di a]))∧st[Z.length+4]? =some (some (.cells [di b]))∧∀st',(∀k,k<st.length→k≠Z.length+6→st'[k]? =st[k]?)→R (.tup [di a,di b]) st') (λ V D st hK k hk=> ?_) (λ V D st st' hK hk=> ?_) (D0:=λ k=>DJ0 k∨k=Z.length∨k=Z.length+1∨k=Z.length+2∨k=Z.length+3∨k=Z.length+4∨k=Z.length+6) ⟨λ u hu=>(by cases hu),Nat.zero_le _,⟨DJ0,jC [] DJ0 Z Z7 h0 λ k hk=>hsg k (hJl k hk),λ k=>Iff.rfl,λ k h1 h2 hq=>(by have:=hJl k hq;omega)⟩,by rw[←hσ7];exact hat 0 _ _ rfl,by rw[←hσ7];exact hat 1 _ _ rfl,by rw[←hσ7];exact hat 2 _ _ rfl,by rw[←hσ7];exact hat 3 _ _ rfl,by rw[←hσ7];exact hat 4 _ _ rfl,by rw[←hσ7];exact hat 6 _ _ rfl⟩ e5 (hol hs) (hol ha) ⟨λ h=> ?_,λ h=> ?_,λ h=> ?_⟩ ⟨by omega,by omega,hne⟩ (λ V v D ia st hS hK hA hO=> ?_) _ (λ r' st V D S hS hb hV hK=> ?_) (λ r' st l hE=> ?_)
  ·obtain⟨DJ,j1,j2,j3⟩:=hK.j
   rcases(j2 k).1 hk with q|q|q|q|q|q|q
   ·exact jD _ _ _ j1 k q
   all_goals (subst q;first|exact aL hK.o0|exact aL hK.o1|exact aL hK.o2|exact aL hK.o3|exact aL hK.o4|exact aL hK.o6)
  ·obtain⟨n0,nle,⟨DJ,j1,j2,j3⟩,k0,k1,k2,k3,k4,k6⟩:=hK
   have e:∀{k:Nat} {o:Option Ob},st[k]? =some o→D k→st'[k]? =some o:=λ h hd=>(hk _ hd).trans h
   exact⟨n0,nle,⟨DJ,jC _ _ _ _ j1 λ k hq=>hk k ((j2 k).2 (.inl hq)),j2,j3⟩,e k0 ((j2 _).2 (by simp)),e k1 ((j2 _).2 (by simp)),e k2 ((j2 _).2 (by simp)),e k3 ((j2 _).2 (by simp)),e k4 ((j2 _).2 (by simp)),e k6 ((j2 _).2 (by simp))⟩
  ·rcases h with q|q
   ·have:=hJl _ q;omega
   ·omega
  ·rcases h with q|q
   ·exact hD.1 q
   ·omega
  ·rcases h with q|q
   ·exact hD.2 q
   ·omega
  ·obtain⟨n0,nle,⟨DJ,j1,j2,j3⟩,k0,k1,k2,k3,k4,k6⟩:=hK
   obtain⟨a0,a1,a2,ab,ax,aa⟩:=hA
   obtain⟨o0,o1,o2,o3,o4,o5⟩:=hO
   refine hYc _ _ _ ⟨k6,rfl,?_⟩
   have hset:oK fr0 [11] [dn V.length]=%[.o,.o,.o,.ref Z.length 0,.ref (Z.length+1) 0,.ref (Z.length+2) 0,.ref (Z.length+3) 0,.ref (Z.length+4) 0,.o,.o,.fn (.func 116) [] [.ref (Z.length+5) 0],dn V.length|D4 [.o,.o,.o,.o,.o,.o]]:=by rw[hfr0];rfl
   rw[hset]
   simp only[go_sem]
   refine⟨k6,?_⟩
   obtain⟨s2,hs2⟩:∃s2,st.set (Z.length+6) (some (.lp q { r with state:= .busy} fr0))=s2:=⟨_,rfl⟩
   have l6:=aL k6
   have g2:∀k,k≠Z.length+6→s2[k]? =st[k]? :=λ k hn=>by rw[←hs2,aD (Ne.symm hn)]
   have b6:s2[Z.length+6]? =some (some (.lp q { r with state:= .busy} fr0)):=by rw[←hs2];exact aT l6
   have l2:s2.length=st.length:=by rw[←hs2,aH]
   have b0:s2[Z.length]? =_:=(g2 _ (by omega)).trans k0
   have b1:s2[Z.length+1]? =_:=(g2 _ (by omega)).trans k1
   have b2:s2[Z.length+2]? =_:=(g2 _ (by omega)).trans k2
   have b3:s2[Z.length+3]? =_:=(g2 _ (by omega)).trans k3
   have b4:s2[Z.length+4]? =_:=(g2 _ (by omega)).trans k4
   rw[hs2]
   obtain⟨S,hS1,hS2⟩:=hS
   simp only[go_sem,aO b1,aX b1]
   refine⟨λ hq=> ?_,λ hq=> ?_⟩
   ·have hVl:V.length=lim:=by
     have:(V.length:Int)=(lim:Int):=by simpa using hq
     omega
    obtain⟨s3,hs3⟩:∃s3,s2.set (Z.length+3) (some (.cells [di 0]))=s3:=⟨_,rfl⟩
    have c4:s3[Z.length+4]? =some (some (.cells [di 0])):=by rw[←hs3,aD (by omega)];exact b4
    have c6:s3[Z.length+6]? =some (some (.lp q { r with state:= .busy} fr0)):=by rw[←hs3,aD (by omega)];exact b6
    have c3:s3[Z.length+3]? =some (some (.cells [di 0])):=by rw[←hs3];exact aT (aL b3)
    simp only[go_sem,aO b3,aX b3,hs3,aO c4,aX c4]
    have l34:=aL c4
    have l36:=aL c6
    refine⟨_,bw.refl _ _ _ _,by rw[aD (by omega)];exact c6,false,rfl,λ h=>Bool.noConfusion h,λ _=>⟨aT (by rw[aH];omega),0,2,by rw[aD (by omega),aD (by omega)];exact c3,by rw[aD (by omega),aT (by omega)],λ st' hk=>hR1 st' S (V.map Vis.cfg) DJ hS1 (by rw[hS2,aF,hVl];rfl) (λ u hu=>n0 u ?_) (jC _ _ _ _ j1 λ k hq=> ?_)⟩⟩
    ·rw[hS2,←hVl,List.take_left' rfl]at hu
     exact hu
    ·have hkl:=jD _ _ _ j1 k hq
     have hkr:¬(Z.length≤k∧k≤Z.length+6):=λ z=>j3 k z.1 z.2 hq
     have hl3:s3.length=s2.length:=by rw[←hs3,aH]
     rw[hk k (by rw[aH,aH];omega) (by omega),aD (by omega),aD (by omega),←hs3,aD (by omega),g2 k (by omega)]
   ·have hne:V.length≠lim:=λ e=>by rw[e]at hq;simp at hq
    have hVlt:V.length<lim:=by omega
    have bs:s2[sid]? =_:=(g2 _ (by omega)).trans ax
    have ba:s2[ia]? =_:=(g2 ia (λ e=>o5 (by rw[e];exact(j2 _).2 (by simp)))).trans aa
    have hvl:V.length<(V++[v]).length:=by simp
    have hat7:=r8 (V++[v]) V.length hvl
    have hgd:(V++[v]).getD V.length e8=v:=by simp
    rw[hgd]at hat7
    have hfl:=fD (V++[v])
    have hfit:Fits p m v.cfg:=(fx hp.ok hS1).fits v (by rw[hS2];simp)
    have hJ2:J (V.map Vis.cfg) DJ s2:=jC _ _ _ _ j1 λ k hk=>g2 k λ e=>j3 k (by omega) (by omega) hk
    have ac1:=hAcc _ _ _ v.cfg (by rw[ac];exact hVlt) hJ2 hfit
    unfold bX at ac1
    unfold lO at ba
    refine bb (.tk 10 0<| .done) (by kernel_rfl) ?_
    simp only[go_sem,aO b0,aX b0,aO b2,aX b2,aO bs,aX bs,aO ba,aX ba,hat7,fC,ad]
    refine⟨⟨by omega,by omega⟩,by rw[hfl,aF];show _≤(V.length+1)*7;omega,bH (ac1.mono λ r' st3 hr=> ?_)⟩
    obtain⟨rfl,D',m1,m2,m3,m4⟩:=hr
    have nd:∀k,Z.length≤k→k≤Z.length+6→¬D' k:=λ k h1 h2 hq=>by
     rcases m2 k hq with z|z
     ·exact j3 k h1 h2 z
     ·omega
    have c0:st3[Z.length]? =_:=(m3 _ (by omega) (j3 _ (by omega) (by omega))).trans b0
    have c1:st3[Z.length+1]? =_:=(m3 _ (by omega) (j3 _ (by omega) (by omega))).trans b1
    have c2:st3[Z.length+2]? =_:=(m3 _ (by omega) (j3 _ (by omega) (by omega))).trans b2
    have c3:st3[Z.length+3]? =_:=(m3 _ (by omega) (j3 _ (by omega) (by omega))).trans b3
    have c4:st3[Z.length+4]? =_:=(m3 _ (by omega) (j3 _ (by omega) (by omega))).trans b4
    have c6:st3[Z.length+6]? =_:=(m3 _ (by omega) (j3 _ (by omega) (by omega))).trans b6
    try simp only[go_sem]
    refine⟨λ hac=> ?_,λ hac=> ?_⟩
    ·obtain⟨s4,hs4⟩:∃s4,st3.set (Z.length+3) (some (.cells [dn V.length]))=s4:=⟨_,rfl⟩
     have d4:s4[Z.length+4]? =some (some (.cells [di 0])):=by rw[←hs4,aD (by omega)];exact c4
     have d6:s4[Z.length+6]? =some (some (.lp q { r with state:= .busy} fr0)):=by rw[←hs4,aD (by omega)];exact c6
     have d3:s4[Z.length+3]? =some (some (.cells [dn V.length])):=by rw[←hs4];exact aT (aL c3)
     simp only[go_sem,aO c3,aX c3,hs4,aO d4,aX d4]
     have l34:=aL d4
     have l36:=aL d6
     have g5:∀st':St,(∀k:Nat,k<((s4.set (Z.length+4) (some (.cells [di 0]))).set (Z.length+6) (some (.lp q { r with state:= .done,pending:=some .ret} fr0))).length→k≠Z.length+6→st'[k]? =((s4.set (Z.length+4) (some (.cells [di 0]))).set (Z.length+6) (some (.lp q { r with state:= .done,pending:=some .ret} fr0)))[k]?)→∀k,k<st3.length→¬(Z.length≤k∧k≤Z.length+6)→st'[k]? =st3[k]? :=λ st' hk k h1 h2=>by
      have hl:s4.length=st3.length:=by rw[←hs4,aH]
      rw[hk k (by rw[aH,aH];omega) (by omega),aD (by omega),aD (by omega),←hs4,aD (by omega)]
     have ndj:¬DJ sid:=λ z=>o4 ((j2 _).2 (.inl z))
     have ndi:¬DJ ia:=λ z=>o5 ((j2 _).2 (.inl z))
     have hrng:¬(Z.length≤ia∧ia≤Z.length+6):=λ z=>by
      have hn:∀k,(k=Z.length∨k=Z.length+1∨k=Z.length+2∨k=Z.length+3∨k=Z.length+4∨k=Z.length+6)→ia≠k:=λ k hk e=>o5 ((j2 ia).2 (.inr (by rw[e];exact hk)))
      have e5:ia=Z.length+5:=by
       have:=hn _ (.inl rfl)
       have:=hn _ (.inr (.inl rfl))
       have:=hn _ (.inr (.inr (.inl rfl)))
       have:=hn _ (.inr (.inr (.inr (.inl rfl))))
       have:=hn _ (.inr (.inr (.inr (.inr (.inl rfl)))))
       have:=hn _ (.inr (.inr (.inr (.inr (.inr rfl)))))
       omega
      rw[e5,ab]at aa
      have r3:([.ref sid 0]:List A)=bU ((V++[v]).map jv):=by
       injection aa with aa;injection aa with aa;injection aa
      have r4:=congrArg List.length r3
      rw[fD]at r4
      simp at r4
      omega
     refine⟨_,bw.refl _ _ _ _,by rw[aD (by omega)];exact d6,false,rfl,λ h=>Bool.noConfusion h,λ _=>⟨aT (by rw[aH];omega),V.length,0,by rw[aD (by omega),aD (by omega)];exact d3,by rw[aD (by omega),aT (by omega)],λ st' hk=>hR2 st' V v D' ia S hS1 hS2 hVlt hac n0 ?_ ?_ ?_ λ z=>(by
      rcases m2 ia z with z|z
      ·exact ndi z
      ·have:=aL ba;omega)⟩⟩
     ·rw[g5 st' hk sid (by have:=aL bs;omega) (by omega),m3 sid (aL bs) ndj,bs,aF];rfl
     ·rw[g5 st' hk ia (by have:=aL ba;omega) hrng,m3 ia (aL ba) ndi,ba]
     ·rw[aJ]
      exact jC _ _ _ _ m1 λ k hk2=>g5 st' hk k (jD _ _ _ m1 k hk2) λ z=>nd k z.1 z.2 hk2
    ·refine⟨_,bw.refl _ _ _ _,c6,true,rfl,λ _=>⟨hVlt,λ k=>D' k∨k=Z.length∨k=Z.length+1∨k=Z.length+2∨k=Z.length+3∨k=Z.length+4∨k=Z.length+6,?_,λ k hk=> ?_,λ k hk hn=> ?_,by rw[aH];omega⟩,λ h=>Bool.noConfusion h⟩
     ·have e:∀{k:Nat} {o:Option Ob},st3[k]? =some o→k≠Z.length+6→(st3.set (Z.length+6) (some (.lp q r fr0)))[k]? =some o:=λ h hn=>by rw[aD (Ne.symm hn)];exact h
      refine⟨λ u hu=> ?_,by rw[aF];show V.length+1≤lim;omega,⟨D',?_,λ k=>Iff.rfl,nd⟩,e c0 (by omega),e c1 (by omega),e c2 (by omega),e c3 (by omega),e c4 (by omega),aT (aL c6)⟩
      ·rcases aW.1 hu with z|z
       ·exact n0 u z
       ·rw[cm]at z;subst z;exact hac
      ·rw[aJ]
       exact jC _ _ _ _ m1 λ k hk2=>aD λ z=>nd k (by omega) (by omega) hk2
     ·rcases hk with z|z
      ·rcases m2 k z with z|z
       ·exact .inl ((j2 k).2 (.inl z))
       ·exact .inr (by omega)
      ·exact .inl ((j2 k).2 (.inr z))
     ·have hn6:k≠Z.length+6:=λ z=>hn ((j2 k).2 (by simp [z]))
      rw[aD (Ne.symm hn6),m3 k (by omega) (λ z=>hn ((j2 k).2 (.inl z))),g2 k hn6]
  ·obtain⟨n0,nle,⟨DJ,j1,j2,j3⟩,k0,k1,k2,k3,k4,k6⟩:=hK
   refine .inl ⟨k6,_,_,bw.mask [6,7],?_⟩
   rw[hfr0]
   simp only[go_sem]
   refine⟨_,_,bw.refl _ _ _ _,rfl,by rw[aD (by omega)];exact k3,by rw[aD (by omega)];exact k4,S,DJ,hS,hb,by rw[hV];exact nle,by rw[hV];exact n0,λ st' hk=> ?_⟩
   rw[hV]
   refine jC _ _ _ _ j1 λ k hq=> ?_
   have:¬(Z.length≤k∧k≤Z.length+6):=λ h=>j3 k h.1 h.2 hq
   rw[hk k (by omega) (by omega),aD (by omega)]
  ·obtain⟨e6,a,b,e3,e4,hRR⟩:=hE
   have app:∀{k:Nat} {o:Option Ob},st[k]? =some o→(st++l)[k]? =some o:=λ hk=>by rw[aq (aL hk)];exact hk
   refine .inr (.inl ⟨app e6,_,_,bw.refl _ _ _ _,?_⟩)
   obtain⟨s4,hs4⟩:∃s4,(st++l).set (Z.length+6) none=s4:=⟨_,rfl⟩
   have c3:s4[Z.length+3]? =some (some (.cells [di a])):=by rw[←hs4,aD (by omega)];exact app e3
   have c4:s4[Z.length+4]? =some (some (.cells [di b])):=by rw[←hs4,aD (by omega)];exact app e4
   rw[hs4,hfr0]
   simp only[go_sem,aO c3,aX c3,aO c4,aX c4]
   exact⟨_,_,bw.refl _ _ _ _,hRR _ λ k hk hn=>by rw[←hs4,aD (Ne.symm hn),aq hk]⟩
 rintro fr st ⟨rfl,k3,k4,S,D,hS,hb,hle,hno,hJ⟩
 obtain⟨s3,hs3⟩:∃s3,st.set (Z.length+3) (some (.cells [di 0]))=s3:=⟨_,rfl⟩
 have c4:s3[Z.length+4]? =some (some (.cells [di 0])):=by rw[←hs3,aD (by omega)];exact k4
 have c3:s3[Z.length+3]? =some (some (.cells [di 0])):=by rw[←hs3];exact aT (aL k3)
 obtain⟨s4,hs4⟩:∃s4,s3.set (Z.length+4) (some (.cells [di 4]))=s4:=⟨_,rfl⟩
 have d4:s4[Z.length+4]? =some (some (.cells [di 4])):=by rw[←hs4];exact aT (aL c4)
 have d3:s4[Z.length+3]? =some (some (.cells [di 0])):=by rw[←hs4,aD (by omega)];exact c3
 simp only[go_sem,aO k3,aX k3,hs3,aO c4,aX c4,hs4,aO d3,aX d3,aO d4,aX d4]
 refine⟨_,_,bw.refl _ _ _ _,hR3 _ S D hS hb hle hno (hJ _ λ k h1 h2=> ?_)⟩
 rw[←hs4,aD (Ne.symm h2),←hs3,aD (Ne.symm h1)]
theorem B5{G:Glob}(hG:G.g 0=some cB)(p:Prg)(hp:Good p)(m:Int)(hm:0≤m∧m≤2)(lim:Nat)(hlim:1≤lim∧lim≤10000)(Z:St)(R:A→St→Prop)(h:R (db true) Z):AC Tryz.prog G 37 [.d (bK p),di m,dn lim] Z R:=by
 have va:=validE hG p hp
 have m3:((m !=0)&&(m !=1)&&(m !=2))=false:=by
  have:m=0∨m=1∨m=2:=by omega
  rcases this with rfl|rfl|rfl<;> rfl
 have l1:decide ((lim:Int)≥1)=true:=by simp;omega
 have l1':decide ((1:Int)≤(lim:Int))=true:=by simp;omega
 have l2:decide ((lim:Int)≤20000)=true:=by simp;omega
 unfold bK at*
 refine bg a9 Tryz.func37 rfl Tryz.ntmps37 (by simp only[go_sem]) λ hbd=> ?_
 simp only[ae,aj,Nat.reduceAdd,Nat.reduceSub,af,ag,ah,ak]
 simp only[go_sem,m3,l1,l1',l2]
 refine gO (.bool true) ⟨λ _=>⟨rfl,bH (va _ _ ?_)⟩,?_⟩
 ·simp only[go_sem]
 simp only[go_sem,l2]
 exact aQ hbd h
def RcJ(Z:St)(bx:Nat)(L:List Cfg)(D:Nat→Prop)(st:St):Prop:=∃b,st[bx]? =some (some (.cells [.rs b 3 0 L.length (some 44)]))∧st[b]? =some (Bz L)∧Z.length≤b∧b≠bx∧L.length≤10000∧(∀k,D k↔k<Z.length∨k=bx∨k=b)∧Z.length≤bx∧∀k,k<Z.length→st[k]? =Z[k]?
theorem reach1_p(Z:St)(bx:Nat)(L:List Cfg)(hLl:L.length<10000)(D:Nat→Prop)(st:St)(c:Cfg)(hJ:RcJ Z bx L D st)(G:Glob)(R:A→St→Prop)(h:∀st' D',RcJ Z bx (L++[c]) D' st'→(∀k,D' k→D k∨st.length≤k)→(∀k,k<st.length→¬D k→st'[k]? =st[k]?)→st.length≤st'.length→R (db false) st'):AC Tryz.prog G 39 [.d (bX c),.ref bx 0] st R:=by
 obtain⟨b,j1,j2,j3,j4,j5,j6,j7,j8⟩:=hJ
 have hfl:=qq L
 have l1:=aL j1
 have l2:=aL j2
 unfold bX
 have k2:=j2
 unfold Bz at k2
 refine bM a9 Tryz.func39 rfl Tryz.ntmps39 (by simp only[go_sem]) λ hbd=> ?_
 simp only[ae,aj,Nat.reduceAdd,Nat.reduceSub,af,ag,ah,ak]
 simp only[go_sem,iY j1,gU j1,iY k2,gU k2,fC]
 obtain⟨s3,hs3⟩:∃s3,(List.set (st++[some (Ob.cells [A.d (bu c.mem),A.d (bu c.pos),A.d (Ab.D.sl 1 (List.map cu c.buf))]),some (Ob.cells [A.d (bu c.mem),A.d (bu c.pos),A.d (Ab.D.sl 1 (List.map cu c.buf))])]) b none++[some (Ob.cells (bU (List.map bX L)++[A.d (bu c.mem),A.d (bu c.pos),A.d (Ab.D.sl 1 (List.map cu c.buf))]))])=s3:=⟨_,rfl⟩
 rw[hs3]
 have g3:∀k,k<st.length→k≠b→s3[k]? =st[k]? :=λ k hk hne=>by
  rw[←hs3,aq (by simp;omega),aD (Ne.symm hne),aq hk]
 have l3:s3.length=st.length+3:=by rw[←hs3];simp
 have h3:s3[bx]? =_:=(g3 _ l1 (Ne.symm j4)).trans j1
 have h4:s3[st.length+2]? =some (some (.cells (bU (List.map bX L)++[A.d (bu c.mem),A.d (bu c.pos),A.d (Ab.D.sl 1 (List.map cu c.buf))]))):=by
  rw[←hs3,az (by simp)]
  simp
 simp only[go_sem,aO h3,aX h3,aO h4]
 refine⟨⟨hfl,by simp only[maxLen];omega,by omega⟩,_,_,bw.refl _ _ _ _,h _ (λ k=>k<Z.length∨k=bx∨k=st.length+2) ⟨st.length+2,?_,?_,by omega,by omega,by rw[aF];show L.length+1≤10000;omega,λ k=>Iff.rfl,j7,λ k hk=> ?_⟩ (λ k hk=> ?_) (λ k hk hn=> ?_) (by rw[aH];omega)⟩
 ·rw[aT (by omega),aF];rfl
 ·rw[aD (by omega),h4,Bz,zJ]
 ·rw[aD (by omega),g3 k (by omega) (by omega)];exact j8 k hk
 ·rcases hk with z|z|z
  ·exact .inl ((j6 k).2 (.inl z))
  ·exact .inl ((j6 k).2 (.inr (.inl z)))
  ·exact .inr (by omega)
 ·rw[aD (λ z=>hn ((j6 k).2 (.inr (.inl z.symm)))),g3 k hk (λ z=>hn ((j6 k).2 (.inr (.inr z))))]
theorem tj{Z st:St}(h:∀k,k<Z.length→st[k]? =Z[k]?)(hl:Z.length≤st.length):st=Z++st.drop Z.length:=by
 have:st.take Z.length=Z:=by
  refine cz λ k=> ?_
  rcases aC k Z.length with hk|hk
  ·rw[bL hk];exact h k hk
  ·rw[bm (by rw[aP];omega),bm hk]
 rw[←congrArg (· ++st.drop Z.length) this]
 exact(ct _ _).symm
theorem Fl {G:Glob} (hG:G.g 0=some cB) (hpan:∀a s,¬G.pan a s) (p:Prg) (hp:Good p) (m:Int) (hm:0≤m∧m≤2) (lim:Nat) (hlim:1≤lim∧lim≤10000) (Z:St) (R:A→St→Prop)
  (hR1:∀S,Steps p m (kP p m) S→S.V.length=lim+1→R (.tup [.d .nils,di 2]) Z)
  (hR3:∀S,Steps p m (kP p m) S→eX p m S=none→S.V.length≤lim→R (.tup [.d (.sl 3 ((S.V.map Vis.cfg).map bX)),di 0]) Z):AC Tryz.prog G 16 [.d (bK p),di m,dn lim] Z R:=by
 have pr:=B5 hG p hp m hm lim hlim
 unfold bK at*
 refine bD [6] a9 Tryz.func16 rfl Tryz.ntmps16 (by simp only[go_sem]) λ hbd=> ?_
 simp only[ae,aj,Nat.reduceAdd,Nat.reduceSub,af,ag,ah,ak]
 try simp only[go_sem]
 refine bH (pr _ _ ?_)
 try simp only[go_sem]
 refine bc (λ fr st=>(fr=D4 %[.o,.o,.o,di 2|D5 [.o,.o,.o,.o]]∧st=Z∧∃S,Steps p m (kP p m) S∧S.V.length=lim+1)∨(∃S,fr=D4 %[.ref Z.length 0,.o,.o,di 4|D5 [.o,.o,.o,.o]]∧st=Z++[some (.cells [.d (.sl 3 ((S.V.map Vis.cfg).map bX))])]∧Steps p m (kP p m) S∧eX p m S=none∧S.V.length≤lim)) ?_ ?_
 ·try simp only[go_sem]
  have hat:∀(k:Nat) (l:St) (o:Option Ob),l[k]? =some o→(Z++l)[Z.length+k]? =some o:=λ k l o hk=>by rw[az (by omega),bk];exact hk
  refine bH (lz (bw.emptyIn (Z:=Z) 2 5 7 (some 126) rfl rfl) (lz (bw.emptyIn (Z:=Z) 1 0 3 (some 44) rfl rfl) ?_))
  simp only[ff,fQ,aF,ae,aj,Nat.reduceAdd,aU,ah,ak]
  refine Cn hG hpan p hp m hm lim hlim (sid:=Z.length+2) (ia0:=Z.length+3) (g:=39) (cap:=[.ref (Z.length+1) 0]) (λ _=>false) _ (by simp [jo,A.bd]) (RcJ Z (Z.length+1)) (λ L D st ⟨b,j1,j2,j3,j4,j5,j6,j7,j8⟩ k hk=> ?_) (λ L D st st' ⟨b,j1,j2,j3,j4,j5,j6,j7,j8⟩ hk=> ?_) (λ L D st c hl hJ hf=>reach1_p Z _ L (by omega) D st c hJ G _ λ st' D' q1 q2 q3 q4=>⟨rfl,D',q1,q2,q3,q4⟩) (DJ0:=λ k=>k<Z.length∨k=Z.length+1∨k=Z.length+4) ⟨Z.length+4,hat 1 _ _ rfl,hat 4 _ _ rfl,by omega,by omega,by simp,λ k=>Iff.rfl,by omega,λ k hk=>aq hk⟩ (hat 2 _ _ rfl) (hat 3 _ _ rfl) ⟨by omega,by omega⟩ (by omega) _ (λ st S L D hS hl _ hJ=> ?_) (λ st V v D ia S _ _ _ h=>Bool.noConfusion h) (λ st S D hS hb hle _ hJ=> ?_)
  ·rcases(j6 k).1 hk with z|z|z
   ·have:=aL j1;omega
   ·rw[z];exact aL j1
   ·rw[z];exact aL j2
  ·exact⟨b,(hk _ ((j6 _).2 (.inr (.inl rfl)))).trans j1,(hk _ ((j6 _).2 (.inr (.inr rfl)))).trans j2,j3,j4,j5,j6,j7,λ k h=>(hk _ ((j6 _).2 (.inl h))).trans (j8 k h)⟩
  ·obtain⟨b,j1,j2,j3,j4,j5,j6,j7,j8⟩:=hJ
   have hs5:=tj j8 (by have:=aL j1;omega)
   try simp only[go_sem]
   rw[hs5]
   exact Wk.keep [11] [] (by decide) (aE _) hbd (.inl ⟨by simp only[go_sem],by simp only[go_sem,iC,bt],S,hS,hl⟩)
  ·obtain⟨b,j1,j2,j3,j4,j5,j6,j7,j8⟩:=hJ
   have hs5:=tj j8 (by have:=aL j1;omega)
   have d1:(st.drop Z.length)[1]? =some (some (.cells [.rs b 3 0 (S.V.map Vis.cfg).length (some 44)])):=by rw[bE];exact j1
   have db:(st.drop Z.length)[b - Z.length]? =some (Bz (S.V.map Vis.cfg)):=by rw[bE,show Z.length+(b - Z.length)=b by omega];exact j2
   try simp only[go_sem]
   generalize st.drop Z.length=l4 at hs5 d1 db
   rw[hs5]
   have n1:((1:Nat)=b - Z.length)=False:=eq_false (by omega)
   refine Wk.via ((bw.mask [8,11]).trans (bw.keep [1,b - Z.length] ?_ (aE _) hbd)) ?_
   ·simp only[cR,aV,bi,or_false,not_false_eq_true,List.nodup_nil,and_true]
    omega
   rw[show b=Z.length+(b - Z.length)by omega]at d1
   simp only[iC,aM,bq,lD,au,d1,db,b9,bJ]
   simp only[go_sem,n1,if_false,bJ,cG]
   refine Wk.via (bw.freezeIn (Z:=Z) 1 0 3 0 ((S.V.map Vis.cfg).map bX) rfl (zu _) rfl (by decide)) ?_
   simp only[go_sem,ac,and_self,if_true,false_and,if_false]
   exact Wk.keep [8,11] [0] (by decide) (aE _) hbd (.inr ⟨S,by simp only[go_sem],by simp only[go_sem],hS,hb,hle⟩)
 rintro fr st (⟨rfl,rfl,S,hS,hl⟩|⟨S,rfl,rfl,hS,hb,hle⟩)
 ·have z2:((2:Int)==2)=true:=rfl
  simp only[go_sem,z2]
  exact xd (hR1 S hS hl)
 ·have z2:((4:Int)==2)=false:=rfl
  simp only[go_sem,z2]
  exact dq hbd rfl (hR3 S hS hb hle)
def k9(op:Int):List Ex→Ex
 |[]=> .mk 0 0 0 []
 |x::r=>r.foldl (λ a b=> .mk op 1 0 [a,b]) x
theorem Bf(op:Int)(l:List Ex)(x:Ex)(h:l≠[]):k9 op (l++[x])= .mk op 1 0 [k9 op l,x]:=by
 cases l with
 |nil=>exact absurd rfl h
 |cons a r=>simp [k9,dG]
def kn(e:Ex)(c:Cfg):Bool:=fO c&&mu c.mem e==1
def uS(p:Prg)(mem:List Int)(i:Nat):Ex:= .mk 11 1 0 [.mk 2 (p.cells.getD i fU).w i [],.mk 1 (p.cells.getD i fU).w (mem.getD i 0) []]
def xW(p:Prg)(mem:List Int)(n:Nat):List Ex:=(List.range n).map (uS p mem)
def v6(p:Prg)(mem:List Int):Ex:=if p.cells.length=0 then .mk 1 1 1 []else k9 5 (xW p mem p.cells.length)
theorem sM(p:Prg)(mem:List Int)(n:Nat):(xW p mem n).length=n:=by simp [xW]
theorem isL_succ(p:Prg)(mem:List Int)(n:Nat):xW p mem (n+1)=xW p mem n++[uS p mem n]:=by simp [xW,eY]
theorem Ex.deep_up{l:Nat}:∀{e:Ex},e.deep l=true→e.deep (l+1)=true:=by
 induction l with
 |zero=>intro e h;exact absurd h (by simp [Ex.deep])
 |succ l ih=>
  intro e h
  rw[Ex.deep,aB,aZ]at h
  rw[Ex.deep,aB,aZ]
  exact⟨h.1,λ k hk=>ih (h.2 k hk)⟩
theorem Ex.deep_le{e:Ex}{l n:Nat}(h:e.deep l=true)(hn:l≤n):e.deep n=true:=by
 induction hn with
 |refl=>exact h
 |step _ ih=>exact Ex.deep_up ih
structure PtOk (p:Prg) (x:Ex):Prop where
 op:x.op≠1
 w:x.w=1
 ok:x.Ok
 n:x.nodes=3
 deep:x.deep 2=true
 over:x.over p.cells false=true
theorem Bo{p:Prg}(hs:p.Small)(hp:p.Ok){mem:List Int}(hm:MemOk p mem){i:Nat}(hi:i<p.cells.length):PtOk p (uS p mem i):=by
 have hn:=hs.ncel
 have hw:=AD hp (c:=(i:Int)) (by omega) (by omega)
 have hv:=hm.val i _ (pk 0 (by rw[hm.len];exact hi))
 simp only[Prg.cell,ad]at hw hv
 refine⟨by simp [uS,Ex.op],rfl,.mk (by simp [reachBytes,Ex.kids,uS]) ?_,rfl,?_,?_⟩
 ·intro k hk
  simp only[uS,Ex.kids,aV,bi,or_false]at hk
  rcases hk with rfl|rfl<;> exact .mk (by simp [reachBytes,Ex.kids]) (λ k hk=>by simp [Ex.kids]at hk)
 ·have z1:decide ((i:Int)<32)=true:=by simp;omega
  have z2:=hw.1
  have z3:=hw.2
  have z4:=hv.1
  have z5:=hv.2
  simp [-List.getD_eq_getElem?_getD,dA,eU,uS,Ex.deep,Ex.fits,Ex.arity,Ex.op,Ex.w,Ex.n,Ex.kids,Ex.kw,z2,z3,z4,z5]
  omega
 ·simp [uS,Ex.over,qc,Ex.overN,Ex.op,Ex.w,Ex.n]
  omega
theorem Cl(p:Prg):∀(r:List Ex) (a:Ex) (d:Nat),(∀x∈r,PtOk p x)→a.w=1→a.Ok→a.deep d=true→2≤d→a.over p.cells false=true→
  (r.foldl (λ a b=>Ex.mk 5 1 0 [a,b]) a).w=1∧(r.foldl (λ a b=>Ex.mk 5 1 0 [a,b]) a).Ok∧(r.foldl (λ a b=>Ex.mk 5 1 0 [a,b]) a).deep (d+r.length)=true∧(r.foldl (λ a b=>Ex.mk 5 1 0 [a,b]) a).over p.cells false=true∧(r.foldl (λ a b=>Ex.mk 5 1 0 [a,b]) a).nodes=a.nodes+4*r.length
 |[],a,d,_,h1,h2,h3,_,h4=>⟨h1,h2,h3,h4,rfl⟩
 |x::r,a,d,hr,h1,h2,h3,hd,h4=>by
  have hx:=hr x (by simp)
  have hxd:x.deep d=true:=Ex.deep_le hx.deep hd
  obtain⟨g1,g2,g3,g4,g5⟩:=Cl p r (.mk 5 1 0 [a,x]) (d+1) (λ y hy=>hr y (by simp [hy])) rfl
   (.mk (by simp [reachBytes,Ex.kids]) λ k hk=>by
    simp only[Ex.kids,aV,bi,or_false]at hk
    rcases hk with rfl|rfl
    ·exact h2
    ·exact hx.ok)
   (by
    have hw:=hx.w
    simp [Ex.deep,Ex.fits,Ex.arity,Ex.op,Ex.w,Ex.n,Ex.kids,Ex.kw,h3,hxd]
    exact⟨h1,hw⟩) (by omega)
   (by
    have ho:=hx.over
    simp [Ex.over,qc,Ex.overN,Ex.op,h4,ho])
  rw[cc]
  refine⟨g1,g2,by rw[ae,show d+(r.length+1)=d+1+r.length by omega];exact g3,g4,?_⟩
  rw[g5,ae]
  have hn:=hx.n
  simp only[Ex.nodes,Ex.nodesL]
  omega
theorem isL_mem{p:Prg}{mem:List Int}{n:Nat}{x:Ex}(h:x∈xW p mem n):∃i,i<n∧x=uS p mem i:=by
 simp only[xW,aI,eT]at h
 obtain⟨i,hi,rfl⟩:=h
 exact⟨i,hi,rfl⟩
theorem zB(p:Prg)(mem:List Int)(n:Nat):xW p mem (n+1)=uS p mem 0::((List.range n).map λ i=>uS p mem (i+1)):=by
 simp only[xW,List.range_succ_eq_map,aM,dZ]
 rfl
theorem isE_pt{p:Prg}(hs:p.Small)(hp:p.Ok){mem:List Int}(hm:MemOk p mem):(v6 p mem).Ok∧(v6 p mem).nodes≤600∧(v6 p mem).deep 40=true∧(v6 p mem).over p.cells false=true∧(v6 p mem).w=1:=by
 unfold v6
 by_cases h0:p.cells.length=0
 ·rw[if_pos h0]
  exact⟨.mk (by simp [reachBytes,Ex.kids]) (λ k hk=>by simp [Ex.kids]at hk),by decide,by decide,by simp [Ex.over,qc,Ex.overN,Ex.op],rfl⟩
 ·rw[if_neg h0]
  obtain⟨n,hn⟩:∃n,p.cells.length=n+1:=⟨p.cells.length - 1,by omega⟩
  have hnc:=hs.ncel
  rw[hn,zB]
  have h1:=Bo hs hp hm (i:=0) (by omega)
  obtain⟨g1,g2,g3,g4,g5⟩:=Cl p ((List.range n).map λ i=>uS p mem (i+1)) (uS p mem 0) 2 (λ x hx=>by
   simp only[aI,eT]at hx
   obtain⟨i,hi,rfl⟩:=hx
   exact Bo hs hp hm (by omega)) h1.w h1.ok h1.deep (by omega) h1.over
  have hl:((List.range n).map λ i=>uS p mem (i+1)).length=n:=by simp
  rw[hl]at g3 g5
  exact⟨g2,by show Ex.nodes (List.foldl _ _ _)≤600;rw[g5,h1.n];omega,Ex.deep_le g3 (by omega),g4,g1⟩
def vk(e:Ex):D:= .agg [iD (-1),iD 0,iD e.op,iD e.w,iD e.n,.sl 4 (e.kids.map Ex.d)]
abbrev sA(e:Ex):Option Ob:=some (.cells [.d (iD (-1)),.d (iD 0),.d (iD e.op),.d (iD e.w),.d (iD e.n),.d (.sl 4 (e.kids.map Ex.d))])
structure GolOk (p:Prg) (e:Ex):Prop where
 ok:e.Ok
 n:e.nodes≤600
 deep:e.deep 40=true
 over:e.over p.cells false=true
 w:e.w=1
theorem meetsU{G:Glob}(hG:G.g 0=some cB)(p:Prg)(hp:Good p)(e:Ex)(he:GolOk p e)(m:Int)(c:Cfg)(hf:Fits p m c)(Z:St)(R:A→St→Prop)(h:R (db (kn e c)) Z):AC Tryz.prog G 56 [.d (bX c),.d (vk e)] Z R:=by
 obtain⟨z1,z2,z3,z4⟩:=hf.sz hp
 have qu:=tI c (by omega)
 have ev:=xG e he.ok he.n he.deep c.mem c.mem (by simp only[reachBytes];omega) (by simp only[reachBytes];omega)
 rw[ed]at ev
 have z0:decide ((-1:Int)≥0)=false:=rfl
 have z0':decide ((0:Int)≤-1)=false:=rfl
 unfold kn at h
 unfold bX at qu
 unfold eD at ev
 unfold bX vk
 refine bg a9 Tryz.func56 rfl Tryz.ntmps56 (by simp only[go_sem]) λ hbd=> ?_
 simp only[ae,aj,Nat.reduceAdd,Nat.reduceSub,af,ag,ah,ak]
 simp only[bu,go_sem]
 refine bH (qu _ _ _ ?_)
 rcases Bool.eq_false_or_eq_true (fO c)with hq|hq
 ·rw[hq]at h ⊢
  simp only[bu,go_sem,z0,z0']
  refine bH (ev _ _ hG _ ?_)
  try simp only[go_sem]
  exact aQ hbd h
 ·rw[hq]at h ⊢
  simp only[bu,go_sem,z0,z0']
  exact aQ hbd h
theorem find1U{G:Glob}(hG:G.g 0=some cB)(p:Prg)(hp:Good p)(e:Ex)(he:GolOk p e)(m:Int)(c:Cfg)(hf:Fits p m c)(gx:Nat)(st:St)(hg:st[gx]? =some (sA e))(R:A→St→Prop)(h:∀l,R (db (kn e c)) (st++l)):AC Tryz.prog G 55 [.d (bX c),.ref gx 0] st R:=by
 have me:=meetsU hG p hp e he m c hf
 unfold bX vk at*
 refine bg a9 Tryz.func55 rfl Tryz.ntmps55 (by simp only[go_sem]) λ hbd=> ?_
 simp only[ae,aj,Nat.reduceAdd,Nat.reduceSub,af,ag,ah,ak]
 simp only[go_sem,iY hg,gU hg,fC]
 refine bH (me _ _ ?_)
 try simp only[go_sem]
 exact⟨_,_,bw.refl _ _ _ _,h _⟩
theorem aimsU{G:Glob}(hG:G.g 0=some cB)(p:Prg)(hp:Good p)(e:Ex)(he:GolOk p e)(Z:St)(R:A→St→Prop)(h:R (db true) Z):AC Tryz.prog G 54 [.d (bK p),.d (vk e)] Z R:=by
 have htn:=hp.sm.nthr
 have va:=ng e he.ok he.n p.cells false
 rw[he.deep,he.over,ed]at va
 have z0:decide ((-1:Int)< -1)=false:=rfl
 have z1:decide ((p.threads.length:Int)≤-1)=false:=by rw[ay];omega
 have z1':decide ((-1:Int)≥(p.threads.length:Int))=false:=by rw[ay];omega
 have z2:decide ((-1:Int)≥0)=false:=rfl
 have z2':decide ((0:Int)≤-1)=false:=rfl
 have z3:((1:Int)==1)=true:=rfl
 have hw:=he.w
 unfold eD aY at va
 unfold bK vk
 refine bg a9 Tryz.func54 rfl Tryz.ntmps54 (by simp only[go_sem]) λ hbd=> ?_
 simp only[ae,aj,Nat.reduceAdd,Nat.reduceSub,af,ag,ah,ak]
 simp only[aY,go_sem,z0,z1,z1',z2,z2',ac]
 refine bH (va _ _ hG _ ?_)
 simp only[go_sem,hw,z3]
 exact aQ hbd h
theorem wy(L:List Cho)(i:Nat)(hi:i<L.length):bU (L.map c7)=bU ((L.take i).map c7)++([.d (iD (L.getD i fE).thread),.d (iD (L.getD i fE).step),.d (iD (L.getD i fE).cell)]++bU ((L.drop (i+1)).map c7)):=by
 have e1:L=L.take i++([L.getD i fE]++L.drop (i+1)):=by
  rw[←aU,←bG fE hi,ct]
 have e2:bU (L.map c7)=bU ((L.take i).map c7)++(bU ([L.getD i fE].map c7)++bU ((L.drop (i+1)).map c7)):=by
  rw[←cZ,←cZ,←aJ,←aJ,←e1]
 exact e2
theorem pV(L:List Cho)(i:Nat)(hi:i≤L.length):(bU ((L.take i).map c7)).length=i*3:=by rw[fh,aP,cC hi]
theorem Cu(L:List Cho)(i:Nat)(hi:i<L.length):List.take 3 (List.drop (i*3) (bU (L.map c7)))=[.d (iD (L.getD i fE).thread),.d (iD (L.getD i fE).step),.d (iD (L.getD i fE).cell)]:=by
 rw[wy L i hi,Ez (pV L i (by omega))]
 rfl
theorem cho_put(L:List Cho)(i:Nat)(hi:i<L.length)(x:Cho):List.take (i*3) (bU (L.map c7))++[A.d (iD x.thread),A.d (iD x.step),A.d (iD x.cell)]++List.drop (i*3+3) (bU (L.map c7))=bU ((L.set i x).map c7):=by
 have hs:L.set i x=L.take i++([x]++L.drop (i+1)):=by
  rw[da,if_pos hi];rfl
 rw[hs,aJ,aJ,cZ,cZ]
 have e:=wy L i hi
 have l1:=pV L i (by omega)
 rw[e,List.take_left' l1,←List.drop_drop,Ez l1,aU]
 rfl
theorem yA{Z:St}{i:Nat}{o:Option Ob}(h:Z[i]? =some o):Z.set i o=Z:=by
 refine cz λ k=> ?_
 rw[aR]
 split
 ·next e=>subst e;rw[h];simp [aL h]
 ·rfl
theorem z9(L:List Cho)(i:Nat)(hi:i<L.length)(x:Cho):List.take (i*3) (bU (L.map c7))++A.d (iD x.thread)::A.d (iD x.step)::A.d (iD x.cell)::List.drop (i*3+3) (bU (L.map c7))=bU ((L.set i x).map c7):=by
 have:=cho_put L i hi x
 rw[aU]at this
 exact this
def oG(L:List Cho)(i:Nat):List Cho:=(List.range L.length).map λ k=>if k<i∨L.length - i≤k then L.getD (L.length - 1 - k) fE else L.getD k fE
theorem lQ(L:List Cho)(i:Nat):(oG L i).length=L.length:=by simp [oG]
theorem lR(L:List Cho)(i k:Nat)(hk:k<L.length):(oG L i)[k]? =some (if k<i∨L.length - i≤k then L.getD (L.length - 1 - k) fE else L.getD k fE):=by
 unfold oG
 rw[aN,List.getElem?_range hk];rfl
theorem CL(L:List Cho):oG L 0=L:=by
 refine cz λ k=> ?_
 rcases aC k L.length with h|h
 ·rw[lR L 0 k h,if_neg (by omega),au,ap h];rfl
 ·rw[bm (by rw[lQ];exact h),bm h]
theorem revI_end(L:List Cho)(i:Nat)(h:L.length≤2*i+1):oG L i=L.reverse:=by
 refine cz λ k=> ?_
 rcases aC k L.length with hk|hk
 ·rw[lR L i k hk,List.getElem?_reverse hk]
  by_cases c:k<i∨L.length - i≤k
  ·rw[if_pos c,au,ap (by omega)];rfl
  ·rw[if_neg c,show L.length - 1 - k=k by omega,au,ap hk];rfl
 ·rw[bm (by rw[lQ];exact hk),bm (by rw[cI];exact hk)]
theorem CM(L:List Cho)(i:Nat)(h:2*i+1<L.length):((oG L i).set i ((oG L i).getD (L.length - 1 - i) fE)).set (L.length - 1 - i) ((oG L i).getD i fE)=oG L (i+1):=by
 have e1:(oG L i).getD (L.length - 1 - i) fE=L.getD (L.length - 1 - i) fE:=by
  rw[au,lR L i _ (by omega),if_neg (by omega)];rfl
 have e2:(oG L i).getD i fE=L.getD i fE:=by
  rw[au,lR L i _ (by omega),if_neg (by omega)];rfl
 rw[e1,e2]
 refine cz λ k=> ?_
 rcases aC k L.length with hk|hk
 ·rw[lR L (i+1) k hk,aR,aR,aH,lQ,lR L i k hk]
  by_cases c1:L.length - 1 - i=k
  ·rw[if_pos c1,if_pos (by omega),if_pos (by omega),show L.length - 1 - k=i by omega]
  ·rw[if_neg c1]
   by_cases c2:i=k
   ·subst c2
    rw[if_pos rfl,if_pos (by omega),if_pos (by omega)]
   ·rw[if_neg c2]
    congr 1
    by_cases c3:k<i∨L.length - i≤k
    ·rw[if_pos c3,if_pos (by omega)]
    ·rw[if_neg c3,if_neg (by omega)]
 ·rw[bm (by simp [lQ];exact hk),bm (by rw[lQ];exact hk)]
theorem CK(L:List Cho)(hL:L.length≤10000)(id n:Nat)(hn:n=L.length)(Z:St)(hσ:Z[id]? =some (jE L))(G:Glob)(R:A→St→Prop)(h:R (.tup []) (Z.set id (jE L.reverse))):AC Tryz.prog G 57 [.rs id 3 0 n (some 37)] Z R:=by
 subst hn
 have hid:=aL hσ
 have w0:IntKind.i64.wrap ((L.length:Int) - 1)=(L.length:Int) - 1:=cq _ (by omega) (by omega)
 refine bM a9 Tryz.func57 rfl Tryz.ntmps57 (by simp only[go_sem]) λ hbd=> ?_
 simp only[ae,aj,Nat.reduceAdd,Nat.reduceSub,af,ag,ah,ak]
 simp only[go_sem,aO hσ,w0]
 refine aS (λ k fr st=>∃i:Nat,k=L.length - i∧2*i≤L.length∧fr=%[.rs id 3 0 L.length (some 37),.o,dn i,di ((L.length:Int) - 1 - i)|D5 (D4 [])]∧st=Z.set id (jE (oG L i))) L.length _ (Wk.mask [0,2,3] ⟨0,by omega,by omega,by simp [iX],by rw[CL];exact(yA hσ).symm⟩) ?_
 rintro k fr st ⟨i,hk,hi2,rfl,rfl⟩
 obtain⟨τ,hτ⟩:∃τ,Z.set id (jE (oG L i))=τ:=⟨_,rfl⟩
 have hτi:τ[id]? =some (jE (oG L i)):=by rw[←hτ];exact aT hid
 rw[hτ]
 rcases aC (2*i+1) L.length with hlt|hge
 ·have hd:decide ((i:Int)<(L.length:Int) - 1 - i)=true:=by simp;omega
  have w1:IntKind.i64.wrap ((i:Int)+1)=((i+1:Nat):Int):=by rw[cq _ (by omega) (by omega)];omega
  have w2:IntKind.i64.wrap ((L.length:Int) - 1 - i - 1)=(L.length:Int) - 1 - ((i+1:Nat):Int):=by rw[cq _ (by omega) (by omega)];omega
  have wn:((L.length:Int) - 1 - i).toNat=L.length - 1 - i:=by omega
  have hMl:=lQ L i
  have hsuc:=CM L i hlt
  obtain⟨M,hM⟩:∃M,oG L i=M:=⟨_,rfl⟩
  rw[hM]at hτi hMl hsuc
  have g1:=Cu M i (by omega)
  have g2:=Cu M (L.length - 1 - i) (by omega)
  have p1:=z9 M i (by omega) (M.getD (L.length - 1 - i) fE)
  have p2:=z9 (M.set i (M.getD (L.length - 1 - i) fE)) (L.length - 1 - i) (by rw[aH];omega) (M.getD i fE)
  have hfl:=fh M
  have hfl2:=fh (M.set i (M.getD (L.length - 1 - i) fE))
  rw[aH]at hfl2
  unfold jE at hτi
  have hτ2:(τ.set id (jE (M.set i (M.getD (L.length - 1 - i) fE))))[id]? =some (jE (M.set i (M.getD (L.length - 1 - i) fE))):=aT (aL hτi)
  unfold jE at hτ2
  simp only[go_sem,hd]
  refine bb (.tk 16 0<| .done) (by kernel_rfl) ?_
  simp only[go_sem,aO hτi,aX hτi,aO hτ2,aX hτ2,g1,g2,p1,p2,fC,w1,w2,wn,ad]
  refine⟨⟨by omega,by omega⟩,by omega,⟨by omega,by omega⟩,by omega,⟨by omega,by omega⟩,by omega,⟨by omega,by omega⟩,by omega,?_⟩
  refine Wk.mask [0,2,3] ⟨L.length - (i+1),by omega,i+1,rfl,by omega,rfl,?_⟩
  rw[←hτ,dT,dT,hsuc]
 ·have hd:decide ((i:Int)<(L.length:Int) - 1 - i)=false:=by simp;omega
  simp only[go_sem,hd]
  rw[←hτ,revI_end L i (by omega)]
  exact⟨_,_,bw.refl _ _ _ _,h⟩
theorem vq(V:List Vis)(i:Nat)(hi:i<V.length):List.drop (i*7) (bU (V.map jv))=[.d (bu (V.getD i e8).cfg.mem),.d (bu (V.getD i e8).cfg.pos),.d (.sl 1 ((V.getD i e8).cfg.buf.map cu)),.d (iD (V.getD i e8).frm),.d (iD (V.getD i e8).cho.thread),.d (iD (V.getD i e8).cho.step),.d (iD (V.getD i e8).cho.cell)]++bU ((V.drop (i+1)).map jv):=by
 have e1:V=V.take i++([V.getD i e8]++V.drop (i+1)):=by
  rw[←aU,←bG e8 hi,ct]
 have e3:bU (V.map jv)=bU ((V.take i).map jv)++(bU ([V.getD i e8].map jv)++bU ((V.drop (i+1)).map jv)):=by
  rw[←cZ,←cZ,←aJ,←aJ,←e1]
 have l1:(bU ((V.take i).map jv)).length=i*7:=by rw[fD,aP,cC (by omega)]
 rw[e3,Ez l1]
 rfl
theorem vis_frm(V:List Vis)(i:Nat)(hi:i<V.length):List.getD (bU (V.map jv)) (i*7+3) A.o= .d (iD (V.getD i e8).frm):=by
 have:=vq V i hi
 have e:(List.drop (i*7) (bU (V.map jv)))[3]? =some (.d (iD (V.getD i e8).frm)):=by rw[this];rfl
 rw[bE]at e
 rw[au,e];rfl
theorem vis_cho(V:List Vis)(i:Nat)(hi:i<V.length):List.take 3 (List.drop (i*7+4) (bU (V.map jv)))=[.d (iD (V.getD i e8).cho.thread),.d (iD (V.getD i e8).cho.step),.d (iD (V.getD i e8).cho.cell)]:=by
 rw[←List.drop_drop,vq V i hi]
 rfl
theorem Back.lt{V:List Vis}{k:Nat}{l:List Cho}(h:Back V k l):k<V.length:=by
 cases h with
 |root hk _=>exact aL hk
 |step hk _ _=>exact aL hk
theorem back_len{p:Prg}{m:Int}{S:BS}(h:BInv p m S){k:Nat}{l:List Cho}(hb:Back S.V k l):l.length≤k:=by
 induction hb with
 |root hk hf=>simp
 |step hk hf hb ih=>
  rename_i k j v l
  rcases cv k with h0|h0
  ·subst h0
   obtain⟨w,hw,hw1,hw2⟩:=h.root
   rw[hk]at hw;cases hw
   omega
  ·obtain⟨j2,h1,h2,h3,h4,h5⟩:=h.from_ k v hk h0
   rw[ae]
   omega
def FdJ(Z:St)(gx:Nat)(e:Ex)(L:List Cfg)(D:Nat→Prop)(st:St):Prop:=st[gx]? =some (sA e)∧Z.length≤st.length∧(∀k,D k↔k<Z.length∨k=gx)∧∀k,k<Z.length→st[k]? =Z[k]?
theorem BK {G:Glob} (hG:G.g 0=some cB) (hpan:∀a s,¬G.pan a s) (p:Prg) (hp:Good p) (m:Int) (hm:0≤m∧m≤2) (e:Ex) (he:GolOk p e) (lim:Nat) (hlim:1≤lim∧lim≤10000) (Z:St) (R:A→St→Prop)
  (hR1:∀S,Steps p m (kP p m) S→S.V.length=lim+1→(∀u∈S.V.take lim,kn e u.cfg=false)→R (.tup [.d .nils,di 2]) Z)
  (hR2:∀V v S l,Steps p m (kP p m) S→S.V=V++[v]→V.length<lim→kn e v.cfg=true→(∀u∈V,kn e u.cfg=false)→Back (V++[v]) V.length l→(l.length≤120→R (.tup [.d (.sl 3 (l.reverse.map c7)),di 0]) Z)∧(120<l.length→R (.tup [.d .nils,di 2]) Z))
  (hR3:∀S,Steps p m (kP p m) S→eX p m S=none→(∀u∈S.V,kn e u.cfg=false)→R (.tup [.d .nils,di 4]) Z):AC Tryz.prog G 24 [.d (bK p),di m,.d (vk e),dn lim] Z R:=by
 have pr:=B5 hG p hp m hm lim hlim
 have ai:=aimsU hG p hp e he
 unfold bK vk at*
 refine bD [5] a9 Tryz.func24 rfl Tryz.ntmps24 (by simp only[go_sem]) λ hbd=> ?_
 simp only[ae,aj,Nat.reduceAdd,Nat.reduceSub,af,ag,ah,ak]
 try simp only[go_sem]
 refine bH (pr _ _ ?_)
 try simp only[go_sem]
 refine gO (.bool true) ⟨λ _=>⟨rfl,bH (ai _ _ ?_)⟩,?_⟩
 ·simp only[go_sem]
 try simp only[go_sem]
 refine bc (λ fr st=>(∃x:Int,x≠0∧fr=D4 %[.o,.o,.o,.o,di x|D6 (D5 (D4 [.o,.o,.o,.o]))]∧st=Z∧R (.tup [.d .nils,di x]) Z)∨(∃V v S l,fr=D4 %[.o,.o,.ref Z.length 0,dn V.length,di 0|D6 (D5 (D4 [.o,.o,.o,.o]))]∧st=Z++[tu p m (.rs (Z.length+1) 7 0 (V.length+1) (some 126)),lO (V++[v])]∧Steps p m (kP p m) S∧S.V=V++[v]∧V.length<lim∧kn e v.cfg=true∧(∀u∈V,kn e u.cfg=false)∧Back (V++[v]) V.length l)) ?_ ?_
 ·try simp only[go_sem]
  have hat:∀(k:Nat) (l:St) (o:Option Ob),l[k]? =some o→(Z++l)[Z.length+k]? =some o:=λ k l o hk=>by rw[az (by omega),bk];exact hk
  refine bH (lz (bw.emptyIn (Z:=Z) 2 5 7 (some 126) rfl rfl) ?_)
  simp only[ff,fQ,aF,ae,aj,Nat.reduceAdd,aU,ah,ak]
  refine Cn hG hpan p hp m hm lim hlim (sid:=Z.length+2) (ia0:=Z.length+3) (g:=55) (cap:=[.ref (Z.length+1) 0]) (kn e) _ (by simp [jo,A.bd]) (FdJ Z (Z.length+1) e) (λ L D st ⟨j1,j2,j3,j4⟩ k hk=> ?_) (λ L D st st' ⟨j1,j2,j3,j4⟩ hk=> ?_) (λ L D st c hl ⟨j1,j2,j3,j4⟩ hf=>find1U hG p hp e he m c hf (Z.length+1) st j1 _ λ l=>⟨rfl,D,⟨?_,?_,j3,?_⟩,λ k hk=> .inl hk,λ k hk _=>aq hk,by simp⟩) (DJ0:=λ k=>k<Z.length∨k=Z.length+1) ⟨hat 1 _ _ rfl,by simp,λ k=>Iff.rfl,λ k hk=>aq hk⟩ (hat 2 _ _ rfl) (hat 3 _ _ rfl) ⟨by omega,by omega⟩ (by omega) _ (λ st S L D hS hl hno hJ=> ?_) (λ st V v D ia S hS1 hS2 hVl hac hno hs hv hJ hnD=> ?_) (λ st S D hS hb hle hno hJ=> ?_)
  ·rcases(j3 k).1 hk with z|z
   ·omega
   ·rw[z];exact aL j1
  ·have q1:=(hk _ ((j3 _).2 (.inr rfl))).trans j1
   exact⟨q1,by have:=aL q1;omega,j3,λ k h=>(hk _ ((j3 _).2 (.inl h))).trans (j4 k h)⟩
  ·rw[aq (aL j1)];exact j1
  ·rw[aF];omega
  ·intro k hk
   rw[aq (by omega)];exact j4 k hk
  ·obtain⟨j1,j2,j3,j4⟩:=hJ
   have hs5:=tj j4 j2
   try simp only[go_sem]
   rw[hs5]
   exact Wk.keep [12] [] (by decide) (aE _) hbd (.inl ⟨2,by decide,by simp only[go_sem],by simp only[go_sem,iC,bt],hR1 S hS hl hno⟩)
  ·obtain⟨j1,j2,j3,j4⟩:=hJ
   have hs5:=tj j4 j2
   have hia:Z.length≤ia:=by
    rcases aC ia Z.length with z|z
    ·exact absurd ((j3 ia).2 (.inl z)) hnD
    ·exact z
   have hne:ia≠Z.length+2:=λ z=>by
    rw[z,hs]at hv
    have r3:([.d (aY p.cells),.d (.sl 11 (p.modules.map iH)),.d (.sl 6 (p.locks.map iZ)),.d (.sl 7 (p.threads.map c8)),.d (iD m),.rs ia 7 0 (V.length+1) (some 126)]:List A)=bU ((V++[v]).map jv):=by
     injection hv with hv;injection hv with hv;injection hv
    have r4:=congrArg List.length r3
    rw[fD]at r4
    simp at r4
    omega
   have d1:(st.drop Z.length)[2]? =some (tu p m (.rs (Z.length+(ia - Z.length)) 7 0 (V.length+1) (some 126))):=by rw[bE,show Z.length+(ia - Z.length)=ia by omega];exact hs
   have db:(st.drop Z.length)[ia - Z.length]? =some (lO (V++[v])):=by rw[bE,show Z.length+(ia - Z.length)=ia by omega];exact hv
   obtain⟨l,hl⟩:=(fx hp.ok hS1).back V.length (by rw[hS2];simp)
   rw[hS2]at hl
   try simp only[go_sem]
   generalize st.drop Z.length=l4 at hs5 d1 db
   rw[hs5]
   have n1:((2:Nat)=ia - Z.length)=False:=eq_false (by omega)
   refine Wk.via ((bw.mask [10,11,12]).trans (bw.keep [2,ia - Z.length] ?_ (aE _) hbd)) ?_
   ·simp only[cR,aV,bi,or_false,not_false_eq_true,List.nodup_nil,and_true]
    omega
   simp only[iC,aM,bq,lD,au,d1,db,b9,bJ]
   simp only[go_sem,n1,if_false,bJ,cG]
   exact Wk.mask [10,11,12] (.inr ⟨V,v,S,l,rfl,rfl,hS1,hS2,hVl,hac,hno,hl⟩)
  ·obtain⟨j1,j2,j3,j4⟩:=hJ
   have hs5:=tj j4 j2
   try simp only[go_sem]
   rw[hs5]
   exact Wk.keep [12] [] (by decide) (aE _) hbd (.inl ⟨4,by decide,by simp only[go_sem],by simp only[go_sem,iC,bt],hR3 S hS hb hno⟩)
 rintro fr st (⟨x,hx,rfl,rfl,hRx⟩|⟨V,v,S,l,rfl,rfl,hS1,hS2,hVl,hac,hno,hl⟩)
 ·have z1:(x !=0)=true:=by simp [hx]
  simp only[go_sem,z1]
  exact xd hRx
 have z0:((0:Int)!=0)=false:=rfl
 obtain⟨W,hW⟩:∃W,V++[v]=W:=⟨_,rfl⟩
 have hWl:W.length=V.length+1:=by rw[←hW];simp
 have hll:=back_len (fx hp.ok hS1) (by rw[hS2];exact hl)
 obtain⟨h21,h22⟩:=hR2 V v S l hS1 hS2 hVl hac hno hl
 rw[hW]at hl ⊢
 simp only[go_sem,z0]
 refine aS (λ k fr st=>∃(j:Nat) (l1 l2:List Cho),k=l2.length∧Back W j l2∧l=l1++l2∧fr=D4 %[.o,.o,.ref Z.length 0,dn j,.o,.rs (Z.length+2) 3 0 l1.length (some 37)|D6 (D5 (D4 [.o,.o,.o]))]∧st=Z++[tu p m (.rs (Z.length+1) 7 0 (V.length+1) (some 126)),lO W,jE l1]) l.length _ ?_ ?_
 ·exact⟨_,_,(bw.mask [10,11,13]).trans (bw.empty 13 3 (some 37) rfl),V.length,[],l,rfl,hl,rfl,by rw[aF];rfl,by simp [bU]⟩
 rintro k fr st ⟨j,l1,l2,hk,hbk,hl12,rfl,rfl⟩
 have hj:=hbk.lt
 have hfr:=vis_frm W j hj
 have hch:=vis_cho W j hj
 have hWf:=fD W
 have hcf:=fh l1
 cases hbk with
 |root hk2 hf2=>
  rename_i u
  have e1:W.getD j e8=u:=jA hk2
  rw[e1]at hfr hch
  have z1:decide (u.frm≥0)=false:=by simp;omega
  have z1':decide ((0:Int)≤u.frm)=false:=by simp;omega
  rw[bt]at hl12
  subst hl12
  simp only[go_sem,hfr,z1,z1',ac,ad]
  refine⟨⟨by omega,by omega⟩,by omega,λ q=>dq hbd rfl (h22 (by
   have:(120:Int)<(l.length:Int):=by simpa using q
   omega)),λ q=> ?_⟩
  refine bH (CK l (by omega) (Z.length+2) _ rfl _ (by simp) _ _ ?_)
  have h3:∀a b c x,(Z++[a,b,c]).set (Z.length+2) x=Z++[a,b,x]:=λ a b c x=>by simp [List.set_append]
  rw[h3]
  try simp only[go_sem]
  refine de 2 3 0 (l.reverse.map c7) rfl (kZ _) ?_
  simp only[go_sem,ac,cI,and_self,if_true]
  exact dq hbd rfl (h21 (by
   have:¬(120:Int)<(l.length:Int):=by simpa using q
   omega))
 |step hk2 hf2 hb2=>
  rename_i j2 u l3
  have e1:W.getD j e8=u:=jA hk2
  rw[e1]at hfr hch
  have hl1:l1.length≤l.length:=by rw[hl12,aF];omega
  have z1:decide (u.frm≥0)=true:=by simp;omega
  have z1':decide ((0:Int)≤u.frm)=true:=by simp;omega
  simp only[go_sem,hfr,hch,z1,z1',fC,ac,ad]
  refine⟨⟨by omega,by omega⟩,by omega,⟨by omega,by omega⟩,by omega,⟨hcf,by simp only[maxLen];omega,by omega⟩,⟨by omega,by omega⟩,by omega,?_⟩
  rw[hf2]
  refine Wk.keep [10,11,13] [0,1,4] (by decide) (aE _) hbd ⟨l3.length,by rw[hk,ae];omega,j2,l1++[u.cho],l3,rfl,hb2,by rw[hl12,aU];rfl,by simp only[go_sem,aF,ae,aj],?_⟩
  rw[jE,lc]
  simp only[go_sem,dj,cG]
theorem Fk{G:Glob}(hG:G.g 0=some cB)(hpan:∀a s,¬G.pan a s)(p:Prg)(hp:Good p)(m:Int)(hm:0≤m∧m≤2)(L:List Cho)(hL:fK p m (bS p) L)(hLl:L.length≤120)(Z:St)(R:A→St→Prop)(h:R (.tup [.d (.sl 3 ((iS p m (bS p) L).map bX)),db true]) Z):AC Tryz.prog G 12 [.d (bK p),di m,.d (.sl 3 (L.map c7))] Z R:=by
 have ru:=Run_p hG hpan p hp m hm L hL hLl
 obtain⟨Y,hY⟩:∃Y,iS p m (bS p) L=Y:=⟨_,rfl⟩
 have hYl:Y.length=L.length+1:=by rw[←hY,kV]
 rw[hY]at h ru
 have z0:((0:Int)==0)=true:=rfl
 have z1:((L.length:Int)==(L.length:Int))=true:=by simp
 have w1:IntKind.i64.wrap ((L.length:Int)+1)=((Y.length:Nat):Int):=by rw[cq _ (by omega) (by omega),hYl];omega
 have z2:((Y.length:Int)==(Y.length:Int))=true:=by simp
 unfold bK at*
 refine bM a9 Tryz.func12 rfl Tryz.ntmps12 (by simp only[go_sem]) λ hbd=> ?_
 simp only[ae,aj,Nat.reduceAdd,Nat.reduceSub,af,ag,ah,ak]
 try simp only[go_sem]
 refine bH (ru _ _ ?_)
 simp only[go_sem,z0,z1,w1,z2,ac]
 exact dq hbd rfl h
theorem two_p(op w:Int)(a b:Ex)(Z:St)(G:Glob)(R:A→St→Prop)(h:R (.d (Ex.mk op w 0 [a,b]).d) Z):AC Tryz.prog G 50 [di op,di w,.d a.d,.d b.d] Z R:=by
 rw[Ex.d_eq a,Ex.d_eq b]
 refine bg a9 Tryz.func50 rfl Tryz.ntmps50 (by simp only[go_sem]) λ hbd=> ?_
 simp only[ae,aj,Nat.reduceAdd,Nat.reduceSub,af,ag,ah,ak]
 try simp only[go_sem]
 refine nY (bw.deep [3] 6) ?_
 simp only[go_sem]
 have e:(Ex.mk op w 0 [a,b]).d= .agg [iD op,iD w,iD 0,.sl 4 [.agg [iD a.op,iD a.w,iD a.n,.sl 4 (a.kids.map Ex.d)],.agg [iD b.op,iD b.w,iD b.n,.sl 4 (b.kids.map Ex.d)]]]:=by
  rw[←Ex.d_eq a,←Ex.d_eq b,Ex.d_eq];rfl
 rw[e]at h
 exact dq hbd rfl h
theorem is_p(e:Ex)(h1:e.op≠1)(n w:Int)(Z:St)(G:Glob)(R:A→St→Prop)(h:R (db false) Z):AC Tryz.prog G 123 [.d (eD e),di n,di w] Z R:=by
 have z1:(e.op==1)=false:=by simp [h1]
 unfold eD
 refine bg a9 Tryz.func123 rfl Tryz.ntmps123 (by simp only[go_sem]) λ hbd=> ?_
 simp only[ae,aj,Nat.reduceAdd,Nat.reduceSub,af,ag,ah,ak]
 simp only[go_sem,z1]
 exact aQ hbd h
theorem dEx_at{l:List Ex}{j:Nat}(h:j<l.length):List.getD (l.map Ex.d) j default=eD (l.getD j (.mk 0 0 0 [])):=by
 rw[dQ (d:= .mk 0 0 0 []) h,ed]
structure FoOk (x:Ex):Prop where
 op:x.op≠1
 w:x.w=1
 formed:x.formed=true
 ok:x.Ok
 n:x.nodes≤10
theorem fold_p(op:Int)(L:List Ex)(h1:1≤L.length)(h2:L.length≤20)(hx:∀x∈L,FoOk x)(hF:(k9 op L).formed=true)(hO:(k9 op L).Ok)(Z:St)(G:Glob)(R:A→St→Prop)(h:R (.d (k9 op L).d) Z):AC Tryz.prog G 92 [.d (.sl 4 (L.map Ex.d)),di op,di 1] Z R:=by
 have z0:((1:Int)!=1)=false:=rfl
 have wz:IntKind.i64.wrap ((1:Int) - 1)=0:=by decide
 refine iN [8,10] a9 Tryz.func92 rfl Tryz.ntmps92 (by simp only[go_sem]) λ hbd=> ?_
 simp only[ae,aj,Nat.reduceAdd,Nat.reduceSub,af,ag,ah,ak]
 try simp only[go_sem]
 refine bc (λ fr st=>fr=%[.d (.sl 4 (L.map Ex.d)),di op,di 1,.o,.o,.o,.ref Z.length 0,db false|D7 (D5 (D4 []))]∧st=Z++[some (.cells [di 0,di 0,di 0,.d .nils])]) ?_ ?_
 ·try simp only[go_sem]
  refine aS (λ k fr st=>∃j:Nat,j≤L.length∧k=L.length - j∧fr=%[.d (.sl 4 (L.map Ex.d)),di op,di 1,.o,.o,.o,.ref Z.length 0,db false,dn j|D7 (D5 [.o,.o,.o,.o,.o,.o,.o])]∧∃x,st=Z++[x]∧x=some (.cells [di 0,di 0,di 0,.d .nils])) L.length _ (Wk.mask [0,1,2,6,7,8] ⟨0,by omega,by omega,rfl,_,rfl,rfl⟩) ?_
  rintro k fr st ⟨j,hj,hk,rfl,x,rfl,rfl⟩
  rcases aC j L.length with hlt|hge
  ·have hd:decide ((j:Int)<(L.length:Int))=true:=by simp;omega
   have w2:=bC j (by omega)
   have e1:=dEx_at (l:=L) hlt
   have hX:=hx _ (bv (.mk 0 0 0 []) hlt)
   generalize L.getD j (.mk 0 0 0 [])=X at e1 hX
   obtain⟨x1,x2,x3,x4,x5⟩:=hX
   have fo:=kO X x4
   rw[x3,ed]at fo
   have is:=is_p X x1
   have zw:(X.w !=1)=false:=by simp [x2]
   unfold eD at e1 fo is
   simp only[go_sem,hd,e1,zw,ac,ad]
   refine⟨⟨by omega,by omega⟩,⟨by omega,by omega⟩,gO (.bool true) ⟨λ _=>⟨rfl,bH (fo _ _ _ ?_)⟩,?_⟩⟩
   ·simp only[go_sem]
   simp only[go_sem,e1,wz,ac,ad]
   refine⟨⟨by omega,by omega⟩,gO (.bool false) ⟨λ _=>⟨rfl,bH (is _ _ _ _ _ ?_)⟩,?_⟩⟩
   ·simp only[go_sem]
   simp only[go_sem,w2]
   exact Wk.mask [0,1,2,6,7,8] ⟨L.length - (j+1),by omega,j+1,by omega,rfl,rfl,_,rfl,rfl⟩
  ·have hd:decide ((j:Int)<(L.length:Int))=false:=by simp;omega
   simp only[go_sem,hd,ac]
   exact Wk.mask [0,1,2,6,7] ⟨rfl,rfl⟩
 rintro fr st ⟨rfl,rfl⟩
 refine bc (λ fr st=>fr=%[.d (.sl 4 (L.map Ex.d)),di op,di 1,.o,.o,.o,.ref Z.length 0|D7 (D5 (D4 [.o]))]∧st=Z++[some (.cells [di 0,di 0,di 0,.d .nils])]) ?_ ?_
 ·try simp only[go_sem]
  exact Wk.mask [0,1,2,6] ⟨rfl,rfl⟩
 rintro fr st ⟨rfl,rfl⟩
 try simp only[go_sem]
 refine bH (qw 1 1 _ _ _ ?_)
 rw[ed]
 simp only[eD,go_sem,fC]
 obtain⟨A,hA⟩:∃A:Nat→Ex,A=λ j=>if j=0 then .mk 1 1 1 []else k9 op (L.take j):=⟨_,rfl⟩
 have hA0:A 0= .mk 1 1 1 []:=by rw[hA];rfl
 refine aS (λ k fr st=>∃(j c:Nat),j≤L.length∧k=L.length - j∧c≤j*11∧fr=%[.d (.sl 4 (L.map Ex.d)),di op,di 1,.o,.o,.o,.ref Z.length 0,.o,.o,.ref (Z.length+1) 0,db (decide (j=0)),dn c,dn j|D7 (D5 [.o,.o,.o])]∧st=Z++[some (.cells [di 0,di 0,di 0,.d .nils]),exO (A j)]) L.length _ (Wk.mask [0,1,2,6,9,10,11,12] ⟨0,0,by omega,by omega,by omega,rfl,by rw[hA0]⟩) ?_
 rintro k fr st ⟨j,c,hj,hk,hc,rfl,rfl⟩
 have dc:decide ((c:Int)≤600)=true:=by simp;omega
 rcases aC j L.length with hlt|hge
 ·have hd:decide ((j:Int)<(L.length:Int))=true:=by simp;omega
  have w2:=bC j (by omega)
  have e1:=dEx_at (l:=L) hlt
  have hsn:=bG (.mk 0 0 0 []:Ex) hlt
  have hX:=hx _ (bv (.mk 0 0 0 []) hlt)
  generalize L.getD j (.mk 0 0 0 [])=X at e1 hX hsn
  obtain⟨x1,x2,x3,x4,x5⟩:=hX
  have is:=is_p X x1
  have sz:=w9 X x4 601 (by omega)
  rw[ed,cC (by omega)]at sz
  have wc:IntKind.i64.wrap ((c:Int)+(X.nodes:Int))=((c+X.nodes:Nat):Int):=by rw[cq _ (by omega) (by omega)];omega
  have wc2:IntKind.i64.wrap (((c+X.nodes:Nat):Int)+1)=((c+X.nodes+1:Nat):Int):=by rw[cq _ (by omega) (by omega)];omega
  unfold eD at e1 is sz
  simp only[go_sem,hd,dc,e1,ac,ad]
  refine⟨⟨by omega,by omega⟩,bH (is _ _ _ _ _ ?_)⟩
  simp only[go_sem,e1,ac,ad]
  refine⟨⟨by omega,by omega⟩,bH (sz _ _ _ ?_)⟩
  rcases cv j with hj0|hj0
  ·have z1:decide (j=0)=true:=by simp [hj0]
   have hA1:A (j+1)=X:=by
    rw[hA]
    show(if j+1=0 then _ else _)=_
    rw[if_neg (by omega),hsn,hj0,dV]
    rfl
   have zf:decide (j+1=0)=false:=by simp
   simp only[go_sem,wc,z1,e1,w2,ac]
   refine⟨⟨by omega,by omega⟩,Wk.mask [0,1,2,6,9,10,11,12] ⟨L.length - (j+1),by omega,j+1,c+X.nodes,by omega,rfl,by omega,by rw[zf];rfl,by rw[hA1]⟩⟩
  ·have z1:decide (j=0)=false:=by simp;omega
   have hA1:A (j+1)= .mk op 1 0 [A j,X]:=by
    rw[hA]
    show(if j+1=0 then _ else k9 op (L.take (j+1)))=Ex.mk op 1 0 [if j=0 then _ else k9 op (L.take j),X]
    rw[if_neg (by omega),if_neg (by omega),hsn,Bf]
    intro z
    have:=congrArg List.length z
    rw[aP,aj]at this
    omega
   have zf:decide (j+1=0)=false:=by simp
   have tw:=two_p op 1 (A j) X
   rw[ed,ed,ed,←hA1]at tw
   unfold eD at tw
   simp only[go_sem,wc,z1,e1,w2,fC,ac,ad]
   refine⟨⟨by omega,by omega⟩,bH (tw _ _ _ ?_)⟩
   simp only[go_sem,wc2,w2]
   exact Wk.mask [0,1,2,6,9,10,11,12] ⟨L.length - (j+1),by omega,j+1,c+X.nodes+1,by omega,rfl,by omega,by rw[zf];rfl,rfl⟩
 ·have hd:decide ((j:Int)<(L.length:Int))=false:=by simp;omega
  obtain rfl:j=L.length:=by omega
  have dg:decide ((600:Int)<(c:Int))=false:=by rw[ay];omega
  have hAL:A L.length=k9 op L:=by
   rw[hA]
   show(if L.length=0 then _ else _)=_
   rw[if_neg (by omega),bB]
  have fo:=kO _ hO
  rw[hF,ed]at fo
  rw[ed]at h
  unfold eD at fo h
  rw[hAL]
  simp only[go_sem,hd,dg,fC,ac]
  refine gO (.bool true) ⟨λ _=>⟨rfl,bH (fo _ _ _ ?_)⟩,?_⟩
  ·simp only[go_sem]
  simp only[go_sem,fC]
  exact aQ hbd h
theorem and_p(L:List Ex)(h1:1≤L.length)(h2:L.length≤20)(hx:∀x∈L,FoOk x)(hF:(k9 5 L).formed=true)(hO:(k9 5 L).Ok)(Z:St)(G:Glob)(R:A→St→Prop)(h:R (.d (k9 5 L).d) Z):AC Tryz.prog G 53 [.d (.sl 4 (L.map Ex.d))] Z R:=by
 have fo:=fold_p 5 L h1 h2 hx hF hO
 rw[ed]at h fo
 unfold eD at h fo
 refine bg a9 Tryz.func53 rfl Tryz.ntmps53 (by simp only[go_sem]) λ hbd=> ?_
 simp only[ae,aj,Nat.reduceAdd,Nat.reduceSub,af,ag,ah,ak]
 try simp only[go_sem]
 refine bH (fo _ _ _ ?_)
 simp only[go_sem,fC]
 exact aQ hbd h
theorem PtOk.fo{p:Prg}{x:Ex}(h:PtOk p x):FoOk x where
 op:=h.op
 w:=h.w
 formed:=by rw[Ex.formed,aB];exact⟨by rw[h.n];rfl,Ex.deep_le h.deep (by omega)⟩
 ok:=h.ok
 n:=by rw[h.n];omega
theorem isE_ok{p:Prg}(hp:Good p){mem:List Int}(hm:MemOk p mem):GolOk p (v6 p mem):=by
 obtain⟨h1,h2,h3,h4,h5⟩:=isE_pt hp.sm hp.ok hm
 exact⟨h1,h2,h3,h4,h5⟩
theorem fold_nil(Z:St)(G:Glob)(R:A→St→Prop)(h:R (.d (Ex.mk 1 1 1 []).d) Z):AC Tryz.prog G 92 [.d (.sl 4 []),di 5,di 1] Z R:=by
 have d0:decide ((0:Int)<((0:Nat):Int))=false:=by decide
 have dc:decide ((0:Int)≤600)=true:=by decide
 have dg:decide ((600:Int)<0)=false:=by decide
 refine iN [8,10] a9 Tryz.func92 rfl Tryz.ntmps92 (by simp only[go_sem]) λ hbd=> ?_
 simp only[ae,aj,Nat.reduceAdd,Nat.reduceSub,af,ag,ah,ak]
 try simp only[go_sem]
 refine bc (λ fr st=>fr=%[.d (.sl 4 []),di 5,di 1,.o,.o,.o,.ref Z.length 0,db false|D7 (D5 (D4 []))]∧st=Z++[some (.cells [di 0,di 0,di 0,.d .nils])]) ?_ ?_
 ·try simp only[go_sem]
  refine aS (λ k fr st=>fr=%[.d (.sl 4 []),di 5,di 1,.o,.o,.o,.ref Z.length 0,db false,di 0|D7 (D5 [.o,.o,.o,.o,.o,.o,.o])]∧∃x,st=Z++[x]∧x=some (.cells [di 0,di 0,di 0,.d .nils])) 0 _ (Wk.mask [0,1,2,6,7,8] ⟨rfl,_,rfl,rfl⟩) ?_
  rintro k fr st ⟨rfl,x,rfl,rfl⟩
  simp only[go_sem,aj,d0]
  exact Wk.mask [0,1,2,6,7] ⟨rfl,rfl⟩
 rintro fr st ⟨rfl,rfl⟩
 refine bc (λ fr st=>fr=%[.d (.sl 4 []),di 5,di 1,.o,.o,.o,.ref Z.length 0|D7 (D5 (D4 [.o]))]∧st=Z++[some (.cells [di 0,di 0,di 0,.d .nils])]) ?_ ?_
 ·try simp only[go_sem]
  exact Wk.mask [0,1,2,6] ⟨rfl,rfl⟩
 rintro fr st ⟨rfl,rfl⟩
 try simp only[go_sem]
 refine bH (qw 1 1 _ _ _ ?_)
 rw[ed]
 simp only[eD,Ex.op,Ex.w,Ex.n,Ex.kids,bq,go_sem,fC]
 refine aS (λ k fr st=>fr=%[.d (.sl 4 []),di 5,di 1,.o,.o,.o,.ref Z.length 0,.o,.o,.ref (Z.length+1) 0,db true,di 0,di 0|D7 (D5 [.o,.o,.o])]∧st=Z++[some (.cells [di 0,di 0,di 0,.d .nils]),some (.cells [di 1,di 1,di 1,.d (.sl 4 [])])]) 0 _ (Wk.mask [0,1,2,6,9,10,11,12] ⟨rfl,rfl⟩) ?_
 rintro k fr st ⟨rfl,rfl⟩
 have hO:(Ex.mk 1 1 1 []).Ok:= .mk (by simp [reachBytes,Ex.kids]) (λ k hk=>by simp [Ex.kids]at hk)
 have fo:=kO _ hO
 rw[show(Ex.mk 1 1 1 []).formed=true by decide,ed]at fo
 rw[ed]at h
 simp only[eD,Ex.op,Ex.w,Ex.n,Ex.kids,bq]at fo h
 simp only[go_sem,aj,d0,dc,dg,fC]
 refine gO (.bool true) ⟨λ _=>⟨rfl,bH (fo _ _ _ ?_)⟩,?_⟩
 ·simp only[go_sem]
 simp only[go_sem,fC]
 exact aQ hbd h
theorem and_nil(Z:St)(G:Glob)(R:A→St→Prop)(h:R (.d (Ex.mk 1 1 1 []).d) Z):AC Tryz.prog G 53 [.d (.sl 4 [])] Z R:=by
 have fo:=fold_nil
 rw[ed]at h fo
 simp only[eD,Ex.op,Ex.w,Ex.n,Ex.kids,bq]at h fo
 refine bg a9 Tryz.func53 rfl Tryz.ntmps53 (by simp only[go_sem]) λ hbd=> ?_
 simp only[ae,aj,Nat.reduceAdd,Nat.reduceSub,af,ag,ah,ak]
 try simp only[go_sem]
 refine bH (fo _ _ _ ?_)
 simp only[go_sem,fC]
 exact aQ hbd h
theorem r7Is_p(p:Prg)(hp:Good p)(mem:List Int)(hm:MemOk p mem)(Z:St)(G:Glob)(R:A→St→Prop)(h:R (.d (v6 p mem).d) Z):AC Tryz.prog G 23 [.d (bK p),.d (bu mem)] Z R:=by
 have hml:=hm.len
 have hnc:=hp.sm.ncel
 unfold bK
 refine bD [6] a9 Tryz.func23 rfl Tryz.ntmps23 (by simp only[go_sem]) λ hbd=> ?_
 simp only[ae,aj,Nat.reduceAdd,Nat.reduceSub,af,ag,ah,ak]
 try simp only[go_sem]
 refine bc (λ fr st=>fr=%[.o,.o,.o,.o,.ref (Z.length+1) 0,.d (.sl 4 ((xW p mem p.cells.length).map Ex.d))|D6 [.o,.o,.o,.o,.o,.o,.o]]∧∃x,st=Z++[x,some (.cells [di 0,di 0,di 0,.d .nils])]) ?_ ?_
 ·try simp only[go_sem]
  refine aS (λ k fr st=>∃j:Nat,j≤p.cells.length∧k=p.cells.length - j∧fr=%[.o,.d (bu mem),.ref Z.length 0,.o,.ref (Z.length+1) 0,.rs (Z.length+2) 4 0 j (some 64),dn j|D6 [.o,.o,.o,.o,.o,.o]]∧st=Z++[some (.cells [.d (aY p.cells),.d (.sl 11 (p.modules.map iH)),.d (.sl 6 (p.locks.map iZ)),.d (.sl 7 (p.threads.map c8))]),some (.cells [di 0,di 0,di 0,.d .nils]),some (.cells (bU ((xW p mem j).map Ex.d)))]) p.cells.length _ ?_ ?_
  ·refine Wk.via ((bw.mask [1,2,4,5,6]).trans (bw.empty 5 4 (some 64) rfl)) ?_
   simp only[go_sem,aF,ae,aj,Nat.reduceAdd,aU,ah,ak,ff,fQ]
   exact Wk.mask [1,2,4,5,6] ⟨0,by omega,by omega,rfl,rfl⟩
  rintro k fr st ⟨j,hj,hk,rfl,rfl⟩
  have hfl:=xC (xW p mem j)
  rw[sM]at hfl
  rcases aC j p.cells.length with hlt|hge
  ·have hd:decide ((j:Int)<(p.cells.length:Int))=true:=by simp;omega
   have hd2:decide ((j:Int)<(mem.length:Int))=true:=by simp;omega
   have w2:=bC j (by omega)
   have e1:List.getD (p.cells.map fb) j default=fb (p.cells.getD j fU):=dQ hlt
   have e2:=bW (l:=mem) (j:=j) (by omega)
   have ce:=Cv (j:Int) (p.cells.getD j fU).w
   have co:=qw (mem.getD j 0) (p.cells.getD j fU).w
   have tw:=two_p 11 1 (.mk 2 (p.cells.getD j fU).w j []) (.mk 1 (p.cells.getD j fU).w (mem.getD j 0) [])
   have hsn:=Fy (xW p mem j) (uS p mem j)
   rw[←isL_succ]at hsn
   have heq:Ex.mk 11 1 0 [.mk 2 (p.cells.getD j fU).w j [],.mk 1 (p.cells.getD j fU).w (mem.getD j 0) []]=uS p mem j:=rfl
   rw[heq]at tw
   generalize uS p mem j=q at tw hsn
   generalize p.cells.getD j fU=c at e1 ce co tw
   generalize mem.getD j 0=v at e2 co tw
   have k1:eD (.mk 2 c.w j [])= .agg [iD 2,iD c.w,iD j,.sl 4 []]:=rfl
   have k2:eD (.mk 1 c.w v [])= .agg [iD 1,iD c.w,iD v,.sl 4 []]:=rfl
   simp only[ed,k1,k2]at ce co tw
   simp only[aY,bu,go_sem,hd,hd2,e1,e2,fb,ac,ad]
   refine bb (.tk 8 0<| .tk 2 9<| .take 15<| .pure 8<| .tk 4 11<| .tk 3 16<| .pure 19<| .tk 4 20<| .done) (by kernel_rfl) ?_
   simp only[aY,bu,go_sem,hd,hd2,e1,e2,fb,ac,ad]
   refine⟨⟨by omega,by omega⟩,mN (.d (.agg [iD 2,iD c.w,iD j,.sl 4 []])) ⟨λ Z'=>bH (ce _ _ _ ⟨rfl,rfl⟩),?_⟩⟩
   simp only[aY,bu,go_sem,hd,hd2,e1,e2,fb,ac,ad]
   refine⟨⟨by omega,by omega⟩,⟨by omega,by omega⟩,mN (.d (.agg [iD 1,iD c.w,iD v,.sl 4 []])) ⟨λ Z'=>bH (co _ _ _ ⟨rfl,rfl⟩),?_⟩⟩
   simp only[aY,bu,go_sem,hd,hd2,e1,e2,fb,ac,ad]
   refine bH (tw _ _ _ ?_)
   simp only[eD,go_sem,w2,hfl,fC]
   refine⟨⟨by simp only[maxLen];omega,by omega⟩,Wk.keep [1,2,4,5,6] [0,1,4] (by decide) (aE _) hbd ⟨p.cells.length - (j+1),by omega,j+1,by omega,rfl,by simp only[go_sem],?_⟩⟩
   rw[hsn]
   simp only[go_sem,dj,cG,aY]
  ·have hd:decide ((j:Int)<(p.cells.length:Int))=false:=by simp;omega
   obtain rfl:j=p.cells.length:=by omega
   simp only[aY,go_sem,hd,ac]
   refine Wk.frz 2 4 0 ((xW p mem p.cells.length).map Ex.d) rfl (Fv _) ?_
   simp only[go_sem,ac,sM]
   exact Wk.keep [4,5] [0,1] (by decide) (aE _) hbd ⟨by simp only[go_sem],some (.cells [.d (.sl 6 (p.cells.map fb)),.d (.sl 11 (p.modules.map iH)),.d (.sl 6 (p.locks.map iZ)),.d (.sl 7 (p.threads.map c8))]),by simp only[go_sem]⟩
 rintro fr st ⟨rfl,x,rfl⟩
 try simp only[go_sem]
 rcases cv p.cells.length with h0|h0
 ·have e0:v6 p mem= .mk 1 1 1 []:=by rw[v6,if_pos h0]
  have an:=and_nil
  rw[e0,ed]at h
  rw[ed]at an
  rw[h0]
  have e1:xW p mem 0=[]:=rfl
  rw[e1,bq]
  refine bH (an _ _ _ ?_)
  have k1:eD (.mk 1 1 1 [])= .agg [iD 1,iD 1,iD 1,.sl 4 []]:=rfl
  rw[k1]at h ⊢
  simp only[go_sem,fC]
  exact aQ hbd h
 ·have e0:v6 p mem=k9 5 (xW p mem p.cells.length):=by rw[v6,if_neg (by omega)]
  obtain⟨o1,o2,o3,o4,o5⟩:=isE_pt hp.sm hp.ok hm
  have an:=and_p (xW p mem p.cells.length) (by rw[sM];omega) (by rw[sM];omega) (λ x hx=>by
   obtain⟨i,hi,rfl⟩:=isL_mem hx
   exact(Bo hp.sm hp.ok hm hi).fo) (by rw[←e0,Ex.formed,o3,dJ];exact dU o2) (by rw[←e0];exact o1)
  rw[←e0]at an
  generalize v6 p mem=q at an h
  rw[ed]at an h
  refine bH (an _ _ _ ?_)
  unfold eD at h ⊢
  simp only[go_sem,fC]
  exact aQ hbd h
theorem GM{e k:Ex}(h:k∈e.kids):k.nodes<e.nodes:=by
 rw[Ex.nodes_eq e]
 have:∀(l:List Ex),k∈l→k.nodes≤(l.map Ex.nodes).sum:=by
  intro l
  induction l with
  |nil=>intro h;cases h
  |cons a l ih=>
   intro h
   simp only[aM,Ey]
   rcases aV.1 h with rfl|h
   ·omega
   ·have:=ih h;omega
 have:=this _ h
 omega
theorem moved_n(to:List Int)(ht:to.length≤1000)(l:Nat):∀(e:Ex) (hok:e.Ok) (hd:e.nodes≤l∧e.nodes≤1000) (Z:St) (G:Glob) (R:A→St→Prop) (h:R (.d (eD (e.ren to))) Z),AC Tryz.prog G 31 [.d (eD e),.d (bu to)] Z R:=by
 induction l with
 |zero=>intro e hok hd;rw[Ex.nodes_eq]at hd;omega
 |succ l ih=>
  intro e hok hdp Z G R h
  obtain⟨hk,hks⟩:=hok
  have hkd:∀k∈e.kids,k.nodes≤l∧k.nodes≤1000:=λ k hk=>by have:=GM hk;omega
  have hkl:e.kids.length≤1000:=by have:=xx e;omega
  have h1:=ht
  unfold eD
  refine bD [3,9] a9 Tryz.func31 rfl Tryz.ntmps31 (by simp only[go_sem]) λ hbd=> ?_
  simp only[ae,aj,Nat.reduceAdd,Nat.reduceSub,af,ag,ah,ak]
  try simp only[go_sem]
  refine bc (λ fr st=>fr=%[.o,.d (bu to),.ref Z.length 0,.o,.ref (Z.length+1) 0|D6 (D5 [.o])]∧st=Z++[exA e.op e.w (e.ren to).n (e.kids.map Ex.d),some (.cells [.d (iD 0),.d (iD 0),.d (iD 0),.d .nils])]) ?_ ?_
  ·simp only[go_sem,bu,ac]
   refine⟨λ q=> ?_,λ q=> ?_⟩
   ·simp only[aB,cd,cg,av]at q
    have et:=bW (l:=to) (j:=e.n.toNat) (by omega)
    have hn:(e.ren to).n=to.getD e.n.toNat 0:=by rw[E6,if_pos q.1.1,mv,if_pos ⟨q.1.2,q.2⟩]
    simp only[go_sem,et,hn]
    exact⟨⟨by omega,by omega⟩,Wk.mask [1,2,4] ⟨rfl,rfl⟩⟩
   ·have hn:(e.ren to).n=e.n:=by
     rw[E6]
     split
     ·rename_i z
      rw[mv,if_neg]
      intro z2
      rw[fw]at q
      apply q
      simp only[aB,cd,cg,av]
      exact⟨⟨z,z2.1⟩,z2.2⟩
     ·rfl
    simp only[hn]
    exact Wk.mask [1,2,4] ⟨rfl,rfl⟩
  rintro fr st ⟨rfl,rfl⟩
  simp only[go_sem,bu,ac]
  refine bc (λ fr st=>fr=%[.o,.o,.ref Z.length 0,.o,.ref (Z.length+1) 0|D6 (D5 [.o])]∧st=Z++[some (.cells [.d (iD e.op),.d (iD e.w),.d (iD (e.ren to).n),.d (.sl 4 ((e.ren to).kids.map Ex.d))]),some (.cells [.d (iD 0),.d (iD 0),.d (iD 0),.d .nils])]) ?_ ?_
  simp only[go_sem,bu,ac]
  refine aS (λ k fr st=>∃j:Nat,j≤e.kids.length∧k=e.kids.length - j∧fr=%[.o,.d (bu to),.ref Z.length 0,.o,.ref (Z.length+1) 0,.d (.sl 4 (e.kids.map Ex.d)),dn j|D6 (D4 [.o,.o,.o,.o,.o,.o,.o])]∧st=Z++[some (.cells [.d (iD e.op),.d (iD e.w),.d (iD (e.ren to).n),.rs (Z.length+2) 4 0 j (some 64)]),some (.cells [.d (iD 0),.d (iD 0),.d (iD 0),.d .nils]),some (.cells (bU (((e.ren to).kids.take j).map Ex.d)))]) e.kids.length _ ?_ ?_
  ·refine Wk.via (bw.emptyIn (Z:=Z) 0 3 4 (some 64) rfl rfl) ?_
   exact Wk.mask [1,2,4,5,6] ⟨0,by omega,by omega,rfl,by simp [bU]⟩
  rintro k fr st ⟨j,hj,hk2,rfl,rfl⟩
  have hrl:(e.ren to).kids.length=e.kids.length:=by rw[ED,ac]
  rcases aC j e.kids.length with hlt|hge
  ·have hdd:decide ((j:Int)<(e.kids.length:Int))=true:=by simp;omega
   have w2:=bC j (by omega)
   obtain⟨k,hkk⟩:∃k,e.kids.getD j (.mk 0 0 0 [])=k:=⟨_,rfl⟩
   have hmem:k∈e.kids:=hkk▸mK hlt
   have e1:=pu hlt hkk
   have ihk:=ih k (hks k hmem) (hkd k hmem)
   have hfl:=xC ((e.ren to).kids.take j)
   have hsn:(e.ren to).kids.take (j+1)=(e.ren to).kids.take j++[k.ren to]:=by
    rw[bG (.mk 0 0 0 []) (by omega)]
    congr 2
    rw[ED,←hkk]
    simp only[au,aN,ap hlt];rfl
   unfold eD at ihk
   simp only[go_sem,bu,hdd,ac]
   refine bb (.tk 5 2<| .pure 7<| .tk 2 0<| .tk 4 8<| .done) (by kernel_rfl) ?_
   simp only[go_sem,bu,e1,ac,ad]
   refine⟨⟨by omega,by omega⟩,mN (.d (eD (k.ren to))) ⟨λ Z'=>bH (ihk _ _ _ ⟨rfl,rfl⟩),?_⟩⟩
   simp only[go_sem,eD,w2]
   refine⟨⟨hfl.trans (by rw[aP];omega),by simp only[maxLen];omega,by omega⟩,Wk.keep [1,2,4,5,6] [0,1,4] (by decide) (aE _) hbd ⟨e.kids.length - (j+1),by omega,j+1,by omega,rfl,by simp only[go_sem],?_⟩⟩
   rw[hsn,Fy]
   simp only[go_sem,dj,cG]
  ·have hdd:decide ((j:Int)<(e.kids.length:Int))=false:=by simp;omega
   rw[aK (by omega)]
   simp only[go_sem,bu,hdd,ac]
   refine Wk.via (bw.freezeIn (Z:=Z) 2 0 4 0 ((e.ren to).kids.map Ex.d) rfl (Fv _) rfl (by decide)) ?_
   simp only[go_sem,ac]
   rw[if_pos (by omega)]
   exact Wk.keep [2,4] [0,1] (by decide) (aE _) hbd ⟨by simp only[go_sem],by simp only[go_sem]⟩
  rintro fr st ⟨rfl,rfl⟩
  try simp only[go_sem]
  have e1:eD (e.ren to)= .agg [iD e.op,iD e.w,iD (e.ren to).n,.sl 4 ((e.ren to).kids.map Ex.d)]:=by rw[eD,ER,E5]
  rw[e1]at h
  exact aQ hbd h
theorem moved40{to:List Int}(ht:to.length≤1000){e:Ex}(hn:e.nodes≤40)(Z:St)(G:Glob)(R:A→St→Prop)(h:R (.d (eD (e.ren to))) Z):AC Tryz.prog G 31 [.d (eD e),.d (bu to)] Z R:=
 moved_n to ht 40 e (lF hn) ⟨hn,by omega⟩ Z G R h
theorem ud(l:List Asg):mQ (bU (l.map dM)) 5 0 (l.map dM):=lx λ x hx=>by
 obtain⟨a,-,rfl⟩:=aI.1 hx
 refine⟨rfl,λ y hy=> ?_⟩
 simp only[dM,D.cells,aV,bi,or_false]at hy
 rcases hy with rfl|rfl|rfl|rfl|rfl<;> rfl
theorem Ga(l:List Thr):mQ (bU (l.map c8)) 7 0 (l.map c8):=lx λ x hx=>by
 obtain⟨a,-,rfl⟩:=aI.1 hx
 refine⟨rfl,λ y hy=> ?_⟩
 simp only[c8,D.cells,aV,bi,or_false]at hy
 rcases hy with rfl|rfl|rfl|rfl|rfl|rfl|rfl<;> rfl
theorem lies_stp(l:List Stp):mQ (bU (l.map eP)) 11 0 (l.map eP):=lx λ x hx=>by
 obtain⟨a,-,rfl⟩:=aI.1 hx
 refine⟨rfl,λ y hy=> ?_⟩
 simp only[eP,D.cells,aV,bi,or_false]at hy
 rcases hy with rfl|rfl|rfl|rfl|rfl|rfl|rfl|rfl|rfl|rfl|rfl<;> rfl
theorem lies_lop(l:List Lop):mQ (bU (l.map pt)) 6 0 (l.map pt):=lx λ x hx=>by
 obtain⟨a,-,rfl⟩:=aI.1 hx
 refine⟨rfl,λ y hy=> ?_⟩
 simp only[pt,D.cells,aV,bi,or_false]at hy
 rcases hy with rfl|rfl|rfl|rfl|rfl|rfl<;> rfl
theorem lies_lck(l:List Lck):mQ (bU (l.map iZ)) 6 0 (l.map iZ):=lx λ x hx=>by
 obtain⟨a,-,rfl⟩:=aI.1 hx
 refine⟨rfl,λ y hy=> ?_⟩
 simp only[iZ,D.cells,aV,bi,or_false]at hy
 rcases hy with rfl|rfl|rfl|rfl|rfl|rfl<;> rfl
theorem lies_ctr(l:List Ctr):mQ (bU (l.map iH)) 11 0 (l.map iH):=lx λ x hx=>by
 obtain⟨a,-,rfl⟩:=aI.1 hx
 refine⟨rfl,λ y hy=> ?_⟩
 simp only[iH,D.cells,aV,bi,or_false]at hy
 rcases hy with rfl|rfl|rfl|rfl|rfl|rfl|rfl|rfl|rfl|rfl|rfl<;> rfl
theorem lies_cel(l:List Cel):mQ (bU (l.map fb)) 6 0 (l.map fb):=lx λ x hx=>by
 obtain⟨a,-,rfl⟩:=aI.1 hx
 refine⟨rfl,λ y hy=> ?_⟩
 simp only[fb,D.cells,aV,bi,or_false]at hy
 rcases hy with rfl|rfl|rfl|rfl|rfl|rfl<;> rfl
theorem ES{α:Type}(f:α→D)(n:Nat)(hf:∀x,(f x).cells.length=n)(l:List α):(bU (l.map f)).length=l.length*n:=by
 have:=mg (sz:=n) (xs:=l.map f) λ x hx=>by
  obtain⟨d,-,rfl⟩:=aI.1 hx
  exact hf d
 simpa using this
theorem Fi{α:Type}(f:α→D)(n:Nat)(hf:∀x,(f x).cells.length=n):∀(l:List α) (k:Nat) (x:α),k<l.length→(bU (l.map f)).take (k*n)++((f x).cells.map A.d++(bU (l.map f)).drop (k*n+n))=bU ((l.set k x).map f)
 |[],k,x,h=>by simp at h
 |a::l,0,x,_=>by
  have e:bU ((a::l).map f)=(f a).cells.map A.d++bU (l.map f):=rfl
  have e2:bU (((a::l).set 0 x).map f)=(f x).cells.map A.d++bU (l.map f):=rfl
  rw[e,e2,Nat.zero_mul,ci,dV,ak,Ez (by rw[ac];exact hf a)]
 |a::l,k+1,x,h=>by
  have e:bU ((a::l).map f)=(f a).cells.map A.d++bU (l.map f):=rfl
  have e2:bU (((a::l).set (k+1) x).map f)=(f a).cells.map A.d++bU ((l.set k x).map f):=rfl
  have hl:((f a).cells.map A.d).length=n:=by rw[ac];exact hf a
  have ih:=Fi f n hf l k x (by simpa using h)
  rw[e,e2,←ih,show(k+1)*n=((f a).cells.map A.d).length+k*n by rw[hl,Nat.succ_mul];omega,List.take_length_add_append,cf,List.drop_length_add_append,aU]
def lE:Ex:= .mk 1 1 1 []
def gC(t:Int):Stp:=⟨3,0,1,lE,[⟨t,lE⟩],false,0,0⟩
def jB(t:Int):Stp:=⟨2,1,2,lE,[⟨2+t,.mk 2 1 (1 - t) []⟩],false,0,0⟩
def iu(t:Int)(name:UInt8):Thr:=⟨[name],3,[lE,lE,lE],[0,0,0],[gC t,jB t],[],false⟩
def gN:Prg:=
  ⟨[⟨[77,46,120],1,0,-1,false,0⟩,⟨[77,46,121],1,0,-1,false,0⟩,⟨[116,58,114],1,1,0,false,0⟩,⟨[117,58,115],1,1,1,false,0⟩],
   [⟨[77],[65,110,110],lE,lE,[0,1]⟩],[],[iu 0 116,iu 1 117]⟩
def qv:List Int:=[1,1,0,0]
def xY:Ex:=v6 gN qv
def bgo(p:Prg)(m:Int):Nat→BS→Option BS
  |0,_=>none
  |n+1,S=>match eX p m S with
    |none=>some S
    |some T=>bgo p m n T
theorem wD{p:Prg}{m:Int}:∀{n:Nat} {S T:BS},bgo p m n S=some T→Steps p m S T∧eX p m T=none
  |0,S,T,h=>by simp [bgo]at h
  |n+1,S,T,h=>by
    rw[bgo]at h
    split at h
    · rename_i hb
      cases h
      exact⟨.refl,hb⟩
    · rename_i ρ hb
      obtain⟨h1,h2⟩:=wD h
      exact⟨(Steps.tail .refl hb).trans h1,h2⟩
def bto(p:Prg)(m:Int)(acc:Cfg→Bool):Nat→BS→Option BS
  |0,_=>none
  |n+1,S=>match eX p m S with
    |none=>none
    |some T=>if S.V.length<T.V.length∧acc (T.V.getLastD e8).cfg=true then some T else bto p m acc n T
theorem wC{p:Prg}{m:Int}{acc:Cfg→Bool}:∀{n:Nat} {S T:BS},bto p m acc n S=some T→Steps p m S T
  |0,S,T,h=>by simp [bto]at h
  |n+1,S,T,h=>by
    rw[bto]at h
    split at h
    · cases h
    · rename_i ρ hb
      split at h
      · cases h;exact Steps.tail .refl hb
      · exact(Steps.tail .refl hb).trans (wC h)
def wF(V:List Vis):Nat→Nat→Option (List Cho)
  |0,_=>none
  |n+1,k=>match V[k]? with
    |none=>none
    |some v=>if v.frm<0 then some []else(wF V n v.frm.toNat).map (v.cho:: ·)
theorem uN{V:List Vis}:∀{n k:Nat} {l:List Cho},wF V n k=some l→Back V k l
  |0,k,l,h=>by simp [wF]at h
  |n+1,k,l,h=>by
    rw[wF]at h
    split at h
    · cases h
    · rename_i v hv
      split at h
      · rename_i hf
        cases h
        exact .root hv hf
      · rename_i hf
        cases hb:wF V n v.frm.toNat with
        |none=>rw[hb]at h;cases h
        |some r=>
          rw[hb]at h
          cases h
          exact .step hv (by omega) (uN hb)
def crSC:Bool:=match bgo gN 0 400 (kP gN 0)with
  |some S=>S.V.all (λ u=> !kn xY u.cfg)&&decide (S.V.length≤600)
  |none=>false
theorem DG:crSC=true:=by decide+kernel
def crTSO:Bool:=match bto gN 1 (kn xY) 2000 (kP gN 1)with
  |some S=>decide (S.V.length≤600)&&(S.V.dropLast.all λ u=> !kn xY u.cfg)&&kn xY (S.V.getLastD e8).cfg&&(match wF S.V 100 (S.V.length - 1)with
    |some l=>l.length==6&&fO ((iS gN 1 (bS gN) l.reverse).getD 6 jm)&& !fO ((iS gN 1 (bS gN) l.reverse).getD 4 jm)
    |none=>false)
  |none=>false
theorem Bt:crTSO=true:=by decide+kernel
theorem vW{p:Prg}{m:Int}{S T:BS}(hS:Steps p m (kP p m) S)(hT:Steps p m (kP p m) T)(hb:eX p m T=none):∃W,T.V=S.V++W:=by
  rcases Steps.linear hS hT with h|h
  · exact Steps.grow h
  · have:=Steps.last h hb
    subst this
    exact⟨[],by simp⟩
theorem cr_sc{S:BS}(hS:Steps gN 0 (kP gN 0) S):S.V.length≤600∧∀u∈S.V,kn xY u.cfg=false:=by
  have h:=DG
  unfold crSC at h
  split at h
  · rename_i T hT
    rw[aB,aZ,av]at h
    obtain⟨h1,h2⟩:=wD hT
    obtain⟨W,hW⟩:=vW hS h1 h2
    rw[hW]at h
    refine⟨by have:=h.2;rw[aF]at this;omega,λ u hu=> ?_⟩
    simpa using h.1 u (cV _ hu)
  · cases h
theorem Bs:∃(T:BS) (V:List Vis) (v:Vis) (l:List Cho),Steps gN 1 (kP gN 1) T∧T.V=V++[v]∧T.V.length≤600∧(∀u∈V,kn xY u.cfg=false)∧kn xY v.cfg=true∧Back (V++[v]) V.length l∧l.length=6∧fO ((iS gN 1 (bS gN) l.reverse).getD 6 jm)=true∧fO ((iS gN 1 (bS gN) l.reverse).getD 4 jm)=false:=by
  have h:=Bt
  unfold crTSO at h
  split at h
  · rename_i T hT
    simp only[aB]at h
    obtain⟨⟨⟨h1,h2⟩,h3⟩,h4⟩:=h
    split at h4
    · rename_i l hl
      simp only[aB,bQ]at h4
      obtain⟨⟨h5,h6⟩,h7⟩:=h4
      have hne:T.V≠[]:=λ z=>by rw[z]at h3;exact absurd h3 (by decide)
      have e:T.V=T.V.dropLast++[T.V.getLastD e8]:=by
        rw[List.getLastD_eq_getLast?,List.getLast?_eq_some_getLast hne,b9]
        exact(List.dropLast_concat_getLast hne).symm
      have hb:=uN hl
      have hdl:T.V.dropLast.length=T.V.length - 1:=List.length_dropLast
      refine⟨T,T.V.dropLast,T.V.getLastD e8,l,wC hT,e,of_decide_eq_true h1,λ u hu=> ?_,h3,by rw[←e,hdl];exact hb,by simpa using h5,h6,h7⟩
      have:=aZ.1 h2 u hu
      simpa using this
    · cases h4
  · cases h
theorem ul{V W X:List Vis}{v w:Vis}{acc:Cfg→Bool}(h:(V++[v])++X=W++[w])(h1:acc v.cfg=true)(h2:∀u∈W,acc u.cfg=false):V=W∧v=w∧X=[]:=by
  rcases List.eq_nil_or_concat X with rfl|⟨Y,y,rfl⟩
  · rw[bt]at h
    have h3:=List.append_inj' h rfl
    exact⟨h3.1,by simpa using h3.2,rfl⟩
  · exfalso
    rw[List.concat_eq_append,←aU]at h
    have h3:=(List.append_inj' h rfl).1
    have:v∈W:=by rw[←h3];simp
    rw[h2 v this]at h1
    cases h1
theorem cr_find1{V:List Vis}{v:Vis}{S:BS}{l:List Cho}(hS:Steps gN 1 (kP gN 1) S)(hV:S.V=V++[v])(hac:kn xY v.cfg=true)(hno:∀u∈V,kn xY u.cfg=false)(hb:Back (V++[v]) V.length l):
    l.length=6∧fO ((iS gN 1 (bS gN) l.reverse).getD 6 jm)=true∧fO ((iS gN 1 (bS gN) l.reverse).getD 4 jm)=false:=by
  obtain⟨T,W,w,k,t1,t2,t3,t4,t5,t6,t7,t8,t9⟩:=Bs
  have hVW:V=W∧v=w:=by
    rcases Steps.linear hS t1 with h|h
    · obtain⟨X,hX⟩:=Steps.grow h
      rw[t2,hV]at hX
      obtain⟨a,b,_⟩:=ul hX.symm hac t4
      exact⟨a,b⟩
    · obtain⟨X,hX⟩:=Steps.grow h
      rw[t2,hV]at hX
      obtain⟨a,b,_⟩:=ul hX.symm t5 hno
      exact⟨a.symm,b.symm⟩
  obtain⟨rfl,rfl⟩:=hVW
  have:l=k:=Back.uniq hb t6
  subst this
  exact⟨t7,t8,t9⟩
theorem cr_lim1{S:BS}(hS:Steps gN 1 (kP gN 1) S)(hl:S.V.length=601)(hno:∀u∈S.V.take 600,kn xY u.cfg=false):False:=by
  obtain⟨T,W,w,k,t1,t2,t3,t4,t5,t6,t7,t8,t9⟩:=Bs
  rcases Steps.linear hS t1 with h|h
  · obtain⟨X,hX⟩:=Steps.grow h
    rw[hX,aF]at t3
    omega
  · obtain⟨X,hX⟩:=Steps.grow h
    have hw:w∈S.V.take 600:=by
      have hlen:T.V.length≤600:=t3
      rw[hX,List.take_append,aK hlen,t2]
      simp
    rw[hno w hw]at t5
    cases t5
theorem cr_end1{S:BS}(hS:Steps gN 1 (kP gN 1) S)(hb:eX gN 1 S=none)(hno:∀u∈S.V,kn xY u.cfg=false):False:=by
  obtain⟨T,W,w,k,t1,t2,t3,t4,t5,t6,t7,t8,t9⟩:=Bs
  obtain⟨X,hX⟩:=vW t1 hS hb
  have hw:w∈S.V:=by rw[hX,t2];simp
  rw[hno w hw]at t5
  cases t5
theorem DF(t:Int)(n:UInt8):ThrSm (iu t n) where
 points:=by simp [iu]
 nas:=by simp [iu]
 nmo:=by simp [iu]
 nst:=by show 2≤10;omega
 nlo:=by simp [iu]
 asserts e he:=by
  simp only[iu,aV,bi,or_false,or_self]at he
  rw[he];decide
 loops l hl:=by simp [iu]at hl
 steps s hs:=by
  simp only[iu,aV,bi,or_false]at hs
  rcases hs with rfl|rfl
  ·exact⟨by show lE.nodes≤40;decide,by show 1≤4;omega,λ a ha=>by
    simp only[gC,aV,bi,or_false]at ha
    rw[ha];show lE.nodes≤40;decide⟩
  ·exact⟨by show lE.nodes≤40;decide,by show 1≤4;omega,λ a ha=>by
    simp only[jB,aV,bi,or_false]at ha
    rw[ha]
    simp [Ex.nodes,Ex.nodesL]⟩
theorem DH:gN.Small where
 ncel:=by decide
 nmod:=by decide
 nlck:=by decide
 nthr:=by decide
 modules m hm:=by
  simp only[gN,aV,bi,or_false]at hm
  rw[hm];decide
 locks l hl:=by simp [gN]at hl
 threads x hx:=by
  simp only[gN,aV,bi,or_false]at hx
  rcases hx with rfl|rfl<;> exact DF _ _
theorem qX(p:Prg)(pair:Bool)(f:Int→Bool):p.truB lE pair f=true:=by
 simp [Prg.truB,lE,Ex.w,Ex.valid,Ex.formed,Ex.nodes,Ex.nodesL,Ex.deep,Ex.fits,Ex.arity,Ex.op,Ex.n,Ex.kids,Ex.over,qc,Ex.overN,Ex.allB,wI]
theorem pm(c:List Cel)(pair:Bool):lE.valid c pair=true:=by
 simp [lE,Ex.w,Ex.valid,Ex.formed,Ex.nodes,Ex.nodesL,Ex.deep,Ex.fits,Ex.arity,Ex.op,Ex.n,Ex.kids,Ex.over,qc,Ex.overN]
theorem tS(f:Int→Bool):lE.allB f=true:=by simp [lE,Ex.allB,wI]
theorem wo(t:Int)(n:UInt8)(ht:(t=0∧n=116)∨(t=1∧n=117)):ThrOk gN t (iu t n) where
 name:=by rcases ht with⟨rfl,rfl⟩|⟨rfl,rfl⟩<;> decide
 points:=by simp [iu]
 nas:=by simp [iu]
 nmo:=by simp [iu]
 mods m hm:=by
  simp only[iu,aV,bi,or_false,or_self]at hm
  rw[hm];decide
 asserts e he:=by
  simp only[iu,aV,bi,or_false,or_self]at he
  rw[he];exact qX _ _ _
 loops l hl:=by simp [iu]at hl
 steps s hs:=by
  simp only[iu,aV,bi,or_false]at hs
  rcases hs with rfl|rfl
  ·refine⟨⟨by simp [gC],by simp [gC,iu]⟩,⟨by simp [gC],by simp [gC,iu]⟩,⟨by simp [gC],by simp [gC,gN]⟩,by simp [gC],by simp [gC],by simp [gC,lE,Ex.w],pm _ _,?_,by simp [gC],?_⟩
   ·intro a ha
    simp only[gC,aV,bi,or_false]at ha
    rw[ha]
    rcases ht with⟨rfl,rfl⟩|⟨rfl,rfl⟩<;> exact⟨by decide,by decide,pm _ _⟩
   ·refine .inr (.inr (.inl ⟨rfl,tS _,λ a ha=> ?_,_,_,rfl,?_,?_,λ b hb=>by cases hb⟩))
    ·simp only[gC,aV,bi,or_false]at ha
     rw[ha];exact tS _
    ·rcases ht with⟨rfl,rfl⟩|⟨rfl,rfl⟩<;> decide
    ·rcases ht with⟨rfl,rfl⟩|⟨rfl,rfl⟩<;> decide
  ·refine⟨⟨by simp [jB],by simp [jB,iu]⟩,⟨by simp [jB],by simp [jB,iu]⟩,⟨by simp [jB],by simp [jB,gN]⟩,by simp [jB],by simp [jB],by simp [jB,lE,Ex.w],pm _ _,?_,by simp [jB],?_⟩
   ·intro a ha
    simp only[jB,aV,bi,or_false]at ha
    rw[ha]
    rcases ht with⟨rfl,rfl⟩|⟨rfl,rfl⟩<;> exact⟨by decide,by decide,by decide+kernel⟩
   ·refine .inr (.inl ⟨rfl,tS _,_,_,rfl,?_,?_,rfl,?_,?_,λ b hb=>by cases hb⟩)
    all_goals (rcases ht with⟨rfl,rfl⟩|⟨rfl,rfl⟩<;> decide)
theorem xN:gN.Ok where
 cells c hc:=by
  simp only[gN,aV,bi,or_false]at hc
  rcases hc with rfl|rfl|rfl|rfl<;> exact⟨by decide,by decide,by decide,by decide,by decide⟩
 cnames:=by decide
 modules m hm:=by
  simp only[gN,aV,bi,or_false]at hm
  rw[hm]
  refine⟨by decide,by decide,.inr (qX _ _ _),qX _ _ _,λ c hc=> ?_,by simp [qE]⟩
  simp only[aV,bi,or_false]at hc
  rcases hc with rfl|rfl<;> decide
 mnames:=by decide
 locks l hl:=by simp [gN]at hl
 lcells:=by decide
 threads t x hx:=by
  match t,hx with
  |0,hx=>
   simp only[gN,cA,Option.some.injEq]at hx
   subst hx
   exact wo _ _ (.inl ⟨rfl,rfl⟩)
  |1,hx=>
   simp only[gN,cA,cN,Option.some.injEq]at hx
   subst hx
   exact wo _ _ (.inr ⟨rfl,rfl⟩)
  |t+2,hx=>simp [gN]at hx
 tnames:=by decide
theorem z6:MemOk gN qv where
 len:=by decide
 val i v h:=by
  match i,h with
  |0,h|1,h|2,h|3,h=>
   simp only[qv,cA,cN,Option.some.injEq]at h
   subst h
   decide
  |i+4,h=>simp [qv]at h
def crT(j:Nat):Thr:=iu j (if j=0 then 116 else 117)
def crO(a:A):Option Ob:=some (.cells [.d (aY gN.cells),.d (.sl 11 (gN.modules.map iH)),.d (.sl 6 []),a])
def stpA(s:Stp):List A:=[di s.kind,di s.src,di s.dst,di s.guard.op,di s.guard.w,di s.guard.n,.d (.sl 4 (s.guard.kids.map Ex.d)),.d (.sl 5 (s.set.map dM)),db s.rel,di s.target,di s.mod]
theorem xB(l:List Thr):(bU (l.map c8)).length=l.length*7:=by
  have:=mg (sz:=7) (xs:=l.map c8) λ x hx=>by
    obtain⟨d,-,rfl⟩:=aI.1 hx
    rfl
  simpa using this
theorem flat_dp(n0 f:Nat)(J:List Nat)(l:St)(xs:List D):(bU xs).map (xX n0 J l (f+1))=bU xs:=by
  unfold bU
  simp [List.map_flatMap,Function.comp_def,dpA_d]
theorem NilAL.app{x y:List A}(h:NilAL x y):∀l:List A,NilAL (l++x) (l++y)
  |[]=>h
  |a::l=> .cons (.refl a) (NilAL.app h l)
theorem thr_snoc(l:List Thr)(x:Thr):bU ((l++[x]).map c8)=bU (l.map c8)++[.d (.str x.name),.d (iD x.points),.d (.sl 4 (x.asserts.map Ex.d)),.d (bu x.mods),.d (.sl 11 (x.steps.map eP)),.d (.sl 6 (x.loops.map pt)),.d (.bool x.asleep)]:=by
  rw[aJ,cZ];rfl
theorem DE(Z:St)(G:Glob)(R:A→St→Prop)(h:R (.d (bK gN)) Z):AC Tryz.prog G 26 [] Z R:=by
  refine bD [7,8] a9 Tryz.func26 rfl Tryz.ntmps26 (by simp only[go_sem]) λ hbd=> ?_
  simp only[ae,aj,Nat.reduceAdd,Nat.reduceSub,af,ag,ah,ak]
  try simp only[go_sem]
  refine bH (one_ac _ _ _ ?_)
  simp only[eD,Ex.op,Ex.w,Ex.n,Ex.kids,bq,go_sem]
  refine aS (λ k fr st=>∃j:Nat,j≤2∧k=2 - j∧fr=%[.ref Z.length 0,.ref (Z.length+1) 0,.ref (Z.length+2) 0,dn j|D6 (D5 [.o,.o,.o,.o])]∧st=Z++[some (.cells [.d .nils,.d .nils,.d .nils,.d .nils]),some (.cells [di 1,di 1,di 1,.d (.sl 4 [])]),crO (.rs (Z.length+3) 7 0 j (some 84)),some (.cells (bU (((List.range j).map crT).map c8)))]) 2 _ ?_ ?_
  · refine Wk.via (bw.deep [2,3,4] 8) ?_
    simp only[go_sem]
    refine Wk.via ((bw.mask [0,1,2,3]).trans (bw.keep [0,1,5] (by decide) (aE _) hbd)) ?_
    simp only[go_sem]
    refine Wk.via (bw.emptyIn (Z:=Z) 2 3 7 (some 84) rfl rfl) ?_
    simp only[go_sem]
    refine Wk.via (bw.nilsO (Z:=Z) 2 rfl (.cons (.refl _) (.cons (.refl _) (.cons (.d (.nil 6)) (.cons (.refl _) .nil))))) ?_
    exact Wk.mask [0,1,2,3] ⟨0,by omega,by omega,rfl,rfl⟩
  rintro k fr st ⟨j,hj,hk,rfl,rfl⟩
  rcases aC j 2 with hlt|hge
  · have hd:decide ((j:Int)<2)=true:=by simp;omega
    have hd':decide ((j:Int)≥2)=false:=by simp;omega
    have w2:=bC j (by omega)
    unfold crO
    simp only[go_sem,hd]
    refine bc (λ fr st=>fr=%[.ref Z.length 0,.ref (Z.length+1) 0,.ref (Z.length+2) 0,dn j,.ref (Z.length+4) 0|D6 (D5 [.o,.o,.o])]∧st=Z++[some (.cells [.d .nils,.d .nils,.d .nils,.d .nils]),some (.cells [di 1,di 1,di 1,.d (.sl 4 [])]),crO (.rs (Z.length+3) 7 0 j (some 84)),some (.cells (bU (((List.range j).map crT).map c8))),some (.cells (stpA (gC j)))]) ?_ ?_
    · simp only[go_sem,hd]
      refine Wk.via (bw.freezeIn (Z:=Z) 4 5 5 0 [dM ⟨j,lE⟩] rfl (ud [⟨j,lE⟩]) rfl (by decide)) ?_
      simp only[go_sem,ae,aj,and_self,if_true,false_and,if_false]
      exact Wk.keep [0,1,2,3,4] [0,1,2,3,5] (by decide) (aE _) hbd ⟨by simp only[go_sem],by simp only[go_sem,crO];rfl⟩
    rintro fr st ⟨rfl,rfl⟩
    unfold crO stpA
    try simp only[go_sem]
    refine bc (λ fr st=>fr=%[.ref Z.length 0,.ref (Z.length+1) 0,.ref (Z.length+2) 0,dn j,.ref (Z.length+4) 0,.ref (Z.length+5) 0|D6 (D5 [.o,.o])]∧st=Z++[some (.cells [.d .nils,.d .nils,.d .nils,.d .nils]),some (.cells [di 1,di 1,di 1,.d (.sl 4 [])]),crO (.rs (Z.length+3) 7 0 j (some 84)),some (.cells (bU (((List.range j).map crT).map c8))),some (.cells (stpA (gC j))),some (.cells (stpA (jB j)))]) ?_ ?_
    · have v1:IntKind.i64.wrap (2+(j:Int))=2+j:=cq _ (by omega) (by omega)
      have v2:IntKind.i64.wrap (1 - (j:Int))=1 - j:=cq _ (by omega) (by omega)
      have ce:=Cv (1 - (j:Int)) 1
      simp only[ed,eD,Ex.op,Ex.w,Ex.n,Ex.kids,bq]at ce
      refine bb (.tk 4 1<| .pure 5<| .take 0<| .take 6<| .alt 7 (.tk 3 8<| .done)<| .alt 9 (.tk 2 7<| .take 10<| .done)<| .stop) (by kernel_rfl) ?_
      simp only[go_sem,v1,v2]
      refine mN (.d (.agg [iD 2,iD 1,iD (1 - (j:Int)),.sl 4 []])) ⟨λ Z'=>bH (ce _ _ _ ⟨rfl,rfl⟩),?_⟩
      simp only[go_sem,v1,v2]
      refine⟨?_,?_⟩
      · refine Wk.via (bw.freezeIn (Z:=Z) 5 6 5 0 [dM ⟨2+j,.mk 2 1 (1 - j) []⟩] rfl (ud [⟨2+j,.mk 2 1 (1 - j) []⟩]) rfl (by decide)) ?_
        simp only[go_sem,ae,aj,and_self,if_true,false_and,if_false]
        exact Wk.keep [0,1,2,3,4,5] [0,1,2,3,4,6] (by decide) (aE _) hbd ⟨by simp only[go_sem],by simp only[go_sem,crO];rfl⟩
      · refine Wk.via (bw.freezeIn (Z:=Z) 6 5 5 0 [dM ⟨2+j,.mk 2 1 (1 - j) []⟩] rfl (ud [⟨2+j,.mk 2 1 (1 - j) []⟩]) rfl (by decide)) ?_
        simp only[go_sem,ae,aj,and_self,if_true,false_and,if_false]
        exact Wk.keep [0,1,2,3,4,5] [0,1,2,3,4,5] (by decide) (aE _) hbd ⟨by simp only[go_sem],by simp only[go_sem,crO];rfl⟩
    rintro fr st ⟨rfl,rfl⟩
    unfold crO stpA
    have hfl:=xB ((List.range j).map crT)
    rw[ac,List.length_range]at hfl
    have hjj:j=0∨j=1:=by omega
    refine bb (.tk 2 0<| .take 3<| .tk 3 6<| .tk 2 11<| .alt 2 (.tk 2 4<| .alt 9 (.alt 10 (.tk 6 13<| .done)<| .alt 13 (.take 10<| .tk 5 14<| .done)<| .stop)<| .alt 10 (.alt 9 (.tk 6 13<| .done)<| .alt 13 (.take 9<| .tk 5 14<| .done)<| .stop)<| .alt 13 (.alt 9 (.take 10<| .tk 5 14<| .done)<| .alt 10 (.take 9<| .tk 5 14<| .done)<| .stop)<| .stop)<| .alt 9 (.alt 2 (.tk 2 4<| .alt 10 (.tk 6 13<| .done)<| .alt 13 (.take 10<| .tk 5 14<| .done)<| .stop)<| .alt 10 (.alt 2 (.tk 2 4<| .tk 6 13<| .done)<| .alt 13 (.take 2<| .tk 2 4<| .tk 5 14<| .done)<| .stop)<| .alt 13 (.alt 2 (.tk 2 4<| .take 10<| .tk 5 14<| .done)<| .alt 10 (.take 2<| .tk 2 4<| .tk 5 14<| .done)<| .stop)<| .stop)<| .alt 10 (.alt 2 (.tk 2 4<| .alt 9 (.tk 6 13<| .done)<| .alt 13 (.take 9<| .tk 5 14<| .done)<| .stop)<| .alt 9 (.alt 2 (.tk 2 4<| .tk 6 13<| .done)<| .alt 13 (.take 2<| .tk 2 4<| .tk 5 14<| .done)<| .stop)<| .alt 13 (.alt 2 (.tk 2 4<| .take 9<| .tk 5 14<| .done)<| .alt 9 (.take 2<| .tk 2 4<| .tk 5 14<| .done)<| .stop)<| .stop)<| .alt 13 (.alt 2 (.tk 2 4<| .alt 9 (.take 10<| .tk 5 14<| .done)<| .alt 10 (.take 9<| .tk 5 14<| .done)<| .stop)<| .alt 9 (.alt 2 (.tk 2 4<| .take 10<| .tk 5 14<| .done)<| .alt 10 (.take 2<| .tk 2 4<| .tk 5 14<| .done)<| .stop)<| .alt 10 (.alt 2 (.tk 2 4<| .take 9<| .tk 5 14<| .done)<| .alt 9 (.take 2<| .tk 2 4<| .tk 5 14<| .done)<| .stop)<| .stop)<| .stop) (by kernel_rfl) ?_
    have es:∀k:Nat,(k=0∨k=1)→List.getD [A.d (D.str [116]),A.d (D.str [117])] k A.o= .d (.str (crT k).name):=λ k hk=>by rcases hk with rfl|rfl<;> rfl
    simp only[go_sem,w2,hfl,es j hjj,ad,br,ci]
    have hr:(List.range (j+1)).map crT=(List.range j).map crT++[crT j]:=by rw[eY,aJ];rfl
    have hs:=thr_snoc ((List.range j).map crT) (crT j)
    rw[←hr]at hs
    repeat' with_reducible apply And.intro
    all_goals first
      |omega
      |(simp only[maxLen];omega)
      |(
         refine Wk.via (bw.deep [6,7,8,9,10] 8) ?_
         simp only[go_sem,aJ,flat_dp]
         refine Wk.via (bw.nilsO (Z:=Z) 11 rfl (NilAL.app (.cons (.refl _) (.cons (.refl _) (.cons (.refl _) (.cons (.refl _) (.cons (.refl _) (.cons (.d (.nil 6)) (.cons (.refl _) .nil))))))) _)) ?_
         simp only[go_sem]
         exact Wk.keep [0,1,2,3] [0,1,2,11] (by decide) (aE _) hbd ⟨2 - (j+1),by omega,j+1,by omega,rfl,by simp only[go_sem],by rw[hs];simp only[go_sem];rfl⟩)
      |trace_state
  · obtain rfl:j=2:=by omega
    have hd:decide (((2:Nat):Int)<2)=false:=by decide
    have e2:(List.range 2).map crT=gN.threads:=rfl
    rw[e2]
    unfold crO
    simp only[go_sem,hd]
    refine de 3 7 0 (gN.threads.map c8) rfl (Ga _) ?_
    simp only[go_sem,ac]
    exact dq hbd rfl h
end
end Go.Proofs.YtdpdbokicanpoaaGreatDoor
