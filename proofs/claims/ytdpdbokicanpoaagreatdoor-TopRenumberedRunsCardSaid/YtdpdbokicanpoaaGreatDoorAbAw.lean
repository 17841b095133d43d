import Derived.Test.YtdpdbokicanpoaaGreatDoorAbK
import Derived.Test.YtdpdbokicanpoaaGreatDoorAbGroup
import Derived.Scope
set_option linter.unusedSimpArgs false
set_option linter.unusedVariables false
set_option maxHeartbeats 64000000
namespace Go.Ab
open Go Go.RowKit

def bw(G:Glob)(n0:Nat)(fr:Fr)(Z:St)(fr':Fr)(Z':St):Prop:=
 ∀U0 w0 U w vs,U0.length=n0→Ext U0 w0 U w→Inv G U Z w→fy U w fr vs→∃U',Ext U0 w0 U' w∧Inv G U' Z' w∧fy U' w fr' vs
def Wk(G:Glob)(n0:Nat)(I:Fr→St→Prop)(fr:Fr)(Z:St):Prop:=∃fr' Z',bw G n0 fr Z fr' Z'∧I fr' Z'
theorem bw.refl(G:Glob)(n0:Nat)(fr:Fr)(Z:St):bw G n0 fr Z fr Z:=λ _ _ U _ _ _ hx hI hr=>⟨U,hx,hI,hr⟩
theorem bw.trans{G:Glob}{n0:Nat}{f f' f'':Fr}{s s' s'':St}(h:bw G n0 f s f' s')(k:bw G n0 f' s' f'' s''):bw G n0 f s f'' s'':=λ U0 w0 U w vs h0 hx hI hr=>
 let ⟨U',a,b,c⟩:=h U0 w0 U w vs h0 hx hI hr
 k U0 w0 U' w vs h0 a b c

section
variable (P:Program) (G:Glob)
def oU(a:A)(t e:Prop):Prop:=match a with
 | .d (.bool x)=>(x=true→t)∧(x=false→e)
 |_=>False
structure Md where
 tx:Bool
 cuts:List Nat
 rnd:Bool
def il:Code→Option Nat
 | .region id _ _=>some id
 | .seq a _=>il a
 | .block _ c=>il c
 | .loop c=>il c
 | .scope c=>il c
 |_=>none
def Br(l:List Nat)(c:Code):Bool:=match l with
 |[]=>false
 |x::r=>(match il c with|some id=>id==x||r.contains id|none=>false)
def oK:Fr→List Tmp→List A→Fr
 |fr,t::ts,x::xs=>oK (fr.set t x) ts xs
 |fr,_,_=>fr
def DA(G:Glob)(n:Nat)(id l:Nat)(r:Loop)(fr:List A)(k:A→St→Prop):wJ
 | .normal,_,st=>∃st',bw G n [] st [] st'∧st'[id]? =some (some (.lp l { r with state:= .busy} fr))∧k (.d (.bool true)) (st'.set id (some (.lp l r fr)))
 | .ret,_,st=>∃st',bw G n [] st [] st'∧st'[id]? =some (some (.lp l { r with state:= .busy} fr))∧k (.d (.bool false)) (st'.set id (some (.lp l { r with state:= .done,pending:=some .ret} fr)))
 | .exit i,_,st=>∃st',bw G n [] st [] st'∧st'[id]? =some (some (.lp l { r with state:= .busy} fr))∧k (.d (.bool false)) (st'.set id (some (.lp l { r with state:= .done,pending:=some (.exit i)} fr)))
def endF(G:Glob)(n0:Nat)(id l:Nat)(r:Loop)(fr:List A)(Q:wJ)(st:St):Prop:=
 st[id]? =some (some (.lp l r fr))∧Wk G n0 (Q .normal) fr (st.set id none)∨
 st[id]? =some (some (.lp l { r with state:= .done,pending:=some .ret} fr))∧Wk G n0 (Q .ret) fr (st.set id none)∨
 ∃i,st[id]? =some (some (.lp l { r with state:= .done,pending:=some (.exit i)} fr))∧Wk G n0 (Q (.exit i)) fr (st.set id none)
def aw:Nat→Md→Code→wJ→Fr→St→Prop
 |_,_,.skip,Q,fr,Z=>Q .normal fr Z
 |_,_,.region _ ops false,Q,fr,Z=>gX P G ops ops.toList (Q .normal) fr Z
 |_,tx,.region _ ops true,Q,fr,Z=>bif tx.tx then gX P G ops ops.toList (Q .normal) fr Z else(∃p:Plan,p.depth≤ops.size∧p.check (eg ops) false 0=true∧dP P G ops (Q .normal) p fr Z)∨∃g:GPlan,g.depth≤ops.size∧g.check (eg ops) 0=true∧sS P G ops (Q .normal) g fr Z
 |n0,tx,.seq a b,Q,fr,Z=>bif Br tx.cuts b then
   ∃I:Fr→St→Prop,aw n0 tx a (λ e fr Z=>match e with| .normal=>Wk G n0 I fr Z| .exit i=>Q (.exit i) fr Z| .ret=>Q .ret fr Z) fr Z∧∀fr Z,I fr Z→aw n0 tx b Q fr Z
  else aw n0 tx a (λ e fr Z=>match e with| .normal=>aw n0 tx b Q fr Z| .exit i=>Q (.exit i) fr Z| .ret=>Q .ret fr Z) fr Z
 |n0,tx,.cond c t e,Q,fr,Z=>oU (ev G fr c) (aw n0 tx t Q fr Z) (aw n0 tx e Q fr Z)
 |n0,tx,.block id c,Q,fr,Z=>aw n0 tx c (λ e fr Z=>match e with| .normal=>Q .normal fr Z| .exit i=>if i=id then Q .normal fr Z else Q (.exit i) fr Z| .ret=>Q .ret fr Z) fr Z
 |n0,tx,.loop c,Q,fr,Z=>∃(I:Nat→Fr→St→Prop) (m0:Nat),Wk G n0 (I m0) fr Z∧∀m fr Z,I m fr Z→
   aw n0 tx c (λ e fr' Z'=>match e with| .normal=>Wk G n0 (λ f s=>∃m',m'<m∧I m' f s) fr' Z'| .exit i=>Q (.exit i) fr' Z'| .ret=>Q .ret fr' Z') fr Z
 |n0,tx,.rangeFunc g ps assign body,Q,fr,Z=>bif tx.rnd then False else(∀a s,¬G.pan a s)∧Wk G n0 (λ fr Z=>jo Z.length fr=true∧∃f first cap,ev G fr g= .fn (.func f) first cap∧
   ∀(l:Nat) (r:Loop),(∀args st k,st[Z.length]? =some (some (.lp l r fr))∧args.length=ps.size∧
     aw st.length ⟨tx.tx,tx.cuts,true⟩ assign (λ e fr2 st2=>match e with
      | .normal=>st2[Z.length]? =some (some (.lp l r fr))∧aw st.length ⟨tx.tx,tx.cuts,true⟩ body (DA G st.length Z.length l r fr k) fr2 (st2.set Z.length (some (.lp l { r with state:= .busy} fr)))
      |_=>False) (oK fr ps.toList args) st→YC P G l args st k)→
    AC P G f (first++ .fn (.yield l) [] []::cap) (Z++[some (.lp l r fr)]) λ _ st=>endF G n0 Z.length l r fr Q st) fr Z
 |_,_,.exit id,Q,fr,Z=>Q (.exit id) fr Z
 |_,_,.ret,Q,fr,Z=>Q .ret fr Z
 |_,_,.label _,Q,fr,Z=>Q .normal fr Z
 |n0,tx,.scope c,Q,fr,Z=>aw n0 tx c Q fr Z
 |_,_,_,_,_,_=>False
end

section
variable {P:Program} {U U':gM} {w w':World} {Z:St} {G:Glob}

def Behind(G:Glob)(b:Df)(U0:gM)(w0:World)(Q:wJ):Exit→Act→World→Prop
 | .normal,a,w=>∃fr Z U,Ext U0 w0 U w∧Inv G U Z w∧dl b U w fr a∧Q .normal fr Z
 | .exit i,a,w=>∃fr Z U,Ext U0 w0 U w∧Inv G U Z w∧dl b U w fr a∧Q (.exit i) fr Z
 | .ret,a,w=>∃fr Z U,Ext U0 w0 U w∧Inv G U Z w∧dl b U w fr a∧Q .ret fr Z
 | .panic chain,a,w=>Pan G U0 w0 chain w∧xV b w a
 |_,_,_=>False
def gm(ks:List Nat):Code→Bool
 | .region _ ops _=>ops.toList.all λ o=>match o.dst with|some d=> !ks.contains d|none=>true
 | .seq a b=>gm ks a&&gm ks b
 | .cond _ a b=>gm ks a&&gm ks b
 | .block _ c=>gm ks c
 | .loop c=>gm ks c
 | .scope c=>gm ks c
 |_=>true
theorem pM(c:Code):gm [] c=true:=by
 induction c with
 |region id ops d=>simp only[gm,aZ];intro o _;split<;> simp
 |seq a b iha ihb=>simp [gm,iha,ihb]
 |cond c a b iha ihb=>simp [gm,iha,ihb]
 |block id c ih=>simpa [gm]using ih
 |loop c ih=>simpa [gm]using ih
 |scope c ih=>simpa [gm]using ih
 |_=>rfl
theorem lI{b:Df}{id:Nat}{ops:Array Oper}{d:Bool}(h:gm (b.ks.map (·.1)) (.region id ops d)=true):∀o∈ops.toList,mT b o.dst:=λ o ho t ht p hp e=>by
 simp only[gm,aZ]at h
 have:=h o ho
 rw[ht]at this
 simp only[bQ,List.contains_eq_mem,ay,aI]at this
 exact this ⟨p,hp,e⟩

theorem jr{b:Frame}{a:Act}{k:List Item}{cs:List Frame}{w:World}{c:Code}:step P (lone (b.atR a (.code (.scope c)::k)) cs w)= .next (lone (b.atR a (.code c:: .inScope c::k)) cs w):=
 step_lone_go (by simp [stepG,stepG.exec,Frame.atR])
theorem u0{b:Frame}{a:Act}{k:List Item}{cs:List Frame}{w:World}{c:Code}:step P (lone (b.atR a (.inScope c::k)) cs w)= .next (lone (b.atR a k) cs w):=
 step_lone_go (by simp [stepG,stepG.exec,Frame.atR])
theorem oF{F:Fence}{n:Nat}{c:Code}{Q:Exit→Act→World→Prop}{a:Act}(h:c.wpIn F n P (Exit.noGoto Q) a w):(Code.scope c).wpIn F n P Q a w:=by
 intro b k cs hro hb hr
 have h0:(lone (b.atR a (.code (.scope c)::k)) cs w).fenced P F:=fenced_calm hb hr rfl
 obtain⟨e,a₁,w₁,hq,harr⟩:=h b (.inScope c::k) cs hro hb hr
 cases e with
 |normal=>exact⟨.normal,a₁,w₁,hq,.head h0 jr (StepsIn.trans harr (.one (fenced_calm hb hr rfl) u0))⟩
 |exit id=>
  have hx:exitTo id (.inScope c::k)=exitTo id k:=by simp [exitTo]
  exact⟨.exit id,a₁,w₁,hq,λ k' hk=> .head h0 jr (harr.1 k' (by rw[hx];exact hk)),λ hr' hk=>let ⟨k₁,h1,h2⟩:=harr.2 hr' (by rw[hx];exact hk);⟨k₁,h1,.head h0 jr h2⟩⟩
 |goto l=>exact hq.elim
 |ret=>exact⟨_,a₁,w₁,hq,.of_steps (.one h0 jr) harr⟩
 |panic ch=>exact⟨_,a₁,w₁,hq,.of_steps (.one h0 jr) harr⟩
 |outgrown=>exact⟨_,a₁,w₁,hq,.of_steps (.one h0 jr) harr⟩

theorem Inv.later(hI:Inv G U Z w)(hx:Ext U w U w')(hb:∀b,M U b→w'.heap[b]? =w.heap[b]?):Inv G U Z w':=
 ⟨hI.len,hI.inj,λ i b h=>cQ (hI.lt i b h) hx.size,λ id o h=>by
  rcases hI.obj id o h with⟨b,h1,h2⟩|h
  ·exact .inl ⟨b,h1,h2.keep hx (hb b ⟨id,h1⟩)⟩
  ·exact .inr h,λ g x h=>(hI.glob g x h).ext hx,hI.bd,λ b hm ds=>by rw[hb b hm];exact hI.own b hm ds⟩
theorem Inv.aside(hI:Inv G U Z w)(ob:Obj):Ext U w U (w.alloc ob)∧Inv G U Z (w.alloc ob):=by
 have hold:∀b,b<w.heap.size→(w.alloc ob).heap[b]? =w.heap[b]? :=λ b hb=>heap_alloc_old w _ hb
 have hx:Ext U w U (w.alloc ob):=⟨rfl,rfl,rfl,by simp,aE _,λ _ _ h=> .inl h,λ _ h _=>h,λ b hb _=>hold b hb,λ b vs e z h=>⟨vs,by rw[hold b (cL.1 h).1];exact h,rfl⟩⟩
 exact⟨hx,hI.later hx λ b ⟨i,h⟩=>hold b (hI.lt i b h)⟩
theorem Inv.lp_at(hI:Inv G U Z w){id l:Nat}{r:Loop}{fr:List A}(h:Z[id]? =some (some (.lp l r fr))):U[id]? =some (.live l)∧w.heap[l]? =some (.loop r)∧fy U w fr r.tmps.toList:=by
 rcases hI.obj id _ h with⟨b,h1,rfl,h3,h4⟩|⟨_,h2⟩
 ·exact⟨h1,h3,h4⟩
 ·cases h2
theorem Inv.lp_set(hI:Inv G U Z w){id l:Nat}{r:Loop}{fr:List A}(h:Z[id]? =some (some (.lp l r fr)))(r':Loop)(ht:r'.tmps=r.tmps):
  Ext U w U (w.putObj l (.loop r'))∧Inv G U (Z.set id (some (.lp l r' fr))) (w.putObj l (.loop r')):=by
 obtain⟨h1,h2,h3⟩:=hI.lp_at h
 have hl:=hI.lt id l h1
 have hold:∀k,k≠l→(w.putObj l (.loop r')).heap[k]? =w.heap[k]? :=λ k hk=>World.putObj_heap_other hk
 have hx:Ext U w U (w.putObj l (.loop r')):=by
  refine⟨rfl,rfl,rfl,by simp,aE _,λ _ _ h=> .inl h,λ _ h _=>h,λ k _ hm=>hold k (λ e=>hm ⟨id,by rw[e];exact h1⟩),λ k us e z hk=> ?_⟩
  by_cases hkl:k=l
  ·subst hkl;rw[h2]at hk;cases hk
  ·exact⟨us,by rw[hold k hkl];exact hk,rfl⟩
 refine⟨hx,by rw[aH];exact hI.len,hI.inj,λ i b hb=>by rw[World.putObj_size];exact hI.lt i b hb,λ i o ho=> ?_,λ g x hg=>(hI.glob g x hg).ext hx,by
  rw[aH];exact hI.bd.set id (λ o ho=>by injection ho with ho;subst ho;exact(hI.bd id _ h:jo Z.length fr=true)),λ b hb ds he=> ?_⟩
 ·rw[aR]at ho
  split at ho
  ·rename_i e
   subst e
   split at ho
   ·injection ho with ho;injection ho with ho;subst ho
    exact .inl ⟨l,h1,rfl,World.putObj_heap_same hl,by rw[ht];exact h3.ext hx⟩
   ·cases ho
  ·rename_i hne
   rcases hI.obj i o ho with⟨b,g1,g2⟩|g
   ·exact .inl ⟨b,g1,g2.keep hx (hold b (λ e=>hne (hI.inj id i l h1 (by rw[←e];exact g1))))⟩
   ·exact .inr g
 ·by_cases hbl:b=l
  ·subst hbl;rw[World.putObj_heap_same hl]at he;cases he
  ·rw[hold b hbl]at he;exact hI.own b hb ds he
theorem vB:∀(ps:List Tmp) {fr:Fr} {xs:List A} {us vs:List Value},fy U w fr us→fy U w xs vs→fy U w (oK fr ps xs) ((ps.zip vs).foldl (λ tmps (p:Tmp×Value)=>tmps.set p.1 p.2) us)
 |[],fr,xs,us,vs,h,_=>by cases xs<;> exact h
 |t::ps,fr,[],us,[],h,_=>h
 |t::ps,fr,[],us,_::_,_,k=>by simp [fy]at k
 |t::ps,fr,_::_,us,[],_,k=>by simp [fy]at k
 |t::ps,fr,x::xs,us,v::vs,h,k=>by
  refine vB ps (fr:=fr.set t x) (us:=us.set t v) ⟨by simp [h.1],λ i y u hy hu=> ?_⟩ ⟨by have:=k.1;simpa using this,λ i y u hy hu=>k.2 (i+1) y u (by simpa using hy) (by simpa using hu)⟩
  rw[aR]at hy hu
  split at hy
  ·rename_i e;subst e
   split at hy
   ·rename_i hl
    rw[if_pos rfl,if_pos (by rw[←h.1];exact hl)]at hu
    injection hy with hy;injection hu with hu;subst hy;subst hu;exact k.2 0 x v rfl rfl
   ·cases hy
  ·rename_i hne
   rw[if_neg hne]at hu
   exact h.2 i y u hy hu
theorem vC:∀(ps:List (Tmp×Value)) (us:Array Value),(ps.foldl (λ tmps (p:Tmp×Value)=>tmps.setIfInBounds p.1 p.2) us).toList=ps.foldl (λ tmps (p:Tmp×Value)=>tmps.set p.1 p.2) us.toList
 |[],_=>rfl
 |p::ps,us=>by
  rw[cc,cc,vC ps,Array.toList_setIfInBounds]
theorem lA.cons{B:Nat}{ds:List Deferred}(h:lA B w ds)(hB:B≤w.heap.size)(hw:w'.heap[w.heap.size]? =some (.deferred (some [])))(hk:∀(r:Nat) (ds:Option (List Deferred)),w.heap[r]? =some (Obj.deferred ds)→w'.heap[r]? =some (Obj.deferred ds)):
  lA B w' ({ target:= .collected w.heap.size,args:= #[]}::ds):=by
 refine⟨⟨_,rfl,hB,hw,?_⟩,h.keep hk⟩
 intro d hd
 have:∀{ds:List Deferred},lA B w ds→∀d∈ds,d.target≠.collected w.heap.size:=λ {ds} h=>by
  induction ds with
  |nil=>intro d hd;cases hd
  |cons e ds ih=>
   intro d hd
   obtain⟨⟨r,rfl,h2,h3,h4⟩,h5⟩:=h
   rcases aV.1 hd with rfl|hd
   ·intro he
    injection he with he
    have:=(cL.1 h3).1
    omega
   ·exact ih h5 d hd
 exact this h d hd

def sU(P:Program)(G:Glob)(c:Code):Prop:=∀{n0:Nat} {tx:Md} {rn:Option Nat} {b:Df} {U0:gM} {w0:World} (_:U0.length=n0) (_:b.B=w0.heap.size) (_:tx.rnd=false→rn=none∧b.mks=true) (_:(!tx.tx||dX c)=true) (_:gm (b.ks.map (·.1)) c=true) {Q:wJ} {fr:Fr} {Z:St} {U:gM} {w:World} {a:Act},
  Ext U0 w0 U w→Inv G U Z w→dl b U w fr a→aw P G n0 tx c Q fr Z→c.wpIn (RF rn) 0 P (Behind G b U0 w0 Q) a w
theorem yU{g:Operand}{ps:Array Tmp}{assign body:Code}(ha:sU P G assign)(hb:sU P G body):sU P G (.rangeFunc g ps assign body):=by
 intro n0 tx rn b U0 w0 h0 hB hn hc hav Q fr Z U w a hx hI hF h
 have hl1:(!tx.tx||dX assign)=true:=by revert hc;simp only[dX];cases tx.tx<;> simp+contextual
 have hl2:(!tx.tx||dX body)=true:=by revert hc;simp only[dX];cases tx.tx<;> simp+contextual
 simp only[aw]at h
 cases hr:tx.rnd with
 |true=>rw[hr]at h;exact h.elim
 |false=>
 obtain⟨rfl,hmk⟩:=hn hr
 rw[hr,cond_false]at h
 obtain⟨hnp,fr1,Z1,hw1,hbd,f,first,cap,hg,hcall⟩:=h
 obtain⟨U1,k1,k2,k3⟩:=hw1 U0 w0 U w _ h0 hx hI hF.2
 have hev:=xH k2 (⟨hF.1,k3⟩:dl b U1 w fr1 a) g
 rw[hg]at hev
 generalize hgv:a.eval g=gv at hev
 cases hev with
 |fn _ _ _ vs us l1 l2 r1 r2=>
 refine wpIn_rangeFunc λ fn _=> ?_
 obtain⟨x1,I1⟩:=k2.aside (.deferred (some []))
 obtain⟨w1,hw1e⟩:∃w1,w.alloc (.deferred (some []))=w1:=⟨_,rfl⟩
 have hD:w1.heap[w.heap.size]? =some (.deferred (some [])):=by rw[←hw1e];exact World.alloc_heap_new w _
 have hs1:w1.heap.size=w.heap.size+1:=by rw[←hw1e];simp
 rw[hw1e]at x1 I1
 obtain⟨r,hre⟩:∃r:Loop,({ state:= .ready,pending:=none,fn,tmps:=a.tmps,params:=ps,assign,body,defers:=w.heap.size}:Loop)=r:=⟨_,rfl⟩
 have hrt:r.tmps=a.tmps:=by rw[←hre]
 have hrp:r.params=ps:=by rw[←hre]
 have hrs:r.state= .ready:=by rw[←hre]
 have hrn:({ r with state:= .ready,pending:=none}:Loop)=r:=by rw[←hre]
 obtain⟨x2,I2⟩:=I1.push (ob:= .loop r) (o:= .lp w1.heap.size r fr1) (gW (Nat.le_succ _) fr1 hbd) (λ U' w' hx' hh=>⟨rfl,hh,by rw[hrt];exact(k3.ext x1).ext hx'⟩) (λ ds h=>by cases h)
 obtain⟨l,hle⟩:∃l,w1.heap.size=l:=⟨_,rfl⟩
 rw[hle]at x2 I2
 obtain⟨w2,hw2e⟩:∃w2,w1.alloc (.loop r)=w2:=⟨_,rfl⟩
 rw[hw2e]at x2 I2
 have hY:∀args st k,st[Z1.length]? =some (some (.lp l r fr1))∧args.length=ps.size∧
    aw P G st.length ⟨tx.tx,tx.cuts,true⟩ assign (λ e fr2 st2=>match e with
     | .normal=>st2[Z1.length]? =some (some (.lp l r fr1))∧aw P G st.length ⟨tx.tx,tx.cuts,true⟩ body (DA G st.length Z1.length l r fr1 k) fr2 (st2.set Z1.length (some (.lp l { r with state:= .busy} fr1)))
     |_=>False) (oK fr1 ps.toList args) st→YC P G l args st k:=λ args st k ⟨hst,hlen,haw⟩ ρe we ws hIe hLe=>by
  obtain⟨q1,q2,q3⟩:=hIe.lp_at hst
  have hsz:ws.toArray.size=r.params.size:=by rw[hrp,←hlen,hLe.1];simp
  refine⟨_,_,_,_,run_yield q2 hsz,?_⟩
  have hra:r.assign=assign:=by rw[←hre]
  have hrb:r.body=body:=by rw[←hre]
  rw[hra,hrb]
  refine roundIn_of_wpIn trivial ?_
  have hF0:dl (.at we.heap.size) ρe we (oK fr1 ps.toList args) { tmps:=(r.params.zip ws.toArray).foldl (λ tmps (p:Tmp×Value)=>tmps.setIfInBounds p.1 p.2) r.tmps,defers:=[]}:=by
   refine⟨⟨⟨[],rfl,trivial,λ _=>rfl⟩,λ p hp=>by cases hp⟩,?_⟩
   have:=vB ps.toList q3 hLe
   have e:((r.params.zip ws.toArray).foldl (λ tmps (p:Tmp×Value)=>tmps.setIfInBounds p.1 p.2) r.tmps).toList=(ps.toList.zip ws).foldl (λ tmps (p:Tmp×Value)=>tmps.set p.1 p.2) r.tmps.toList:=by
    rw[hrp,←Array.foldl_toList,vC]
    simp
   simp only[e]
   exact this
  refine wpIn_mono (ha (tx:=⟨tx.tx,tx.cuts,true⟩) (rn:=some l) (b:= .at we.heap.size) hIe.len rfl (λ h=>by cases h) hl1 (pM _) (Ext.refl ρe we) hIe hF0 haw) λ e a' w' hq=> ?_
  cases e with
  |normal=>
   obtain⟨fr2,st2,U2,h1,h2,h3,h4,h5⟩:=hq
   obtain⟨p1,p2,p3⟩:=h2.lp_at h4
   obtain⟨x3,I3⟩:=h2.lp_set h4 { r with state:= .busy} rfl
   refine⟨_,run_beginRound p2 hrs,?_⟩
   refine wpIn_mono (hb (tx:=⟨tx.tx,tx.cuts,true⟩) (rn:=some l) (b:= .at we.heap.size) hIe.len rfl (λ h=>by cases h) hl2 (pM _) (h1.trans x3) I3 (h3.ext h2 x3) h5) λ e a'' w'' hq=> ?_
   have fin:∀(fr4:Fr) (st4:St) (U4:gM) (st':St) (jump:Option Code) (r':Loop),Ext ρe we U4 w''→Inv G U4 st4 w''→bw G st.length [] st4 [] st'→st'[Z1.length]? =some (some (.lp l { r with state:= .busy} fr1))→
     ({ r with state:=if jump.isNone then .ready else .done,pending:=jump}:Loop)=r'→k (.d (.bool jump.isNone)) (st'.set Z1.length (some (.lp l r' fr1)))→
     ∃v w3,(Instr.endRound l jump).run P w''= .ok v w3∧∃v' U' Z' r,Ending.returned v= .returned v'∧Ext ρe we U' w3∧Inv G U' Z' w3∧RepA U' w3 r v'∧k r Z':=λ fr4 st4 U4 st' jump r' g1 g2 g3 g4 g5 g6=>by
    obtain⟨U5,j1,j2,_⟩:=g3 ρe we U4 w'' [] hIe.len g1 g2 ⟨rfl,λ i x v hx=>by simp at hx⟩
    obtain⟨t1,t2,t3⟩:=j2.lp_at g4
    obtain⟨x5,I5⟩:=j2.lp_set g4 r' (by rw[←g5])
    refine⟨_,_,run_endRound jump t2,_,U5,_,_,rfl,j1.trans (g5▸x5),g5▸I5,.d (.bool _),?_⟩
    rw[g5]
    exact g6
   cases e with
   |normal=>
    obtain⟨fr4,st4,U4,g1,g2,g3,st',g4,g5,g6⟩:=hq
    exact fin fr4 st4 U4 st' none r g1 g2 g4 g5 hrn g6
   |ret=>
    obtain⟨fr4,st4,U4,g1,g2,g3,st',g4,g5,g6⟩:=hq
    exact fin fr4 st4 U4 st' (some .ret) _ g1 g2 g4 g5 rfl g6
   |exit i=>
    obtain⟨fr4,st4,U4,g1,g2,g3,st',g4,g5,g6⟩:=hq
    exact fin fr4 st4 U4 st' (some (.exit i)) _ g1 g2 g4 g5 rfl g6
   |goto t=>exact hq.elim
   |panic c=>obtain⟨⟨_,_,_,_,_,_,_,_,h⟩,_⟩:=hq;exact(hnp _ _ h).elim
   |outgrown=>exact hq.elim
  |exit i=>obtain⟨_,_,_,_,_,_,h⟩:=hq;exact h.elim
  |ret=>obtain⟨_,_,_,_,_,_,h⟩:=hq;exact h.elim
  |goto t=>exact hq.elim
  |panic c=>obtain⟨⟨_,_,_,_,_,_,_,_,h⟩,_⟩:=hq;exact(hnp _ _ h).elim
  |outgrown=>exact hq.elim
 have hac:=hcall l r hY
 have hx2:Ext U1 w (U1++[.live l]) w2:=x1.trans x2
 have hyl:fy (U1++[.live l]) w2 [.fn (.yield l) [] []] [Value.func (.yield l) #[] #[]]:=⟨rfl,λ i x v h1 h2=>by
  match i with
  |0=>simp at h1 h2;subst h1;subst h2;exact .fn (.yield l) [] [] [] [] rfl rfl (λ i x v h=>by simp at h) (λ i x v h=>by simp at h)
  |i+1=>simp at h1⟩
 obtain⟨e1,e2⟩:=rL I2 (ke (as:=first) (vs:=vs) (fy.ext (⟨l1,r1⟩:fy U1 w first vs) hx2) (ke (bs:=cap) (us:=us) hyl (fy.ext (⟨l2,r2⟩:fy U1 w cap us) hx2))) (by simpa using hac)
 have henter:(Instr.enterLoop fn a.tmps ps assign body (RF none).round).run P w= .ok (l,[{ target:= .collected w.heap.size,args:= #[]}]) w2:=by
  have:=run_enterLoop_outer (P:=P) (w:=w) fn a.tmps ps assign body
  rw[hre,hw1e,hw2e,←hs1,hle]at this
  exact this
 refine⟨l,_,w2,{ target:= .fn (.func f) us.toArray,args:=(vs++[Value.func (.yield l) #[] #[]]).toArray},w2,f,_,w2,henter,?_,(λ _ _=>trivial),?_,(λ h=>by cases h),uH (Calls.mono e2 ?_)⟩
 ·have hcst:∀v,a.eval (.const v)=v:=λ _=>rfl
  simp [resolve,rangeCall,Deferred.ofValue,hgv,hcst]
 ·simpa [invoke]using e1
 rintro e w3 (⟨v,U3,Z3,rr,rfl,y1,y2,y3,y4⟩|⟨_,_,_,_,_,_,_,_,_,_,h⟩)
 case inr=>exact(hnp _ _ h).elim
 have hmarks:∀w4,Ext U3 w3 U3 w4→xV b w4 { a with defers:={ target:= .collected w.heap.size,args:= #[]}::a.defers}:=λ w4 hx4=>by
  obtain⟨⟨ms,q1,q2,q3⟩,q4⟩:=hF.1
  refine⟨⟨_::ms,by rw[q1];rfl,lA.cons q2 (by rw[hB];exact hx.size) ?_ λ r ds h=> ?_,λ h=>by rw[hmk]at h;cases h⟩,q4⟩
  ·exact y2.deferred hx4 _ _ (I2.deferred y1 _ _ (I1.deferred x2 _ _ hD))
  ·exact y2.deferred hx4 _ _ (I2.deferred y1 _ _ (I1.deferred x2 _ _ (k2.deferred x1 _ _ h)))
 have fin:∀(r':Loop) (e:Ex),Z3[Z1.length]? =some (some (.lp l r' fr1))→r'.state≠.busy→r'.tmps=a.tmps→Wk G n0 (Q e) fr1 (Z3.set Z1.length none)→
   ∃w4,(Instr.endLoop l).run P w3= .ok r'.pending w4∧∃fr5 Z5 U5,Ext U0 w0 U5 w4∧Inv G U5 Z5 w4∧dl b U5 w4 fr5 { a with defers:={ target:= .collected w.heap.size,args:= #[]}::a.defers}∧Q e fr5 Z5:=λ r' e g1 g2 g3 ⟨fr5,Z5,g4,g5⟩=>by
  obtain⟨t1,t2,t3⟩:=y2.lp_at g1
  obtain⟨x6,I6⟩:=y2.lp_set g1 { r' with state:= .exhausted} rfl
  obtain⟨x7,I7⟩:=I6.kill Z1.length
  rw[dT]at I7
  have hx7:Ext U0 w0 (U3.set Z1.length .dead) (w3.putObj l (.loop { r' with state:= .exhausted})):=((k1.trans (hx2.trans y1)).trans x6).trans x7
  obtain⟨U5,z1,z2,z3⟩:=g4 U0 w0 _ _ a.tmps.toList h0 hx7 I7 (((((k3.ext hx2).ext y1)).ext x6).ext x7)
  exact⟨_,run_endLoop t2 g2,fr5,Z5,U5,z1,z2,⟨hmarks _ x6,z3⟩,g5⟩
 rcases y4 with⟨g1,g2⟩|⟨g1,g2⟩|⟨i,g1,g2⟩
 ·obtain⟨w4,q1,q2⟩:=fin r .normal g1 (by rw[hrs];intro h;cases h) hrt g2
  refine⟨_,w4,q1,?_⟩
  rw[show r.pending=none by rw[←hre]]
  exact q2
 ·obtain⟨w4,q1,q2⟩:=fin _ .ret g1 (by intro h;cases h) hrt g2
  exact⟨_,w4,q1,wpIn_ret q2⟩
 ·obtain⟨w4,q1,q2⟩:=fin _ (.exit i) g1 (by intro h;cases h) hrt g2
  exact⟨_,w4,q1,wpIn_exit q2⟩
theorem Pan.dfs{b:Df}{a:Act}{chain:List PanicEntry}(h:Pan G U w chain w')(hI:Inv G U Z w)(hd:xV b w a):xV b w' a:=by
 obtain⟨_,U',_,_,_,hx,_⟩:=h
 exact hd.ext hI hx
theorem aw_sound(hm:P.follows .mixedOrders=true)(c:Code):sU P G c:=by
 induction c with
 |skip=>
  intro n0 tx rn b U0 w0 h0 hB hn hc hav Q fr Z U w a hx hI hF h
  exact wpIn_skip ⟨fr,Z,U,hx,hI,hF,by simpa only[aw]using h⟩
 |seq c d ihc ihd=>
  intro n0 tx rn b U0 w0 h0 hB hn hc hav Q fr Z U w a hx hI hF h
  simp only[aw]at h
  have hl1:(!tx.tx||dX c)=true:=by revert hc;simp only[dX];cases tx.tx<;> simp+contextual
  have hl2:(!tx.tx||dX d)=true:=by revert hc;simp only[dX];cases tx.tx<;> simp+contextual
  cases hcut:Br tx.cuts d with
  |true=>
   rw[hcut,cond_true]at h
   obtain⟨I,ha,hb⟩:=h
   refine wpIn_seq (wpIn_mono (ihc h0 hB hn hl1 (fq.1 hav).1 hx hI hF ha) λ e a' w' hq=> ?_)
   cases e with
   |normal=>
    obtain⟨fr',Z',U',h1,h2,h3,fr2,Z2,hw,hI2⟩:=hq
    obtain⟨U2,r1,r2,r3⟩:=hw U0 w0 U' w' _ h0 h1 h2 h3.2
    exact ihd h0 hB hn hl2 (fq.1 hav).2 r1 r2 ⟨h3.1,r3⟩ (hb _ _ hI2)
   |exit i=>exact hq
   |ret=>exact hq
   |goto l=>exact hq
   |panic c=>exact hq
   |outgrown=>exact hq
  |false=>
   rw[hcut,cond_false]at h
   refine wpIn_seq (wpIn_mono (ihc h0 hB hn hl1 (fq.1 hav).1 hx hI hF h) λ e a' w' hq=> ?_)
   cases e with
   |normal=>obtain⟨fr',Z',U',h1,h2,h3,h4⟩:=hq;exact ihd h0 hB hn hl2 (fq.1 hav).2 h1 h2 h3 h4
   |exit i=>exact hq
   |ret=>exact hq
   |goto l=>exact hq
   |panic c=>exact hq
   |outgrown=>exact hq
 |cond c t e iht ihe=>
  intro n0 tx rn b U0 w0 h0 hB hn hc hav Q fr Z U w a hx hI hF h
  simp only[aw,oU]at h
  have hev:=xH hI hF c
  split at h
  ·rename_i x hcv
   rw[hcv]at hev
   exact wpIn_cond_split (g8 hev) (λ ht=>iht h0 hB hn (by revert hc;cases tx.tx<;> simp+contextual [dX]) (fq.1 hav).1 hx hI hF (h.1 ht)) (λ he=>ihe h0 hB hn (by revert hc;cases tx.tx<;> simp+contextual [dX]) (fq.1 hav).2 hx hI hF (h.2 he))
  ·exact h.elim
 |block id c ihc=>
  intro n0 tx rn b U0 w0 h0 hB hn hc hav Q fr Z U w a hx hI hF h
  simp only[aw]at h
  refine wpIn_block (wpIn_mono (ihc h0 hB hn (by revert hc;cases tx.tx<;> simp+contextual [dX]) hav hx hI hF h) λ e a' w' hq=> ?_)
  cases e with
  |normal=>exact hq
  |exit i=>
   obtain⟨fr',Z',U',h1,h2,h3,h4⟩:=hq
   simp only[Exit.inBlock]
   simp only at h4
   by_cases hi:i=id
   ·rw[if_pos hi]at h4 ⊢;exact⟨fr',Z',U',h1,h2,h3,h4⟩
   ·rw[if_neg hi]at h4 ⊢;exact⟨fr',Z',U',h1,h2,h3,h4⟩
  |ret=>exact hq
  |goto l=>exact hq
  |panic c=>exact hq
  |outgrown=>exact hq
 |loop c ihc=>
  intro n0 tx rn b U0 w0 h0 hB hn hc hav Q fr Z U w a hx hI hF h
  simp only[aw]at h
  obtain⟨I,m0,⟨fr1,Z1,hw1,hI1⟩,hround⟩:=h
  obtain⟨U1,k1,k2,k3⟩:=hw1 U0 w0 U w _ h0 hx hI hF.2
  refine wpIn_loop_ghost (λ m a w=>∃fr Z U,Ext U0 w0 U w∧Inv G U Z w∧dl b U w fr a∧I m fr Z) m0 ⟨fr1,Z1,U1,k1,k2,⟨hF.1,k3⟩,hI1⟩ ?_
  rintro m a' w' ⟨fr2,Z2,U2,q1,q2,q3,q4⟩
  refine wpIn_mono (ihc h0 hB hn (by revert hc;cases tx.tx<;> simp+contextual [dX]) hav q1 q2 q3 (hround m fr2 Z2 q4)) λ e a'' w'' hq=> ?_
  cases e with
  |normal=>
   obtain⟨fr3,Z3,U3,h1,h2,h3,fr4,Z4,hw4,m',hlt,hI4⟩:=hq
   obtain⟨U4,r1,r2,r3⟩:=hw4 U0 w0 U3 w'' _ h0 h1 h2 h3.2
   exact⟨m',hlt,fr4,Z4,U4,r1,r2,⟨h3.1,r3⟩,hI4⟩
  |exit i=>exact hq
  |ret=>exact hq
  |goto l=>exact hq
  |panic c=>exact hq
  |outgrown=>exact hq
 |rangeFunc g ps assign body iha ihb=>
  intro n0 tx rn b U0 w0 h0 hB hn hc hav Q fr Z U w a hx hI hF h
  exact yU iha ihb h0 hB hn hc hav hx hI hF h
 |exit id=>
  intro n0 tx rn b U0 w0 h0 hB hn hc hav Q fr Z U w a hx hI hF h
  exact wpIn_exit ⟨fr,Z,U,hx,hI,hF,by simpa only[aw]using h⟩
 |ret=>
  intro n0 tx rn b U0 w0 h0 hB hn hc hav Q fr Z U w a hx hI hF h
  exact wpIn_ret ⟨fr,Z,U,hx,hI,hF,by simpa only[aw]using h⟩
 |label l=>
  intro n0 tx rn b U0 w0 h0 hB hn hc hav Q fr Z U w a hx hI hF h
  exact wpIn_label ⟨fr,Z,U,hx,hI,hF,by simpa only[aw]using h⟩
 |scope c ihc=>
  intro n0 tx rn b U0 w0 h0 hB hn hc hav Q fr Z U w a hx hI hF h
  simp only[aw]at h
  refine oF (wpIn_mono (ihc h0 hB hn (by revert hc;cases tx.tx<;> simp+contextual [dX]) hav hx hI hF h) λ e a' w' hq=> ?_)
  cases e with
  |normal=>exact hq
  |exit i=>exact hq
  |ret=>exact hq
  |goto l=>exact hq
  |panic c=>exact hq
  |outgrown=>exact hq
 |region id ops draw=>
  intro n0 tx rn b U0 w0 h0 hB hn hc hav Q fr Z U w a hx hI hF h
  cases draw with
  |false=>
   simp only[aw]at h
   exact wpIn_region_list (nK ops.toList (lI hav) hI hF h (λ U' Z' a' w' h1 h2 h3 chain w'' hp=>⟨hp.pre (hx.trans h1),hp.dfs h2 h3⟩) λ fr' Z' U' a' w' h1 h2 h3 h4=>⟨fr',Z',U',hx.trans h1,h2,h3,h4⟩)
  |true=>
   simp only[aw]at h
   have fin:∀p:Plan,p.depth≤ops.size→p.check (eg ops) false 0=true→dP P G ops (Q .normal) p fr Z→(Code.region id ops true).wpIn (RF rn) 0 P (Behind G b U0 w0 Q) a w:=λ p h1 h2 h3=>
    Bp hm (lI hav) p h1 h2 hI hF h3 (λ U' Z' a' w' h1 h2 h3 chain w'' hp=>⟨hp.pre (hx.trans h1),hp.dfs h2 h3⟩) λ fr' Z' U' a' w' k1 k2 k3 k4=>⟨fr',Z',U',hx.trans k1,k2,k3,k4⟩
   obtain⟨tx,cuts,rnd⟩:=tx
   cases tx with
   |true=>
    simp only[dX,textB,textM,eg,ac,Array.length_toList,g9,fj]at hc
    exact fin _ (by rw[tf];exact aE _) hc (by have:=vu (P:=P) (G:=G) ops.toList 0 (by simp) h;simpa using this)
   |false=>
    rcases h with⟨p,h1,h2,h3⟩|⟨g,h1,h2,h3⟩
    ·exact fin p h1 h2 h3
    ·exact zG hm (lI hav) g h1 h2 hI hF h3 (λ U' Z' a' w' h1 h2 h3 chain w'' hp=>⟨hp.pre (hx.trans h1),hp.dfs h2 h3⟩) λ fr' Z' U' a' w' k1 k2 k3 k4=>⟨fr',Z',U',hx.trans k1,k2,k3,k4⟩
 |goto l=>
  intro n0 tx rn b U0 w0 h0 hB hn hc hav Q fr Z U w a hx hI hF h
  simp only[aw]at h
 |refuse y=>
  intro n0 tx rn b U0 w0 h0 hB hn hc hav Q fr Z U w a hx hI hF h
  simp only[aw]at h

def CQ(P:Program)(Z:St)(fr:Fr):List ResultVar→(List A→Prop)→Prop
 |[],k=>k []
 | .tmp t::r,k=>CQ P Z fr r λ as=>k (fr.getD t .o::as)
 | .cell a t::r,k=>fa P Z t (λ p x=>p∧CQ P Z fr r λ as=>k (x::as)) (fr.getD a .o)
def packA:List A→A
 |[x]=>x
 |as=> .tup as
theorem zr{t:TypeId}{v u:Value}(h:(Instr.loadAt t v).run P w= .ok u w):(do loadVar t (←asAddr v)).run P w= .ok u w:=by
 cases v with
 |pointer a=>
  cases a with
  |none=>simp [Instr.loadAt,Instr.sureAddr]at h
  |some a=>simpa [Instr.loadAt,Instr.sureAddr,asAddr]using h
 |_=>simp [Instr.loadAt,Instr.sureAddr]at h
def resF(tmps:Array Value):ResultVar→Sem Value
 | .tmp t=>pure (tmps.getD t undef)
 | .cell a t=>do loadVar t (←asAddr (tmps.getD a undef))
theorem AQ(fn:Func)(tmps:Array Value):results fn tmps=(do let vs←fn.results.mapM (resF tmps);pure (if h:vs.size=1 then vs[0]else .tuple vs)):=rfl
def yy:ResultVar→Nat
 | .tmp t=>t
 | .cell a _=>a
theorem pf{fr:Fr}{tmps:Array Value}(hI:Inv G U Z w):∀(rs:List ResultVar) {k:List A→Prop},(∀r∈rs,RepA U w (fr.getD (yy r) .o) (tmps.getD (yy r) undef))→CQ P Z fr rs k→∃as vs,k as∧fy U w as vs∧
  (rs.mapM (resF tmps)).run P w= .ok vs w
 |[],k,hs,h=>⟨[],[],h,⟨rfl,λ i x v hx=>by simp at hx⟩,rfl⟩
 | .tmp t::r,k,hs,h=>by
  obtain⟨as,vs,h1,h2,h3⟩:=pf hI r (k:=λ as=>k (fr.getD t .o::as)) (λ r hr=>hs r (bR _ hr)) h
  refine⟨_,tmps.getD t undef::vs,h1,⟨by simp [h2.1],λ i x v hx hv=> ?_⟩,?_⟩
  ·match i with
   |0=>injection hx with hx;injection hv with hv;subst hx;subst hv;exact hs _ (cy ..)
   |i+1=>exact h2.2 i x v (by simpa using hx) (by simpa using hv)
  ·simp only[List.mapM_cons,resF,Sem.run_bind,Sem.run_pure,Result.andThen_ok,h3]
 | .cell x t::r,k,hs,h=>by
  simp only[CQ]at h
  obtain⟨p,y,⟨hp,hk⟩,hs'⟩:=mB (P:=P) hI (hs _ (cy ..)) h
  obtain⟨v,h1,h2⟩:=hs' hp
  obtain⟨as,vs,h4,h5,h6⟩:=pf hI r (λ r hr=>hs r (bR _ hr)) hk
  refine⟨_,v::vs,h4,⟨by simp [h5.1],λ i x v hx hv=> ?_⟩,?_⟩
  ·match i with
   |0=>simp at hx hv;subst hx;subst hv;exact h2
   |i+1=>exact h5.2 i x v (by simpa using hx) (by simpa using hv)
  ·have he:(resF tmps (.cell x t)).run P w= .ok v w:=zr h1
   simp only[List.mapM_cons,Sem.run_bind,he,Result.andThen_ok,h6,Sem.run_pure]

def Ar(P:Program)(G:Glob)(n0:Nat)(fn:Func)(R:A→St→Prop)(fr:Fr)(Z:St):Prop:=
 CQ P Z fr fn.results.toList λ as=>∃r Z',bw G n0 [packA as] Z [r] Z'∧R r Z'
def DT(P:Program)(G:Glob)(n0:Nat)(fn:Func)(R:A→St→Prop):wJ
 | .normal,fr,Z=>Ar P G n0 fn R fr Z
 | .ret,fr,Z=>Ar P G n0 fn R fr Z
 | .exit _,_,_=>False

theorem pack_rep{as:List A}{vs:List Value}(h:fy U w as vs):RepA U w (packA as) (if h:vs.toArray.size=1 then vs.toArray[0]else .tuple vs.toArray):=by
 match as,vs,h with
 |[],[],h=>exact .tup [] [] rfl (λ i x v hx=>by simp at hx)
 |[x],[v],h=>exact h.2 0 x v rfl rfl
 |x::y::as,v::u::vs,h=>
  rw[dif_neg (by simp)]
  exact .tup _ _ h.1 h.2
 |[],_::_,h=>simp [fy]at h
 |[_],[],h=>simp [fy]at h
 |[_],_::_::_,h=>simp [fy]at h
 |_::_::_,[],h=>simp [fy]at h
 |_::_::_,[_],h=>simp [fy]at h

theorem RepD.put{m:Nat→Prop}{x:D}{v:Value}(hs:w.heap.size≤w'.heap.size)(hc:∀a v,w.cell? a=some v→w'.cell? a=some v)(h:RepD w m x v):RepD w' m x v:=by
 induction h with
 |int k n=>exact .int k n
 |bool b=>exact .bool b
 |str s=>exact .str s
 |nilp=>exact .nilp
 |nilf=>exact .nilf
 |nili=>exact .nili
 |nilm=>exact .nilm
 |nils=>exact .nils
 |sl0 sz a c=>exact .sl0 sz a c
 |sl sz xs b o c vs hm hb hcp len one cell rep ih=>exact .sl sz xs b o c vs hm (cQ hb hs) hcp len one (λ i x j y h1 h2=>hc _ _ (cell i x j y h1 h2)) ih
 |agg cs vs len one rep ih=>exact .agg cs vs len one ih
theorem RepA.put{x:A}{v:Value}(hs:w.heap.size≤w'.heap.size)(hc:∀a v,w.cell? a=some v→w'.cell? a=some v)(hh:∀(b:Nat) vs e z,w.heap[b]? =some (.cells vs e z)→w'.heap[b]? =some (.cells vs e z))(h:RepA U w x v):RepA U w' x v:=by
 induction h with
 |d h=>exact .d (h.put hs hc)
 |ea x off b o vs hm hb one cell rep=>exact .ea x off b o vs hm (cQ hb hs) one (λ j y h1=>hc _ _ (cell j y h1)) (λ j y h1=>(rep j y h1).put hs hc)
 |ref off h=>exact .ref off h
 |refDead off v h=>exact .refDead off v h
 |rs h hb hcp hsz ho=>exact .rs h (hh _ _ _ _ hb) hcp hsz ho
 |rsEmpty sz ow h=>exact .rsEmpty sz ow h
 |rsDead sz off len ow v h=>exact .rsDead sz off len ow v h
 |mapr h=>exact .mapr h
 |mapDead v h=>exact .mapDead v h
 |agg cs vs len one rep ih=>exact .agg cs vs len one ih
 |tup cs vs len rep ih=>exact .tup cs vs len ih
 |fn f cs ds vs us len len' rep rep' ih ih'=>exact .fn f cs ds vs us len len' ih ih'
 |ifc t h ih=>exact .ifc t ih
 |grd c h h' ih=>exact .grd c ih h'
 |o v=>exact .o v
theorem Inv.shut{U0:gM}{w0:World}(hx:Ext U0 w0 U w)(hI:Inv G U Z w){r:Nat}{ds:Option (List Deferred)}(hr:w.heap[r]? =some (.deferred ds))(h0:w0.heap.size≤r)(o:Option (List Deferred)):
  Ext U0 w0 U (w.putObj r (.deferred o))∧Inv G U Z (w.putObj r (.deferred o))∧∀(x:A) (v:Value),RepA U w x v→RepA U (w.putObj r (.deferred o)) x v:=by
 have hold:∀k,k≠r→(w.putObj r (.deferred o)).heap[k]? =w.heap[k]? :=λ k hk=>World.putObj_heap_other hk
 have hcell:∀a v,w.cell? a=some v→(w.putObj r (.deferred o)).cell? a=some v:=λ a v h=>by
  have hne:a.block≠r:=λ e=>by
   simp only[World.cell?,e,hr]at h
   cases h
  rw[←h]
  simp only[World.cell?,hold _ hne]
 have hh:∀(b:Nat) vs e z,w.heap[b]? =some (.cells vs e z)→(w.putObj r (.deferred o)).heap[b]? =some (.cells vs e z):=λ b vs e z h=>by
  rw[hold b (λ e=>by rw[e,hr]at h;cases h)];exact h
 have hsz:w.heap.size≤(w.putObj r (.deferred o)).heap.size:=by simp
 have hrep:∀(x:A) (v:Value),RepA U w x v→RepA U (w.putObj r (.deferred o)) x v:=λ x v h=>h.put hsz hcell hh
 refine⟨⟨hx.os,hx.tape,hx.output,Es hx.size hsz,hx.len,hx.ids,hx.fresh,λ b hb hm=> ?_,λ b vs e z h=> ?_⟩,⟨hI.len,hI.inj,λ i b h=>cQ (hI.lt i b h) hsz,λ id o' h=> ?_,λ g x h=>hrep _ _ (hI.glob g x h),hI.bd,λ b hb ds' he=> ?_⟩,hrep⟩
 ·rw[hold b (by omega)];exact hx.block b hb hm
 ·obtain⟨vs',h1,h2⟩:=hx.shape b vs e z h
  exact⟨vs',hh _ _ _ _ h1,h2⟩
 ·rcases hI.obj id o' h with⟨b,h1,h2⟩|h1
  ·refine .inl ⟨b,h1,?_⟩
   have hb:(w.putObj r (.deferred o)).heap[b]? =w.heap[b]? :=hold b (λ e=>hI.own b ⟨id,h1⟩ ds (by rw[e];exact hr))
   cases o' with
   |cells cs=>
    obtain⟨us,e,k1,k2,k3⟩:=h2
    exact⟨us,e,by rw[hb];exact k1,k2,λ i x hx'=>let ⟨v,q1,q2,q3⟩:=k3 i x hx';⟨v,q1,q2,hrep _ _ q3⟩⟩
   |map es=>
    obtain⟨ms,clock,k1,k2,k3⟩:=h2
    exact⟨ms,clock,by rw[hb];exact k1,k2,λ i x m hx' hm=>let ⟨q1,q2⟩:=k3 i x m hx' hm;⟨q1.put hsz hcell,hrep _ _ q2⟩⟩
   |lp l r fr=>
    obtain⟨k1,k2,k3⟩:=h2
    exact⟨k1,by rw[hb];exact k2,⟨k3.1,λ i x v h1 h2=>hrep _ _ (k3.2 i x v h1 h2)⟩⟩
  ·exact .inr h1
 ·by_cases hbr:b=r
  ·subst hbr;exact hI.own b hb ds hr
  ·rw[hold b hbr]at he;exact hI.own b hb ds' he
theorem nw{fn:Func}{R:Ending→World→Prop}{U0:gM}{w0:World}{tmps:Array Value}{T:List Deferred}{u:FrameMode}(hu:u≠.run):∀{ds:List Deferred} {w:World},Ext U0 w0 U w→Inv G U Z w→lA w0.heap.size w ds→
  (∀w',Ext U0 w0 U w'→Inv G U Z w'→(∀(x:A) (v:Value),RepA U w x v→RepA U w' x v)→LeavesInM (RF none) 0 P fn tmps R T u w')→LeavesInM (RF none) 0 P fn tmps R (ds++T) u w
 |[],w,hx,hI,_,hT=>hT w hx hI λ _ _ h=>h
 |d::ds,w,hx,hI,⟨⟨r,hd,h1,h2,h3⟩,hM⟩,hT=>by
  obtain⟨x1,I1,hrep⟩:=hI.shut hx h2 h1 none
  refine⟨hu,.inl ⟨r,_,by rw[hd],run_takeDeferred h2,nw hu x1 I1 ?_ λ w' k1 k2 k3=>hT w' k1 k2 λ x v h=>k3 x v (hrep x v h)⟩⟩
  have:∀{ds:List Deferred},(∀d'∈ds,d'.target≠.collected r)→lA w0.heap.size w ds→lA w0.heap.size (w.putObj r (.deferred none)) ds:=λ {ds} hne hM=>by
   induction ds with
   |nil=>trivial
   |cons e ds ih=>
    obtain⟨⟨r',g1,g2,g3,g4⟩,g5⟩:=hM
    refine⟨⟨r',g1,g2,?_,g4⟩,ih (λ d' hd'=>hne d' (bR _ hd')) g5⟩
    rw[World.putObj_heap_other (λ e'=>hne _ (cy ..) (by rw[g1,e']))]
    exact g3
  exact this h3 hM
theorem CP{n0:Nat}{fn:Func}{R:A→St→Prop}{U0:gM}{w0:World}{fr:Fr}{tmps:Array Value}(h0:U0.length=n0)(h:Ar P G n0 fn R fr Z)(hx:Ext U0 w0 U w)(hI:Inv G U Z w)(hs:∀r∈fn.results.toList,RepA U w (fr.getD (yy r) .o) (tmps.getD (yy r) undef)):
  LeavesInM (RF none) 0 P fn tmps (kA P G U0 w0 R) [] .returning w:=by
 obtain⟨as,vs,⟨r,Z',hw,hR⟩,hrep,hrun⟩:=pf hI fn.results.toList hs h
 have hp:=pack_rep hrep
 obtain⟨U',k1,k2,k3⟩:=hw U0 w0 U w [if h:vs.toArray.size=1 then vs.toArray[0]else .tuple vs.toArray] h0 hx hI ⟨rfl,λ i x v hx hv=>by
  match i with
  |0=>injection hx with hx;injection hv with hv;subst hx;subst hv;exact hp
  |i+1=>simp at hx⟩
 refine⟨_,?_,.inl ⟨_,U',Z',r,rfl,k1,k2,k3.2 0 r _ rfl rfl,hR⟩⟩
 rw[AQ]
 simp only[Array.mapM_eq_mapM_toList,Sem.run_bind,Sem.run_map,hrun,Result.andThen_ok,Sem.run_pure]
theorem vH{b:Df}{n0:Nat}{fn:Func}{R:A→St→Prop}{U0:gM}{w0:World}{fr:Fr}{a:Act}(hb:b.T=[])(hB:b.B=w0.heap.size)(h0:U0.length=n0)(h:Ar P G n0 fn R fr Z)(hx:Ext U0 w0 U w)(hI:Inv G U Z w)(hF:dl b U w fr a):
  LeavesInM (RF none) 0 P fn a.tmps (kA P G U0 w0 R) a.defers .returning w:=by
 obtain⟨⟨⟨ms,h1,h2,_⟩,_⟩,hL⟩:=hF
 rw[h1,hb]
 exact nw (by simp) hx hI (hB▸h2) λ w' k1 k2 k3=>CP h0 h k1 k2 λ r _=>k3 _ _ (yx hL (yy r))
theorem C6{b:Df}{fn:Func}{R:A→St→Prop}{U0:gM}{w0:World}{a:Act}{chain:List PanicEntry}(hb:b.T=[])(hB:b.B=w0.heap.size)(h:Pan G U0 w0 chain w)(hd:xV b w a):
  LeavesInM (RF none) 0 P fn a.tmps (kA P G U0 w0 R) a.defers (.panicking chain) w:=by
 obtain⟨⟨ms,h1,h2,_⟩,_⟩:=hd
 obtain⟨v,U',Z',r,g1,g2,g3,g4,g5⟩:=h
 rw[h1,hb]
 exact nw (by simp) g2 g3 (hB▸h2) λ w' k1 k2 k3=> .inr ⟨chain,rfl,v,U',Z',r,g1,k1,k2,k3 _ _ g4,g5⟩

theorem oE (hm:P.follows .mixedOrders=true) {tx:Md} {f:FuncId} {fn:Func} {c:Code} {n:Nat} {args:List A} {R:A→St→Prop} (hf:P.funcs[f]? =some fn) (hb:fn.body=some c) (hn:fn.ntmps=n) (hcall:aG P f=true)
  (hlex:(!tx.tx||dX c)=true) (h:Bd Z.length Z→aw P G Z.length tx c (DT P G Z.length fn R) (args++List.replicate (n - args.length) .o) Z):AC P G f args Z R:=by
 refine⟨hcall,λ U w vs hI hL=> ?_⟩
 refine(callsIn_wide (n:=0)).1 (callsIn_of_wp_marks (F:=RF none) hf hb trivial ?_ rfl)
 have hF:dl (.at w.heap.size) U w (args++List.replicate (n - args.length) .o) { tmps:=vs.toArray++Array.replicate (fn.ntmps - vs.toArray.size) undef,defers:=[]}:=by
  refine⟨⟨⟨[],rfl,trivial,λ _=>rfl⟩,λ p hp=>by cases hp⟩,by have:=hL.1;simp [hn];omega,λ i x v hx hv=> ?_⟩
  by_cases hi:i<args.length
  ·rw[aq hi]at hx
   simp only[dC]at hv
   rw[aq (by have:=hL.1;simpa using by omega)]at hv
   exact hL.2 i x v hx hv
  ·rw[az (by omega),gK]at hx
   split at hx
   ·injection hx with hx;subst hx;exact .o _
   ·cases hx
 refine wpIn_mono (aw_sound hm c (rn:=none) (b:= .at w.heap.size) hI.len rfl (λ _=>⟨rfl,rfl⟩) hlex (pM _) (Ext.refl U w) hI hF (h hI.bd)) λ e a' w' hq=> ?_
 cases e with
 |normal=>
  obtain⟨fr,Z',U',h1,h2,h3,h4⟩:=hq
  exact vH rfl rfl hI.len h4 h1 h2 h3
 |ret=>
  obtain⟨fr,Z',U',h1,h2,h3,h4⟩:=hq
  exact vH rfl rfl hI.len h4 h1 h2 h3
 |exit i=>obtain⟨_,_,_,_,_,_,h⟩:=hq;exact h.elim
 |goto l=>exact hq.elim
 |panic c=>exact C6 rfl rfl hq.1 hq.2
 |outgrown=>exact hq.elim

theorem bg (hm:P.follows .mixedOrders=true) {f:FuncId} {fn:Func} {c:Code} {n:Nat} {args:List A} {R:A→St→Prop} (hf:P.funcs[f]? =some fn) (hb:fn.body=some c) (hn:fn.ntmps=n) (hcall:aG P f=true)
  (h:Bd Z.length Z→aw P G Z.length ⟨true,[],false⟩ c (DT P G Z.length fn R) (args++List.replicate (n - args.length) .o) Z) (hlex:dX c=true:=by kernel_rfl):AC P G f args Z R:=oE hm hf hb hn hcall (by simpa using hlex) h
theorem bM (hm:P.follows .mixedOrders=true) {f:FuncId} {fn:Func} {c:Code} {n:Nat} {args:List A} {R:A→St→Prop} (hf:P.funcs[f]? =some fn) (hb:fn.body=some c) (hn:fn.ntmps=n) (hcall:aG P f=true)
  (h:Bd Z.length Z→aw P G Z.length ⟨false,[],false⟩ c (DT P G Z.length fn R) (args++List.replicate (n - args.length) .o) Z):AC P G f args Z R:=oE hm hf hb hn hcall rfl h
theorem iN (cuts:List Nat) (hm:P.follows .mixedOrders=true) {f:FuncId} {fn:Func} {c:Code} {n:Nat} {args:List A} {R:A→St→Prop} (hf:P.funcs[f]? =some fn) (hb:fn.body=some c) (hn:fn.ntmps=n) (hcall:aG P f=true)
  (h:Bd Z.length Z→aw P G Z.length ⟨true,cuts,false⟩ c (DT P G Z.length fn R) (args++List.replicate (n - args.length) .o) Z) (hlex:dX c=true:=by kernel_rfl):AC P G f args Z R:=oE hm hf hb hn hcall (by simpa using hlex) h
theorem bD (cuts:List Nat) (hm:P.follows .mixedOrders=true) {f:FuncId} {fn:Func} {c:Code} {n:Nat} {args:List A} {R:A→St→Prop} (hf:P.funcs[f]? =some fn) (hb:fn.body=some c) (hn:fn.ntmps=n) (hcall:aG P f=true)
  (h:Bd Z.length Z→aw P G Z.length ⟨false,cuts,false⟩ c (DT P G Z.length fn R) (args++List.replicate (n - args.length) .o) Z):AC P G f args Z R:=oE hm hf hb hn hcall rfl h

theorem bw.cut{n0:Nat}{fr:Fr}{Z junk:St}(hn:n0≤Z.length)(hbd:Bd Z.length Z)(hfr:jo Z.length fr=true):bw G n0 fr (Z++junk) fr Z:=λ U0 w0 U w vs h0 hx hI hr=>by
 have hlen:U.length=Z.length+junk.length:=by have:=hI.len;simpa using this
 have hget:∀i,i<Z.length→(U.take Z.length)[i]? =U[i]? :=λ i hi=>bL hi
 have hsub:∀(i:Nat) (r:Rs),(U.take Z.length)[i]? =some r→i<Z.length∧U[i]? =some r:=λ i r h=>by
  have hi:i<Z.length:=by
   have:=(aA.1 h).1
   simp at this;omega
  exact⟨hi,by rw[←hget i hi];exact h⟩
 have hM:∀b,M (U.take Z.length) b→M U b:=λ b ⟨i,h⟩=>⟨i,(hsub i _ h).2⟩
 refine⟨U.take Z.length,⟨hx.os,hx.tape,hx.output,hx.size,by simp;omega,λ id r h=> ?_,λ b h hlt=>hx.fresh b (hM b h) hlt,hx.block,hx.shape⟩,⟨by simp;omega,λ i j b h1 h2=>hI.inj i j b (hsub i _ h1).2 (hsub j _ h2).2,λ i b h=>hI.lt i b (hsub i _ h).2,λ id o h=> ?_,λ g x h=>(hI.glob g x h).cut hget hM rfl,hbd,λ b hb=>hI.own b (hM b hb)⟩,
  ⟨hr.1,λ i x v h1 h2=>(hr.2 i x v h1 h2).cut hget hM (gl hfr i x h1)⟩⟩
 ·have hid:id<U0.length:=(aA.1 h).1
  rw[hget id (by omega)]
  exact hx.ids id r h
 ·have hid:id<Z.length:=(aA.1 h).1
  have hob:=hbd id o h
  rcases hI.obj id o (by rw[aq hid];exact h)with⟨b,h1,h2⟩|⟨h1,h2⟩
  ·refine .inl ⟨b,by rw[hget id hid];exact h1,?_⟩
   cases o with
   |cells cs=>
    obtain⟨vs,e,a1,a2,a3⟩:=h2
    exact⟨vs,e,a1,a2,λ i x hx'=>let ⟨v,b1,b2,b3⟩:=a3 i x hx';⟨v,b1,b2,b3.cut hget hM (gl hob i x hx')⟩⟩
   |map es=>
    obtain⟨ms,c,a1,a2,a3⟩:=h2
    refine⟨ms,c,a1,a2,λ i x m hx' hm=>⟨?_,(a3 i x m hx' hm).2.cut hget hM ?_⟩⟩
    ·have:=(RepA.d (a3 i x m hx' hm).1:RepA U w (.d x.1) m.key).cut hget hM rfl
     cases this with|d h=>exact h
    ·simp only[Ob.bd,aZ]at hob
     exact hob x (bh hx')
   |lp l r fr=>
    obtain⟨a0,a1,a2⟩:=h2
    exact⟨a0,a1,⟨a2.1,λ i x v h1 h2=>(a2.2 i x v h1 h2).cut hget hM (gl hob i x h1)⟩⟩
  ·exact .inr ⟨by rw[hget id hid];exact h1,h2⟩

def iX(live:List Nat):Nat→Fr→Fr
 |_,[]=>[]
 |i,x::r=>(if live.contains i then x else .o)::iX live (i+1) r
theorem vU(live:List Nat):∀(fr:Fr) (n i:Nat),(iX live n fr)[i]? =(fr[i]?).map λ x=>if live.contains (n+i)then x else .o
 |[],n,i=>by simp [iX]
 |x::fr,n,0=>by simp [iX]
 |x::fr,n,i+1=>by
  simp only[iX,cN,vU live fr (n+1) i]
  rw[show n+1+i=n+(i+1)by omega]
theorem vT(live:List Nat):∀(fr:Fr) (n:Nat),(iX live n fr).length=fr.length
 |[],_=>rfl
 |x::fr,n=>by simp [iX,vT live fr (n+1)]
theorem bw.mask{n0:Nat}{fr:Fr}{Z:St}(live:List Nat):bw G n0 fr Z (iX live 0 fr) Z:=λ U0 w0 U w vs h0 hx hI hr=>by
 refine⟨U,hx,hI,by rw[vT];exact hr.1,λ i x v h1 h2=> ?_⟩
 rw[vU]at h1
 simp only[bj]at h1
 obtain⟨y,hy,rfl⟩:=h1
 split
 ·exact hr.2 i y v hy h2
 ·exact .o _
theorem Wk.mask{n0:Nat}{fr:Fr}{Z:St}{I:Fr→St→Prop}(live:List Nat)(h:I (iX live 0 fr) Z):Wk G n0 I fr Z:=⟨_,Z,bw.mask live,h⟩
theorem Wk.cut{n0:Nat}{fr:Fr}{Z junk:St}{I:Fr→St→Prop}(live:List Nat)(hn:n0≤Z.length)(hbd:Bd Z.length Z)(hfr:jo Z.length (iX live 0 fr)=true)(h:I (iX live 0 fr) Z):Wk G n0 I fr (Z++junk):=
 ⟨_,Z,(bw.mask live).trans (bw.cut hn hbd hfr),h⟩
theorem Bd.append{n:Nat}{Z l:St}(h:Bd n Z)(hl:∀o,some o∈l→o.bd n=true):Bd n (Z++l):=λ id o ho=>by
 by_cases hid:id<Z.length
 ·rw[aq hid]at ho;exact h id o ho
 ·rw[az (by omega)]at ho
  exact hl o (bh ho)
theorem aQ{Z junk:St}{x:D}{R:A→St→Prop}(hbd:Bd Z.length Z)(h:R (.d x) Z):∃r Z',bw G Z.length [.d x] (Z++junk) [r] Z'∧R r Z':=
 ⟨_,Z,bw.cut (aE _) hbd rfl,h⟩
theorem cw{Z:St}{x:D}{R:A→St→Prop}(h:R (.d x) Z):∃r Z',bw G Z.length [.d x] Z [r] Z'∧R r Z':=⟨_,Z,bw.refl _ _ _ _,h⟩
end
end Go.Ab
