import Derived.Test.YtdpdbokicanpoaaGreatDoorAbK
import Derived.Test.YtdpdbokicanpoaaGreatDoorAbWrite4
import Derived.MapKept
set_option linter.unusedSimpArgs false
set_option linter.unusedVariables false
set_option maxHeartbeats 64000000
namespace Go.Ab
open Go Go.RowKit

def ll:D→D→Option Bool
 | .int k a,.int k' b=>if k=k' then some (a==b)else none
 | .str a,.str b=>some (a==b)
 | .bool a,.bool b=>some (a==b)
 |_,_=>none
def ja(k:D):List (D×A)→Option (Option A)
 |[]=>some none
 |(k',v)::es=>match ll k k' with
  |some true=>some (some v)
  |some false=>ja k es
  |none=>none
def nk(k:D)(v:A):List (D×A)→List (D×A)
 |[]=>[(k,v)]
 |(k',u)::es=>match ll k k' with
  |some true=>(k',v)::es
  |_=>(k',u)::nk k v es
def vl(k:D):List (D×A)→List (D×A)
 |[]=>[]
 |(k',u)::es=>match ll k k' with
  |some true=>es
  |_=>(k',u)::vl k es
section
variable (P:Program) (Z:St)
def gP(t:TypeId)(k:D):Bool:=match P.underlying t,k with
 |some (.int _),.int _ _=>true
 |some .string,.str _=>true
 |some .bool,.bool _=>true
 |_,_=>false
def sv(t:TypeId):Option (TypeId×TypeId):=match P.underlying t with
 |some (.map k e)=>some (k,e)
 |_=>none
def pO(t:TypeId):Option A:=match P.info? t with
 |some i=>match i.zero with
  |some z=>some (xO z)
  |none=>none
 |none=>none
def ua(ok:Bool)(v:A)(b:Bool):A:=bif ok then .tup [v,.d (.bool b)]else v
def fz(t:TypeId)(ok:Bool)(k:Prop→A→Prop)(m key:A):Prop:=match sv P t,key with
 |some (kt,e),.d kd=>match m with
  | .mapr id=>match Z[id]? with
   |some (some (.map es))=>match ja kd es with
    |some (some v)=>k (gP P kt kd=true) (ua ok v true)
    |some none=>match pO P e with
     |some z=>k (gP P kt kd=true) (ua ok z false)
     |none=>False
    |none=>False
   |_=>False
  | .d .nilm=>match pO P e with
   |some z=>k (gP P kt kd=true) (ua ok z false)
   |none=>False
  |_=>False
 |_,_=>False
def nT(k:Prop→A→St→Prop):Prop:=k True (.mapr Z.length) (Z++[some (.map [])])
def eV(t:TypeId)(m key v:A)(k:Prop→A→St→Prop):Prop:=match sv P t,m,key with
 |some (kt,_),.mapr id,.d kd=>match Z[id]? with
  |some (some (.map es))=>k (gP P kt kd=true∧(ja kd es).isSome=true∧v.bd Z.length=true) .o (Z.set id (some (.map (nk kd v es))))
  |_=>False
 |_,_,_=>False
def jy(t:TypeId)(m key:A)(k:Prop→A→St→Prop):Prop:=match sv P t,m,key with
 |some (kt,_),.mapr id,.d kd=>match Z[id]? with
  |some (some (.map es))=>k (gP P kt kd=true∧(ja kd es).isSome=true) .o (Z.set id (some (.map (vl kd es))))
  |_=>False
 |_,_,_=>False
end
section
variable {P:Program} {U U':gM} {w w':World} {Z:St} {G:Glob}
theorem ra{t k e:TypeId}(h:sv P t=some (k,e)):P.underlying t=some (.map k e):=by
 unfold sv at h
 split at h
 ·rename_i hu;injection h with h;injection h with h1 h2;subst h1;subst h2;exact hu
 ·cases h
theorem BW{kt:TypeId}{kd kd':D}{v v':Value}{m:Nat→Prop}(hk:gP P kt kd=true)(h:RepD w m kd v)(h':RepD w m kd' v'){r:Bool}(he:ll kd kd'=some r):
  ∃d,P.underlying kt=some d∧Instr.sameNow d v v'=some r:=by
 unfold gP at hk
 split at hk
 ·rename_i q k' a hu
  cases h
  cases h'<;> simp only[ll]at he<;> first|cases he|skip
  split at he
  ·rename_i e;subst e
   injection he with he;subst he
   exact⟨_,hu,by simp [Instr.sameNow]⟩
  ·cases he
 ·rename_i hu
  cases h
  cases h'<;> simp only[ll]at he<;> first|cases he|skip
  refine⟨_,hu,?_⟩
  rename_i s s'
  simp only[Instr.sameNow,Option.some.injEq]
  rw[dD,MapKept.bytes_beq]
  simp only[cg]
  exact⟨λ h=>by rw[h],λ h=>ByteArray.ext (Array.toList_inj.1 h)⟩
 ·rename_i hu
  cases h
  cases h'<;> simp only[ll]at he<;> first|cases he|skip
  exact⟨_,hu,rfl⟩
 ·cases hk
theorem jt{kt:TypeId}{kd:D}(hk:gP P kt kd=true):∃d,P.underlying kt=some d∧(∀e n v,RepD w (M U) kd v→(Instr.checkKey e (n+1) kt v).run P w= .ok () w):=by
 unfold gP at hk
 split at hk
 ·rename_i hu;exact⟨_,hu,λ e n v h=>by cases h;simp [Instr.checkKey,run_underlying hu]⟩
 ·rename_i hu;exact⟨_,hu,λ e n v h=>by cases h;simp [Instr.checkKey,run_underlying hu]⟩
 ·rename_i hu;exact⟨_,hu,λ e n v h=>by cases h;simp [Instr.checkKey,run_underlying hu]⟩
 ·cases hk
def rN(U:gM)(w:World)(es:List (D×A))(ms:List MapEntry):Prop:=es.length=ms.length∧∀(i:Nat) (x:D×A) (m:MapEntry),es[i]? =some x→ms[i]? =some m→RepD w (M U) x.1 m.key∧RepA U w x.2 m.val
theorem rN.tail{x:D×A}{es:List (D×A)}{m:MapEntry}{ms:List MapEntry}(h:rN U w (x::es) (m::ms)):rN U w es ms:=
 ⟨by simpa using h.1,λ i y n h1 h2=>h.2 (i+1) y n (by simpa using h1) (by simpa using h2)⟩
theorem nF{kt:TypeId}{d:TypeDesc}{kd:D}{kv:Value}(hd:P.underlying kt=some d)(hk:gP P kt kd=true)(hkv:RepD w (M U) kd kv):∀{es:List (D×A)} {ms:List MapEntry} (i:Nat) {r:Option A},rN U w es ms→ja kd es=some r→
  (r=none∧Instr.findNow d kv ms i=some none)∨∃j x v m,r=some v∧es[j]? =some (x,v)∧ms[j]? =some m∧RepA U w v m.val∧Instr.findNow d kv ms i=some (some (i+j,m.val))∧ll kd x=some true∧∀k y,k<j→es[k]? =some y→ll kd y.1=some false
 |[],[],i,r,_,h=>by simp only[ja,Option.some.injEq]at h;subst h;exact .inl ⟨rfl,rfl⟩
 |[],m::ms,i,r,h,_=>by have:=h.1;simp at this
 |x::es,[],i,r,h,_=>by have:=h.1;simp at this
 |(x,v)::es,m::ms,i,r,hE,h=>by
  obtain⟨h1,h2⟩:=hE.2 0 (x,v) m rfl rfl
  unfold ja at h
  split at h
  ·rename_i hk2
   obtain⟨d',hd',hs⟩:=BW hk hkv h1 hk2
   obtain rfl:d=d':=Option.some.inj (hd.symm.trans hd')
   injection h with h;subst h
   exact .inr ⟨0,x,v,m,rfl,rfl,rfl,h2,by simp [Instr.findNow,hs],hk2,λ k y hk'=>by omega⟩
  ·rename_i hk2
   obtain⟨d',hd',hs⟩:=BW hk hkv h1 hk2
   obtain rfl:d=d':=Option.some.inj (hd.symm.trans hd')
   rcases nF hd hk hkv (i+1) hE.tail h with⟨e1,e2⟩|⟨j,y,u,m',e1,e2,e3,e4,e5,e6,e7⟩
   ·exact .inl ⟨e1,by simp [Instr.findNow,hs,e2]⟩
   ·refine .inr ⟨j+1,y,u,m',e1,by simpa using e2,by simpa using e3,e4,by simp only[Instr.findNow,hs,e5];congr 3;omega,e6,λ k z hk' hz=> ?_⟩
    match k with
    |0=>simp at hz;subst hz;exact hk2
    |k+1=>exact e7 k z (by omega) (by simpa using hz)
  ·cases h
theorem vp{t:TypeId}{z:A}(h:pO P t=some z):∃v,(zeroValue t).run P w= .ok v w∧RepA U w z v:=by
 unfold pO at h
 split at h
 ·rename_i i hi
  split at h
  ·rename_i z' hz
   injection h with h;subst h
   exact⟨z',by simp [zeroValue,typeInfo,hi,hz],tB _ _ _⟩
  ·cases h
 ·cases h
theorem qZ{id:Nat}{v:Value}(hI:Inv G U Z w){es:List (D×A)}(hσ:Z[id]? =some (some (.map es)))(ha:RepA U w (.mapr id) v):∃b ms clock,U[id]? =some (.live b)∧v= .map (some b)∧w.heap[b]? =some (.map ms clock)∧rN U w es ms.toList:=by
 rcases hI.obj _ _ hσ with⟨b,h1,ms,clock,h2,h3,h4⟩|⟨_,h2⟩
 ·refine⟨b,ms,clock,h1,?_,h2,by simpa using h3,λ i x m hx hm=>h4 i x m hx (by simpa using hm)⟩
  cases ha with
  |mapr h=>rw[h1]at h;injection h with h;injection h with h;subst h;rfl
  |mapDead _ h=>rw[h1]at h;injection h with h;cases h
 ·cases h2
theorem rb{ok b:Bool}{v:A}{u:Value}(h:RepA U w v u):RepA U w (ua ok v b) (if ok then .tuple #[u,.bool b]else u):=by
 cases ok with
 |false=>exact h
 |true=>
  refine .tup [v,.d (.bool b)] [u,.bool b] rfl λ i x y hx hy=> ?_
  match i with
  |0=>simp at hx hy;subst hx;subst hy;exact h
  |1=>simp at hx hy;subst hx;subst hy;exact .d (.bool b)
  |i+2=>simp at hx
theorem tG{t:TypeId}{ok:Bool}{k:Prop→A→Prop}{m key:A}{mv kv:Value}(hI:Inv G U Z w)(hm:RepA U w m mv)(hkey:RepA U w key kv)(h:fz P Z t ok k m key):uQ P U w (Instr.lookup t mv kv ok) k:=by
 unfold fz at h
 split at h
 ·rename_i kt e kd hmt
  have hu:=ra hmt
  cases hkey with
  |d hkd=>
  split at h
  ·rename_i id
   split at h
   ·rename_i es hσ
    obtain⟨b,ms,clock,h1,rfl,h2,h3⟩:=qZ hI hσ hm
    have run:∀(hk:gP P kt kd=true) {r:Option (Nat×Value)} {d:TypeDesc} (_:P.underlying kt=some d),Instr.findNow d kv ms.toList 0=some r→(Instr.lookup t (.map (some b)) kv ok).run P w=
      (do let (v,o)←(match r with|some (_,v)=>pure (v,true)|none=>do pure (←zeroValue e,false):Sem (Value×Bool));pure (if ok then .tuple #[v,.bool o]else v):Sem Value).run P w:=λ hk r d hd hr=>by
     obtain⟨d',hd',hck⟩:=jt (U:=U) (w:=w) hk
     have hg:=MapKept.run_getObj_map (P:=P) h2
     have hfk:=MapKept.run_findKey (w:=w) hd hr
     simp only[Instr.lookup,Sem.run_bind,run_underlying hu,Result.andThen_ok,hg,Sem.run_pure,hck _ _ _ hkd,hfk]
     rcases r with _|⟨i,v⟩
     ·simp only[Sem.run_bind]
      cases (zeroValue e).run P w<;> rfl
     ·rfl
    split at h
    ·rename_i v hf
     refine⟨_,_,h,λ hk=> ?_⟩
     obtain⟨d,hd,_⟩:=jt (U:=U) (w:=w) hk
     rcases nF hd hk hkd 0 h3 hf with⟨e1,_⟩|⟨j,x,v',m',e1,e2,e3,e4,e5,_⟩
     ·cases e1
     ·injection e1 with e1;subst e1
      refine⟨_,?_,rb e4⟩
      rw[run hk hd e5]
      simp [Sem.run_bind]
    ·rename_i hf
     split at h
     ·rename_i z hz
      refine⟨_,_,h,λ hk=> ?_⟩
      obtain⟨d,hd,_⟩:=jt (U:=U) (w:=w) hk
      obtain⟨zv,hzr,hzp⟩:=vp (U:=U) (w:=w) hz
      rcases nF hd hk hkd 0 h3 hf with⟨_,e2⟩|⟨j,x,v',m',e1,_⟩
      ·refine⟨_,?_,rb hzp⟩
       rw[run hk hd e2]
       simp [Sem.run_bind,hzr]
      ·cases e1
     ·exact h.elim
    ·exact h.elim
   ·exact h.elim
  ·split at h
   ·rename_i z hz
    refine⟨_,_,h,λ hk=> ?_⟩
    obtain⟨d,hd,hck⟩:=jt (U:=U) (w:=w) hk
    obtain⟨zv,hzr,hzp⟩:=vp (U:=U) (w:=w) hz
    have hmv:mv= .map none:=by cases hm with|d h=>cases h;rfl
    subst hmv
    refine⟨_,?_,rb hzp⟩
    have hf:(Instr.findKey kt kv []).run P w= .ok none w:=MapKept.run_findKey hd rfl
    simp [Instr.lookup,Sem.run_bind,run_underlying hu,hck _ _ _ hkd,hf,hzr]
   ·exact h.elim
  ·exact h.elim
 ·exact h.elim
theorem sg{t:TypeId}{k:Prop→A→St→Prop}(hI:Inv G U Z w)(h:nT Z k):qF P G U w (Instr.makeMap t none) k:=by
 refine⟨_,_,_,h,λ _=> ?_⟩
 obtain⟨hx,hI'⟩:=hI.push (ob:= .map #[] 0) (o:= .map []) rfl (λ U' w' _ hh=>⟨#[],0,hh,rfl,λ i x m hx=>by simp at hx⟩) (λ ds h=>by cases h)
 exact⟨.map (some w.heap.size),_,_,rfl,hx,hI',.mapr (mf hI _)⟩
theorem keyD_eq{a b:D}(h:ll a b=some true):a=b:=by
 unfold ll at h
 split at h
 ·split at h
  ·rename_i e;subst e;simp at h;subst h;rfl
  ·cases h
 ·simp at h;subst h;rfl
 ·simp at h;subst h;rfl
 ·cases h
theorem xb{kd x:D}{v u:A}:∀{es:List (D×A)} {j:Nat},es[j]? =some (x,u)→ll kd x=some true→(∀k y,k<j→es[k]? =some y→ll kd y.1=some false)→nk kd v es=es.set j (x,v)
 |[],j,h,_,_=>by simp at h
 |(k',u')::es,0,h,hk,_=>by simp at h;obtain⟨rfl,rfl⟩:=h;simp [nk,hk]
 |(k',u')::es,j+1,h,hk,hf=>by
  have h0:=hf 0 _ (by omega) rfl
  simp only[nk,h0,ff]
  rw[xb (by simpa using h) hk λ k y hk' hy=>hf (k+1) y (by omega) (by simpa using hy)]
theorem qR{kd:D}{v:A}:∀{es:List (D×A)},ja kd es=some none→nk kd v es=es++[(kd,v)]
 |[],_=>rfl
 |(k',u)::es,h=>by
  unfold ja at h
  split at h
  ·cases h
  ·rename_i hk;simp only[nk,hk,ah,qR h]
  ·cases h
theorem xJ{kd x:D}{u:A}:∀{es:List (D×A)} {j:Nat},es[j]? =some (x,u)→ll kd x=some true→(∀k y,k<j→es[k]? =some y→ll kd y.1=some false)→vl kd es=es.eraseIdx j
 |[],j,h,_,_=>by simp at h
 |(k',u')::es,0,h,hk,_=>by simp at h;obtain⟨rfl,rfl⟩:=h;simp [vl,hk]
 |(k',u')::es,j+1,h,hk,hf=>by
  have h0:=hf 0 _ (by omega) rfl
  simp only[vl,h0,List.eraseIdx_cons_succ]
  rw[xJ (by simpa using h) hk λ k y hk' hy=>hf (k+1) y (by omega) (by simpa using hy)]
theorem rz{kd:D}:∀{es:List (D×A)},ja kd es=some none→vl kd es=es
 |[],_=>rfl
 |(k',u)::es,h=>by
  unfold ja at h
  split at h
  ·cases h
  ·rename_i hk;simp only[vl,hk,rz h]
  ·cases h
theorem Inv.writeMap (hI:Inv G U Z w) {id b:Nat} {ms:Array MapEntry} {clock:Nat} (ms':Array MapEntry) (clock':Nat) {es:List (D×A)} (hid:U[id]? =some (.live b)) (hb:w.heap[b]? =some (.map ms clock))
  (hbd:(Ob.map es).bd Z.length=true) (hE:rN U w es ms'.toList):
  Ext U w U { w with heap:=w.heap.setIfInBounds b (.map ms' clock')}∧Inv G U (Z.set id (some (.map es))) { w with heap:=w.heap.setIfInBounds b (.map ms' clock')}:=by
 obtain⟨hnew,hold⟩:=MapKept.heap_set (o':= .map ms' clock') hb
 have hx:Ext U w U { w with heap:=w.heap.setIfInBounds b (.map ms' clock')}:=by
  refine⟨rfl,rfl,rfl,by simp,aE _,λ _ _ h=> .inl h,λ _ h _=>h,λ k _ hm=>hold k (λ e=>hm ⟨id,by rw[e];exact hid⟩),λ k us e' z' h=> ?_⟩
  by_cases hk:k=b
  ·subst hk;rw[hb]at h;cases h
  ·exact⟨us,by rw[hold k hk];exact h,rfl⟩
 refine⟨hx,by simp [hI.len],hI.inj,λ i k h=>by have:=hI.lt i k h;simpa using this,λ id' o h=> ?_,λ g x h=>(hI.glob g x h).ext hx,by rw[aH];exact hI.bd.set id (λ o h=>by injection h with h;subst h;exact hbd),λ k hk ds he=>by
  by_cases hkb:k=b
  ·subst hkb;rw[hnew]at he;cases he
  ·rw[hold k hkb]at he;exact hI.own k hk ds he⟩
 rw[aR]at h
 split at h
 ·rename_i he
  subst he
  split at h
  ·injection h with h;injection h with h;subst h
   refine .inl ⟨b,hid,ms',clock',hnew,by simpa using hE.1,λ i x m h1 h2=> ?_⟩
   obtain⟨a1,a2⟩:=hE.2 i x m h1 (by simpa using h2)
   exact⟨a1.ext hx,a2.ext hx⟩
  ·cases h
 ·rename_i hne
  rcases hI.obj id' o h with⟨k,h1,h2⟩|⟨h1,h2⟩
  ·exact .inl ⟨k,h1,h2.keep hx (hold k (λ e=>hne (hI.inj id id' b hid (by rw[←e];exact h1))))⟩
  ·exact .inr ⟨h1,h2⟩
theorem vz{m:Nat→Prop}{s:List UInt8}{v:Value}(h:RepD w m (.str s) v):∃t:ByteArray,v= .string t∧t.data.toList=s:=by
 cases h with|str t=>exact⟨t,rfl,rfl⟩
theorem CH{kt:TypeId}{kd:D}{m:Nat→Prop}{v v':Value}(hk:gP P kt kd=true)(h:RepD w m kd v)(h':RepD w m kd v')(n:Nat):Instr.sameBits n v v'=true:=by
 unfold gP at hk
 split at hk
 ·cases h;cases h';cases n<;> simp [Instr.sameBits]
 ·obtain⟨s,rfl,e1⟩:=vz h
  obtain⟨s',rfl,e2⟩:=vz h'
  have:s=s':=ByteArray.ext (Array.toList_inj.1 (e1.trans e2.symm))
  subst this
  have hb:(s==s)=true:=(MapKept.bytes_beq s s).2 rfl
  cases n<;> simp [Instr.sameBits,hb]
 ·cases h;cases h';cases n<;> simp [Instr.sameBits]
 ·cases hk
theorem q9{es:List (D×A)}{n:Nat}:(Ob.map es).bd n=true↔∀e∈es,e.2.bd n=true:=by simp [Ob.bd,aZ]
theorem ln{t:TypeId}{m key v:A}{mv kv vv:Value}{k:Prop→A→St→Prop}(hI:Inv G U Z w)(hm:RepA U w m mv)(hkey:RepA U w key kv)(hv:RepA U w v vv)(h:eV P Z t m key v k):
  qF P G U w (do Instr.mapUpdate t mv kv vv;pure undef) k:=by
 unfold eV at h
 split at h
 ·rename_i kt e id kd hmt
  have hu:=ra hmt
  cases hkey with
  |d hkd=>
  split at h
  ·rename_i es hσ
   refine⟨_,_,_,h,λ ⟨hk,hf,hvb⟩=> ?_⟩
   obtain⟨r,hf⟩:=bV.1 hf
   obtain⟨b,ms,clock,h1,rfl,h2,h3⟩:=qZ hI hσ hm
   obtain⟨d,hd,hck⟩:=jt (U:=U) (w:=w) hk
   have hg:=MapKept.run_getObj_map (P:=P) h2
   have hold:∀e∈es,e.2.bd Z.length=true:=q9.1 (hI.bd id _ hσ)
   rcases nF hd hk hkd 0 h3 hf with⟨rfl,e2⟩|⟨j,x,v',m',rfl,e2,e3,e4,e5,e6,e7⟩
   ·have hfk:=MapKept.run_findKey (w:=w) hd e2
    have hset:=MapKept.run_setObj_map (P:=P) (.map (ms.push { key:=kv,val:=vv,born:=clock}) (clock+1)) h2
    obtain⟨hx,hI'⟩:=hI.writeMap (ms.push { key:=kv,val:=vv,born:=clock}) (clock+1) (es:=nk kd v es) h1 h2 (q9.2 λ y hy=>by
     rw[qR hf]at hy
     rcases aW.1 hy with hy|hy
     ·exact hold y hy
     ·simp at hy;subst hy;exact hvb) (by
     rw[qR hf]
     refine⟨by simp [h3.1],λ i y n hy hn=> ?_⟩
     have hl:=h3.1
     rcases go i es.length with hlt|rfl|hgt
     ·rw[aq hlt]at hy
      rw[Array.toList_push,aq (by omega)]at hn
      exact h3.2 i y n hy hn
     ·rw[az (aE _),Et]at hy
      rw[Array.toList_push,az (by omega),hl,Et]at hn
      simp at hy hn;subst hy;subst hn
      exact⟨hkd,hv⟩
     ·rw[az (by omega),bm (by simp;omega)]at hy;cases hy)
    refine⟨undef,_,_,?_,hx,hI',.o _⟩
    simp only[Instr.mapUpdate,Sem.run_bind,run_underlying hu,Result.andThen_ok,hg,hck _ _ _ hkd,hfk,hset,Sem.run_pure]
   ·have hfk:=MapKept.run_findKey (w:=w) hd e5
    rw[ci]at hfk
    have hset:=MapKept.run_setObj_map (P:=P) (.map (ms.modify j λ e=>{ e with key:=kv,val:=vv}) clock) h2
    have hkx:=keyD_eq e6
    subst hkx
    have hjl:j<es.length:=(aA.1 e2).1
    have hmj:ms[j]? =some m':=by simpa using e3
    obtain⟨q1,q2⟩:=h3.2 j _ _ e2 e3
    have hst:(Instr.keyThatStays (((ms[j]?).map (·.key)).getD kv) kv).run P w= .ok kv w:=by
     rw[hmj]
     simp only[bJ,b9,Instr.keyThatStays,CH hk q1 hkd,if_true,Sem.run_pure]
    have hmod:(ms.modify j λ e=>{ e with key:=kv,val:=vv}).toList=ms.toList.set j { m' with key:=kv,val:=vv}:=by
     apply cz
     intro i
     rw[bP,Array.getElem?_modify,aR]
     by_cases hij:j=i
     ·subst hij
      rw[if_pos rfl,if_pos rfl,hmj,if_pos (by rw[←h3.1];exact hjl)];rfl
     ·rw[if_neg hij,if_neg hij,bP]
    obtain⟨hx,hI'⟩:=hI.writeMap (ms.modify j λ e=>{ e with key:=kv,val:=vv}) clock (es:=nk kd v es) h1 h2 (q9.2 λ y hy=>by
     rw[xb e2 e6 e7]at hy
     rcases List.mem_or_eq_of_mem_set hy with hy|rfl
     ·exact hold y hy
     ·exact hvb) (by
     rw[xb e2 e6 e7,hmod]
     refine⟨by simp [h3.1],λ i y n hy hn=> ?_⟩
     rw[aR]at hy hn
     by_cases hij:j=i
     ·subst hij
      rw[if_pos rfl]at hy hn
      rw[if_pos hjl]at hy
      rw[if_pos (by rw[←h3.1];exact hjl)]at hn
      injection hy with hy;injection hn with hn;subst hy;subst hn
      exact⟨hkd,hv⟩
     ·rw[if_neg hij]at hy hn
      exact h3.2 i y n hy hn)
    refine⟨undef,_,_,?_,hx,hI',.o _⟩
    simp only[Instr.mapUpdate,Sem.run_bind,run_underlying hu,Result.andThen_ok,hg,hck _ _ _ hkd,hfk,hst,hset,Sem.run_pure]
  ·exact h.elim
 ·exact h.elim
theorem sY{t ty:TypeId}{m key:A}{mv kv:Value}{ts:Array TypeId}{k:Prop→A→St→Prop}(hI:Inv G U Z w)(hm:RepA U w m mv)(hkey:RepA U w key kv)(ht:ts[0]? =some t)(h:jy P Z t m key k):
  qF P G U w (Builtin.delete_ ts ty #[mv,kv]) k:=by
 unfold jy at h
 split at h
 ·rename_i kt e id kd hmt
  have hu:=ra hmt
  cases hkey with
  |d hkd=>
  split at h
  ·rename_i es hσ
   refine⟨_,_,_,h,λ ⟨hk,hf⟩=> ?_⟩
   obtain⟨r,hf⟩:=bV.1 hf
   obtain⟨b,ms,clock,h1,rfl,h2,h3⟩:=qZ hI hσ hm
   obtain⟨d,hd,hck⟩:=jt (U:=U) (w:=w) hk
   have hg:=MapKept.run_getObj_map (P:=P) h2
   have hold:∀e∈es,e.2.bd Z.length=true:=q9.1 (hI.bd id _ hσ)
   rcases nF hd hk hkd 0 h3 hf with⟨rfl,e2⟩|⟨j,x,v',m',rfl,e2,e3,e4,e5,e6,e7⟩
   ·have hfk:=MapKept.run_findKey (w:=w) hd e2
    have hset:=MapKept.run_setObj_map (P:=P) (.map ms clock) h2
    obtain⟨hx,hI'⟩:=hI.writeMap ms clock (es:=vl kd es) h1 h2 (by rw[rz hf];exact q9.2 hold) (by rw[rz hf];exact h3)
    refine⟨.tuple #[],_,_,?_,hx,hI',.o _⟩
    simp [Builtin.delete_,ht,Sem.run_bind,run_underlying hu,hg,hck _ _ _ hkd,hfk,hset]
   ·have hfk:=MapKept.run_findKey (w:=w) hd e5
    rw[ci]at hfk
    have hset:=MapKept.run_setObj_map (P:=P) (.map (ms.eraseIdxIfInBounds j) clock) h2
    have hjl:j<ms.size:=by have:=(aA.1 e3).1;simpa using this
    have her:(ms.eraseIdxIfInBounds j).toList=ms.toList.eraseIdx j:=by
     simp [Array.eraseIdxIfInBounds,hjl]
    obtain⟨hx,hI'⟩:=hI.writeMap (ms.eraseIdxIfInBounds j) clock (es:=vl kd es) h1 h2 (q9.2 λ y hy=>by
     rw[xJ e2 e6 e7]at hy
     exact hold y (List.mem_of_mem_eraseIdx hy)) (by
     rw[xJ e2 e6 e7,her]
     refine⟨by simp [List.length_eraseIdx,h3.1],λ i y n hy hn=> ?_⟩
     rw[List.getElem?_eraseIdx]at hy hn
     split at hy
     ·rename_i hi;rw[if_pos hi]at hn;exact h3.2 i y n hy hn
     ·rename_i hi;rw[if_neg hi]at hn;exact h3.2 (i+1) y n hy hn)
    refine⟨.tuple #[],_,_,?_,hx,hI',.o _⟩
    simp [Builtin.delete_,ht,Sem.run_bind,run_underlying hu,hg,hck _ _ _ hkd,hfk,hset]
  ·exact h.elim
 ·exact h.elim
end
end Go.Ab
