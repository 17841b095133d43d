import Derived.Test.YtdpdbokicanpoaaGreatDoorAbK
import Derived.Test.YtdpdbokicanpoaaGreatDoorAbCore
set_option linter.unusedSimpArgs false
set_option linter.unusedVariables false
set_option maxHeartbeats 64000000
namespace Go.Ab
open Go

def fC:List A→Option (List D)
  |[]=>some []
  | .d x::r=>(fC r).map (x:: ·)
  |_::_=>none
def mU(cs:List A):A:=match fC cs with|some ds=> .d (.agg ds)|none=> .agg cs
def A.cells:A→List A
  | .agg cs=>cs
  | .d x=>x.cells.map .d
  |a=>[a]
def A.strip:A→A| .grd _ a=>a.strip|a=>a
def A.cond:A→Bool| .grd c a=>c&&a.cond|_=>true

def uR:Value→A
  | .int k n=> .d (.int k n)
  | .bool b=> .d (.bool b)
  | .string s=> .d (.str s.data.toList)
  | .pointer none=> .d .nilp
  | .nilFunc=> .d .nilf
  | .nilIface=> .d .nili
  | .map none=> .d .nilm
  | .slice none 0 0=> .d .nils
  |_=> .o
def xO:Value→A
  | .agg cs=>match fC (cs.toList.map uR)with
    |some ds=>if ds.all D.one=true then .d (.agg ds)else .o
    |none=> .o
  |v=>uR v
def ev(G:Glob)(fr:Fr):Operand→A
  | .tmp t=>fr.getD t .o
  | .const v=>xO v
  | .global g=>match G.g g with|some x=> .ea x 0|none=> .o
  | .func f=> .fn (.func f) [] []

section
variable (P:Program) (Z:St)

def ef(t:TypeId):Option Bool:=match P.underlying t with
  |none=>none
  |some (.struct _)|some (.array ..)=>some true
  |some _=>some false
def fld(t:TypeId)(f:Nat):Option (Nat×TypeId):=match P.underlying t with
  |some (.struct fs)=>match fs[f]? with
    |some fl=>if P.cellsOf fl.type=0 then none else some (fl.offset,fl.type)
    |none=>none
  |_=>none
def eA(t:TypeId):Option (TypeId×Nat):=match P.underlying t with
  |some (.slice e)=>if(P.info? e).isSome then some (e,P.cellsOf e)else none
  |_=>none
def mO(t:TypeId):Option (Nat×TypeId×Nat):=match P.underlying t with
  |some (.array n e)=>if(P.info? e).isSome then some (n,e,P.cellsOf e)else none
  |_=>none
def kp(t:TypeId):Bool:=match P.underlying t with
  |some .string=>true
  |_=>false

def fa(t:TypeId)(k:Prop→A→Prop):A→Prop
  | .ea x off=>match ef P t with
    |some true=>k (off+P.cellsOf t≤x.cells.length) (.d (.agg ((x.cells.drop off).take (P.cellsOf t))))
    |some false=>k (off<x.cells.length) (.d (x.cells.getD off default))
    |none=>False
  | .ref id off=>match Z[id]? with
    |some (some (.cells cs))=>match ef P t with
      |some true=>k (off+P.cellsOf t≤cs.length) (mU ((cs.drop off).take (P.cellsOf t)))
      |some false=>k (off<cs.length) (cs.getD off .o)
      |none=>False
    |_=>False
  |_=>k False .o
def dr(id:Nat):Bool:=match Z[id]? with|some (some _)=>true|_=>false
def cK(t:TypeId)(f:Nat)(k:Prop→A→Prop):A→Prop
  | .ea x off=>match fld P t f with
    |some (o,_)=>k True (.ea x (off+o))
    |none=>False
  | .ref id off=>match fld P t f with
    |some (o,_)=>k (dr Z id=true) (.ref id (off+o))
    |none=>False
  |_=>k False .o
def cH(t:TypeId)(k:Prop→A→Prop):A→A→Prop
  | .d (.sl sz xs),.d (.int _ n)=>match eA P t with
    |some (_,s)=>k (s=sz∧0≤n∧n<xs.length) (.ea (xs.getD n.toNat default) 0)
    |none=>False
  | .rs id sz off len _,.d (.int _ n)=>match eA P t with
    |some (_,s)=>k (dr Z id=true∧s=sz∧0≤n∧n<len) (.ref id (off+n.toNat*sz))
    |none=>False
  | .ea x off,.d (.int _ n)=>match mO P t with
    |some (len,_,s)=>k (0≤n∧n<len) (.ea x (off+n.toNat*s))
    |none=>False
  | .ref id off,.d (.int _ n)=>match mO P t with
    |some (len,_,s)=>k (dr Z id=true∧0≤n∧n<len) (.ref id (off+n.toNat*s))
    |none=>False
  |_,_=>k False .o
def gy(t:TypeId)(off:Nat)(k:Prop→A→Prop):A→Prop
  | .d (.agg cs)=>match ef P t with
    |some true=>k (off+P.cellsOf t≤cs.length) (.d (.agg ((cs.drop off).take (P.cellsOf t))))
    |some false=>k (off<cs.length) (.d (cs.getD off default))
    |none=>False
  | .agg cs=>match ef P t with
    |some true=>k (off+P.cellsOf t≤cs.length) (mU ((cs.drop off).take (P.cellsOf t)))
    |some false=>k (off<cs.length) (cs.getD off .o)
    |none=>False
  |_=>False
def gf(t:TypeId)(k:Prop→A→Prop):A→A→Prop
  | .d (.str s),.d (.int _ n)=>k (kp P t=true∧0≤n∧n<s.length) (.d (.int .u8 (s.getD n.toNat 0).toNat))
  | .d (.agg cs),.d (.int _ n)=>match mO P t with
    |some (len,e,s)=>gy P e (n.toNat*s) (λ p a=>k (0≤n∧n<len∧p) a) (.d (.agg cs))
    |none=>False
  | .agg cs,.d (.int _ n)=>match mO P t with
    |some (len,e,s)=>gy P e (n.toNat*s) (λ p a=>k (0≤n∧n<len∧p) a) (.agg cs)
    |none=>False
  |_,_=>False
def iK(t:TypeId)(f:Nat)(k:Prop→A→Prop)(a:A):Prop:=match fld P t f with
  |some (o,ft)=>gy P ft o k a
  |none=>False
end

def uQ(P:Program)(U:gM)(w:World)(s:Sem Value)(k:Prop→A→Prop):Prop:=
  ∃p a,k p a∧(p→∃v,s.run P w= .ok v w∧RepA U w a v)

section
variable {P:Program} {U:gM} {w:World} {Z:St} {G:Glob}

theorem tC{m:Nat→Prop}{x:D}{v:Value}(h:RepD w m x v)(h1:x.one=true):v.oneCell'=true:=by
  cases h<;> first|rfl|simp [D.one]at h1
theorem yH{m:Nat→Prop}{x:D}{v:Value}(h:RepD w m x v)(h1:v.oneCell'=true):x.one=true:=by
  cases h<;> first|rfl|simp [Value.oneCell']at h1

theorem uP(b o n:Nat):(⟨b,o,none⟩:Addr).add n=⟨b,o+n,none⟩:=by
  unfold Addr.add;split<;> simp_all

theorem qL:∀{cs:List A} {ds:List D},fC cs=some ds→cs=ds.map .d
  |[],ds,h=>by simp [fC]at h;subst h;rfl
  | .d x::r,ds,h=>by
    simp only[fC,bj]at h
    obtain⟨es,h1,h2⟩:=h
    subst h2
    simp [qL h1]
  | .ea .. ::_,_,h| .ref .. ::_,_,h| .rs .. ::_,_,h| .agg .. ::_,_,h| .fn .. ::_,_,h| .ifc .. ::_,_,h
  | .tup .. ::_,_,h| .mapr .. ::_,_,h| .grd .. ::_,_,h| .o::_,_,h=>by simp [fC]at h

theorem lS {cs:List A} {vs:List Value} (hl:cs.length=vs.length) (h1:∀(i:Nat) (v:Value),vs[i]? =some v→v.oneCell'=true)
    (hr:∀(i:Nat) (x:A) (v:Value),cs[i]? =some x→vs[i]? =some v→RepA U w x v):RepA U w (mU cs) (.agg vs.toArray):=by
  unfold mU
  cases h:fC cs with
  |none=>exact .agg cs vs hl h1 hr
  |some ds=>
    have e:=qL h
    subst e
    have key:∀(i:Nat) (x:D) (v:Value),ds[i]? =some x→vs[i]? =some v→RepD w (M U) x v:=λ i x v hx hv=>by
      have:=hr i (.d x) v (by simp [hx]) hv
      cases this with
      |d h=>exact h
    refine .d (.agg ds vs (by simpa using hl) (λ i x hx=> ?_) key)
    obtain⟨v,hv⟩:∃v,vs[i]? =some v:=by
      have:i<vs.length:=by
        have:=(aA.1 hx).1
        simp at hl;omega
      exact⟨vs[i],ap this⟩
    exact yH (key i x v hx hv) (h1 i v hv)

theorem BM {t:TypeId} {b o:Nat} (cs:List A) (vs:List Value) (n:Nat) (hn:cs.length=n) (hl:cs.length=vs.length)
    (hc:∀j v,vs[j]? =some v→w.cell? ⟨b,o+j,none⟩=some v) (ht:P.cellsOf t=n) (hi:∃i,P.info? t=some i):
    (do let k←sizeOf t;let c←loadCells ⟨b,o,none⟩ k;pure (Value.agg c):Sem Value).run P w= .ok (.agg vs.toArray) w:=by
  obtain⟨i,hi⟩:=hi
  have h1:=run_loadCells_list (P:=P) w ⟨b,o,none⟩ vs (λ j v hj=>by rw[uP];exact hc j v hj)
  have h2:i.size=vs.length:=by
    have:P.cellsOf t=i.size:=by simp [Program.cellsOf,hi]
    omega
  simp [sizeOf,typeInfo,hi,h2,h1]

theorem px{t:TypeId}{u:TypeDesc}(h:P.underlying t=some u):∃i,P.info? t=some i:=by
  unfold Program.underlying at h
  cases hi:P.info? t with
  |none=>simp [hi]at h
  |some i=>exact⟨i,rfl⟩

theorem jd{t:TypeId}{b:Bool}(h:ef P t=some b)(w:World):(isAgg t).run P w= .ok b w:=by
  unfold ef at h
  cases hu:P.underlying t with
  |none=>simp [hu]at h
  |some u=>
    rw[hu]at h
    simp only[isAgg,Sem.run_bind,run_underlying hu,Result.andThen_ok]
    cases u<;> first|(injection h with h;subst h;rfl)
theorem oC{t:TypeId}{b:Bool}(h:ef P t=some b):∃i,P.info? t=some i:=by
  unfold ef at h
  cases hu:P.underlying t with
  |none=>simp [hu]at h
  |some u=>exact px hu
theorem eR{b:Nat}{vs:Array Value}{e:TypeId}{z:Nat×Nat}(h:w.heap[b]? =some (.cells vs e z))(o:Nat):
    w.cell? ⟨b,o,none⟩=vs[o]? :=by
  simp [World.cell?,h]

theorem yK{id off:Nat}{v:Value}(ha:RepA U w (.ref id off) v):(∃b,U[id]? =some (.live b)∧v= .pointer (some ⟨b,off,none⟩))∨U[id]? =some .dead:=by
  cases ha with
  |ref _ h=>exact .inl ⟨_,h,rfl⟩
  |refDead _ _ h=>exact .inr h
theorem lC{id off:Nat}{v:Value}(ha:RepA U w (.ref id off) v)(h:U[id]? =some .empty):False:=by
  rcases yK ha with⟨b',h',rfl⟩|h'<;> rw[h]at h'<;> injection h' with h'<;> cases h'
theorem tD{id off b:Nat}{v:Value}(ha:RepA U w (.ref id off) v)(hb:U[id]? =some (.live b)):v= .pointer (some ⟨b,off,none⟩):=by
  rcases yK ha with⟨b',h,rfl⟩|h
  · rw[hb]at h;injection h with h;injection h with h;subst h;rfl
  · rw[hb]at h;injection h with h;cases h
theorem rf{id:Nat}(hI:Inv G U Z w)(h:dr Z id=true):(∃b o,Z[id]? =some (some o)∧U[id]? =some (.live b)∧mP U w o b)∨(U[id]? =some .empty∧Z[id]? =some (some (.cells []))):=by
  unfold dr at h
  split at h
  · rename_i o ho
    rcases hI.obj _ _ ho with⟨b,h1,h2⟩|⟨h1,rfl⟩
    · exact .inl ⟨b,o,ho,h1,h2⟩
    · exact .inr ⟨h1,ho⟩
  · cases h
theorem pg{id off:Nat}{v:Value}(hI:Inv G U Z w)(h:dr Z id=true)(ha:RepA U w (.ref id off) v):∃b,U[id]? =some (.live b)∧v= .pointer (some ⟨b,off,none⟩):=by
  rcases rf hI h with⟨b,_,_,hb,_⟩|⟨he,_⟩
  · exact⟨b,hb,tD ha hb⟩
  · exact(lC ha he).elim
theorem kB{id sz off len:Nat}{ow:Option TypeId}{v:Value}(hI:Inv G U Z w)(h:dr Z id=true)(ha:RepA U w (.rs id sz off len ow) v):
    (∃b cap vs e z,U[id]? =some (.live b)∧v= .slice (some ⟨b,off,none⟩) len cap∧w.heap[b]? =some (.cells vs e z)∧len≤cap∧off+cap*sz≤vs.size∧(∀e',ow=some e'→e'=e∧off=0∧vs.size=cap*sz∧cap≤maxLen))∨
    (U[id]? =some .empty∧off=0∧len=0∧v= .slice none 0 0):=by
  cases ha with
  |rs h h1 h2 h3 h4=>exact .inl ⟨_,_,_,_,_,h,rfl,h1,h2,h3,h4⟩
  |rsEmpty _ _ h=>exact .inr ⟨h,rfl,rfl,rfl⟩
  |rsDead _ _ _ _ _ hd=>
    rcases rf hI h with⟨b,_,_,hb,_⟩|⟨he,_⟩
    · rw[hd]at hb;injection hb with hb;cases hb
    · rw[hd]at he;injection he with he;cases he
theorem yG {m:Nat→Prop} {ys:List D} {vs:Nat→Value} (off n:Nat) (hn:off+n≤ys.length)
    (one:∀(j:Nat) (y:D),ys[j]? =some y→y.one=true) (rep:∀(j:Nat) (y:D),ys[j]? =some y→RepD w m y (vs j)):
    RepD w m (.agg ((ys.drop off).take n)) (.agg ((List.range n).map λ j=>vs (off+j)).toArray):=by
  refine .agg _ _ (by simp;omega) (λ i y hy=> ?_) (λ i y v hy hv=> ?_)
  · simp only[cE]at hy
    split at hy
    · rw[bE]at hy;exact one _ _ hy
    · cases hy
  · simp only[cE]at hy
    split at hy
    · rename_i hlt
      rw[bE]at hy
      simp [hlt]at hv
      subst hv
      exact rep _ _ hy
    · cases hy
theorem oR{vs:Nat→Value}{n j:Nat}{v:Value}(h:((List.range n).map vs)[j]? =some v):j<n∧v=vs j:=by
  simp only[aN,bj]at h
  obtain⟨j',h1,h2⟩:=h
  have hlt:j<n:=by
    have:=(aA.1 h1).1
    simpa using this
  have e:j'=j:=by simpa [List.getElem?_range,hlt]using h1.symm
  subst e
  exact⟨hlt,h2.symm⟩
theorem fv{α:Type}{l:List α}{i:Nat}{d:α}(h:i<l.length):l[i]? =some (l.getD i d):=by
  simp [List.getD,ap h]

theorem mB{t:TypeId}{k:Prop→A→Prop}{a:A}{v:Value}(hI:Inv G U Z w)(ha:RepA U w a v)(h:fa P Z t k a):
    uQ P U w (Instr.loadAt t v) k:=by
  unfold fa at h
  split at h
  · rename_i x off
    cases ha with
    |ea _ _ b o vs hm hb one cell rep=>
      split at h
      · rename_i hu
        refine⟨_,_,h,λ hp=> ?_⟩
        refine⟨.agg (((List.range (P.cellsOf t)).map λ j=>vs (off+j))).toArray,?_,.d (yG off _ hp one rep)⟩
        have:=BM (P:=P) (w:=w) (t:=t) (b:=b) (o:=o+off) (((x.cells.drop off).take (P.cellsOf t)).map A.d) ((List.range (P.cellsOf t)).map λ j=>vs (off+j)) (P.cellsOf t)
          (by simp;omega) (by simp;omega) (λ j v hj=>by
            obtain⟨hlt,rfl⟩:=oR hj
            rw[cf]
            exact cell (off+j) (x.cells.getD (off+j) default) (fv (by omega))) rfl (oC hu)
        simp only[Instr.loadAt,Instr.sureAddr,loadVar,Sem.run_bind,Sem.run_pure,jd hu,Result.andThen_ok,if_true]at this ⊢
        exact this
      · rename_i hu
        refine⟨_,_,h,λ hp=> ?_⟩
        have hget:x.cells[off]? =some (x.cells.getD off default):=fv hp
        refine⟨vs off,?_,.d (rep off _ hget)⟩
        simp [Instr.loadAt,Instr.sureAddr,loadVar,jd hu,cell off _ hget]
      · exact h.elim
  · rename_i id off
    split at h
    case h_2=>exact h.elim
    case h_1 cs hσ=>
      rcases hI.obj id _ hσ with⟨b,hb,vs,e,hheap,hlen,hcs⟩|⟨he,_⟩
      case inr=>exact(lC ha he).elim
      obtain rfl:=tD ha hb
      split at h
      · rename_i hu
        refine⟨_,_,h,λ hp=> ?_⟩
        refine⟨.agg ((vs.toList.drop off).take (P.cellsOf t)).toArray,?_,lS (by simp;omega) (λ i v hv=> ?_) (λ i x v hx hv=> ?_)⟩
        · have:=BM (P:=P) (w:=w) (t:=t) (b:=b) (o:=off) ((cs.drop off).take (P.cellsOf t)) ((vs.toList.drop off).take (P.cellsOf t)) (P.cellsOf t)
            (by simp;omega) (by simp;omega) (λ j v hj=>by
              rw[eR hheap]
              simp only[cE]at hj
              split at hj
              · simpa [bE]using hj
              · cases hj) rfl (oC hu)
          simp only[Instr.loadAt,Instr.sureAddr,loadVar,Sem.run_bind,Sem.run_pure,jd hu,Result.andThen_ok,if_true]at this ⊢
          exact this
        · simp only[cE]at hv
          split at hv
          · rename_i hlt
            rw[bE]at hv
            obtain⟨v',h1,h2,_⟩:=hcs (off+i) (cs.getD (off+i) .o) (fv (by omega))
            have:v'=v:=by
              have h4:vs[off+i]? =some v:=by simpa using hv
              rw[h1]at h4;injection h4
            subst this;exact h2
          · cases hv
        · simp only[cE]at hv hx
          split at hv
          · rename_i hlt
            rw[if_pos hlt]at hx
            rw[bE]at hv hx
            obtain⟨v',h1,_,h3⟩:=hcs (off+i) x hx
            have:v'=v:=by
              have h4:vs[off+i]? =some v:=by simpa using hv
              rw[h1]at h4;injection h4
            subst this;exact h3
          · cases hv
      · rename_i hu
        refine⟨_,_,h,λ hp=> ?_⟩
        obtain⟨v,h1,_,h3⟩:=hcs off (cs.getD off .o) (fv hp)
        refine⟨v,?_,h3⟩
        simp [Instr.loadAt,Instr.sureAddr,loadVar,jd hu,eR hheap,h1]
      · exact h.elim
  · exact⟨_,_,h,False.elim⟩

theorem zI{t:TypeId}{f o:Nat}{ft:TypeId}(h:fld P t f=some (o,ft)):
    ∃fs fl,P.underlying t=some (.struct fs)∧fs[f]? =some fl∧P.cellsOf fl.type≠0∧fl.offset=o∧fl.type=ft:=by
  unfold fld at h
  split at h
  · rename_i fs hu
    split at h
    · rename_i fl hf
      split at h
      · cases h
      · rename_i hne
        injection h with h;injection h with h1 h2
        exact⟨fs,fl,hu,hf,hne,h1,h2⟩
    · cases h
  · cases h
theorem vj{t:TypeId}(h:P.cellsOf t≠0):∃i,P.info? t=some i:=by
  unfold Program.cellsOf at h
  cases hi:P.info? t with
  |none=>simp [hi]at h
  |some i=>exact⟨i,rfl⟩
theorem dp{t:TypeId}{i:TypeInfo}(h:P.info? t=some i)(w:World):(sizeOf t).run P w= .ok (P.cellsOf t) w:=by
  simp [sizeOf,typeInfo,Program.cellsOf,h]
theorem rU{t:TypeId}{f o:Nat}{ft:TypeId}(h:fld P t f=some (o,ft))(b off:Nat)(w:World):
    (Instr.fieldAt t (.pointer (some ⟨b,off,none⟩)) f).run P w= .ok (.pointer (some ⟨b,off+o,none⟩)) w:=by
  obtain⟨fs,fl,h1,h2,h3,rfl,rfl⟩:=zI h
  obtain⟨i,hi⟩:=vj h3
  simp [Instr.fieldAt,run_underlying h1,h2,Instr.sureAddr,fieldPlace,dp hi,h3,uP]
theorem lv{t:TypeId}{f:Nat}{k:Prop→A→Prop}{a:A}{v:Value}(hI:Inv G U Z w)(ha:RepA U w a v)(h:cK P Z t f k a):
    uQ P U w (Instr.fieldAt t v f) k:=by
  unfold cK at h
  split at h
  · rename_i x off
    split at h
    · rename_i o ft hf
      cases ha with
      |ea _ _ b p vs hm hb one cell rep=>
        exact⟨_,_,h,λ _=>⟨_,rU hf _ _ w,by rw[cf];exact .ea x (off+o) b p vs hm hb one cell rep⟩⟩
    · exact h.elim
  · rename_i id off
    split at h
    · rename_i o ft hf
      refine⟨_,_,h,λ hp=> ?_⟩
      obtain⟨b,hb,rfl⟩:=pg hI hp ha
      exact⟨_,rU hf _ _ w,.ref _ hb⟩
    · exact h.elim
  · exact⟨_,_,h,False.elim⟩

theorem eQ{t e s:Nat}(h:eA P t=some (e,s)):P.underlying t=some (.slice e)∧P.cellsOf e=s∧∃i,P.info? e=some i:=by
  unfold eA at h
  split at h
  · rename_i e' hu
    split at h
    · rename_i hi
      injection h with h;injection h with h1 h2;subst h1
      exact⟨hu,h2,bV.1 hi⟩
    · cases h
  · cases h
theorem rI{t n e s:Nat}(h:mO P t=some (n,e,s)):P.underlying t=some (.array n e)∧P.cellsOf e=s∧∃i,P.info? e=some i:=by
  unfold mO at h
  split at h
  · rename_i n' e' hu
    split at h
    · rename_i hi
      injection h with h;injection h with h1 h2;injection h2 with h2 h3;subst h1;subst h2
      exact⟨hu,h3,bV.1 hi⟩
    · cases h
  · cases h
theorem gk{k:IntKind}{n:Int}{v:Value}(h:RepA U w (.d (.int k n)) v):v= .int k n:=by
  cases h with|d h=>cases h;rfl
theorem g8{b:Bool}{v:Value}(h:RepA U w (.d (.bool b)) v):v= .bool b:=by
  cases h with|d h=>cases h;rfl
theorem kR{s:List UInt8}{v:Value}(h:RepA U w (.d (.str s)) v):∃t:ByteArray,v= .string t∧t.data.toList=s:=by
  cases h with|d h=>cases h with|str t=>exact⟨t,rfl,rfl⟩

theorem p8{t:TypeId}{k:Prop→A→Prop}{a c:A}{v u:Value}(hI:Inv G U Z w)(ha:RepA U w a v)(hc:RepA U w c u)(h:cH P Z t k a c):
    uQ P U w (Instr.indexAt t v u) k:=by
  unfold cH at h
  split at h
  · rename_i sz xs ik n
    obtain rfl:=gk hc
    split at h
    · rename_i e s he
      obtain⟨hu,hs,i,hi⟩:=eQ he
      refine⟨_,_,h,λ ⟨h1,h2,h3⟩=> ?_⟩
      subst h1
      cases ha with
      |d ha=>
        cases ha with
        |sl0 sz a c=>simp at h3;omega
        |sl _ _ b o c vs hm hb hcap len one cell rep=>
          have hget:xs[n.toNat]? =some (xs.getD n.toNat default):=fv (by omega)
          refine⟨.pointer (some ⟨b,(o+n.toNat*s)+0,none⟩),?_,.ea _ 0 b (o+n.toNat*s) (vs n.toNat) hm hb (λ j y hy=>one _ _ _ _ hget hy) (λ j y hy=>cell _ _ _ _ hget hy) (λ j y hy=>rep _ _ _ _ hget hy)⟩
          simp [Instr.indexAt,asIntOf,run_underlying hu,h2,h3,dp hi,hs,uP]
    · exact h.elim
  · rename_i id sz off len ow ik n
    obtain rfl:=gk hc
    split at h
    · rename_i e s he
      obtain⟨hu,hs,i,hi⟩:=eQ he
      refine⟨_,_,h,λ ⟨hl,h1,h2,h3⟩=> ?_⟩
      subst h1
      rcases kB hI hl ha with⟨b,cap,vs,e',z,hb,rfl,_,_,_,_⟩|⟨_,_,h0,_⟩
      case inr=>omega
      exact⟨_,by simp [Instr.indexAt,asIntOf,run_underlying hu,h2,h3,dp hi,hs,uP],.ref _ hb⟩
    · exact h.elim
  · rename_i x off ik n
    obtain rfl:=gk hc
    split at h
    · rename_i len e s he
      obtain⟨hu,hs,i,hi⟩:=rI he
      refine⟨_,_,h,λ ⟨h2,h3⟩=> ?_⟩
      cases ha with
      |ea _ _ b p vs hm hb one cell rep=>
        refine⟨_,?_,.ea x (off+n.toNat*s) b p vs hm hb one cell rep⟩
        simp [Instr.indexAt,Instr.sureAddr,asIntOf,run_underlying hu,h2,h3,dp hi,hs,uP,cf]
    · exact h.elim
  · rename_i id off ik n
    obtain rfl:=gk hc
    split at h
    · rename_i len e s he
      obtain⟨hu,hs,i,hi⟩:=rI he
      refine⟨_,_,h,λ ⟨hl,h2,h3⟩=> ?_⟩
      obtain⟨b,hb,rfl⟩:=pg hI hl ha
      refine⟨_,?_,.ref _ hb⟩
      simp [Instr.indexAt,Instr.sureAddr,asIntOf,run_underlying hu,h2,h3,dp hi,hs,uP]
    · exact h.elim
  · exact⟨_,_,h,False.elim⟩

theorem u3 {cs:List A} {vs:List Value} (off n:Nat) (hl:cs.length=vs.length) (hn:off+n≤cs.length) (h1:∀(i:Nat) (v:Value),vs[i]? =some v→v.oneCell'=true)
    (hr:∀(i:Nat) (x:A) (v:Value),cs[i]? =some x→vs[i]? =some v→RepA U w x v):RepA U w (mU ((cs.drop off).take n)) (.agg ((vs.drop off).take n).toArray):=by
  refine lS (by simp;omega) (λ i v hv=> ?_) (λ i x v hx hv=> ?_)
  · simp only[cE]at hv
    split at hv
    · rw[bE]at hv;exact h1 _ _ hv
    · cases hv
  · simp only[cE]at hv hx
    split at hv
    · rename_i hlt
      rw[if_pos hlt]at hx
      rw[bE]at hv hx
      exact hr _ _ _ hx hv
    · cases hv
theorem pZ{t off:Nat}{k:Prop→A→Prop}{a:A}{v:Value}(ha:RepA U w a v)(h:gy P t off k a):
    ∃cs,v= .agg cs∧uQ P U w (part t cs off) k:=by
  unfold gy at h
  split at h
  · rename_i cs
    cases ha with
    |d ha=>
      cases ha with
      |agg _ vs len one rep=>
        refine⟨_,rfl,?_⟩
        split at h
        · rename_i hu
          obtain⟨i,hi⟩:=oC hu
          refine⟨_,_,h,λ hp=>⟨.agg ((vs.drop off).take (P.cellsOf t)).toArray,?_,.d (.agg _ _ (by simp;omega) (λ i y hy=> ?_) (λ i y v hy hv=> ?_))⟩⟩
          · simp only[part,Sem.run_bind,jd hu,Result.andThen_ok,if_true,dp hi,Sem.run_pure]
            congr 2
            simp [List.extract_toArray]
          · simp only[cE]at hy
            split at hy
            · rw[bE]at hy;exact one _ _ hy
            · cases hy
          · simp only[cE]at hy hv
            split at hv
            · rename_i hlt
              rw[if_pos hlt]at hy
              rw[bE]at hy hv
              exact rep _ _ _ hy hv
            · cases hv
        · rename_i hu
          refine⟨_,_,h,λ hp=> ?_⟩
          obtain⟨v,hv⟩:∃v,vs[off]? =some v:=⟨_,ap (by omega)⟩
          refine⟨v,?_,.d (rep off _ _ (fv hp) hv)⟩
          simp [part,jd hu,hv]
        · exact h.elim
  · rename_i cs
    cases ha with
    |agg _ vs len one rep=>
      refine⟨_,rfl,?_⟩
      split at h
      · rename_i hu
        obtain⟨i,hi⟩:=oC hu
        refine⟨_,_,h,λ hp=>⟨.agg ((vs.drop off).take (P.cellsOf t)).toArray,?_,u3 off _ len hp one rep⟩⟩
        simp only[part,Sem.run_bind,jd hu,Result.andThen_ok,if_true,dp hi,Sem.run_pure]
        congr 2
        simp [List.extract_toArray]
      · rename_i hu
        refine⟨_,_,h,λ hp=> ?_⟩
        obtain⟨v,hv⟩:∃v,vs[off]? =some v:=⟨_,ap (by omega)⟩
        refine⟨v,?_,rep off _ _ (fv hp) hv⟩
        simp [part,jd hu,hv]
      · exact h.elim
  · exact h.elim
theorem u9{t f:Nat}{k:Prop→A→Prop}{a:A}{v:Value}(ha:RepA U w a v)(h:iK P t f k a):uQ P U w (Instr.field t v f) k:=by
  unfold iK at h
  split at h
  · rename_i o ft hf
    obtain⟨fs,fl,h1,h2,h3,rfl,rfl⟩:=zI hf
    obtain⟨cs,rfl,p,b,hk,hp⟩:=pZ ha h
    exact⟨p,b,hk,λ hp'=>let ⟨v,hv,hr⟩:=hp hp';⟨v,by simp [Instr.field,run_underlying h1,h2,asAgg,hv],hr⟩⟩
  · exact h.elim
theorem iE{t:TypeId}(h:kp P t=true):P.underlying t=some .string:=by
  unfold kp at h
  split at h
  · assumption
  · cases h
theorem u7{t:TypeId}{k:Prop→A→Prop}{a c:A}{v u:Value}(ha:RepA U w a v)(hc:RepA U w c u)(h:gf P t k a c):
    uQ P U w (Instr.index t v u) k:=by
  unfold gf at h
  split at h
  · rename_i s ik n
    obtain rfl:=gk hc
    obtain⟨b,rfl,rfl⟩:=kR ha
    refine⟨_,_,h,λ ⟨h0,h1,h2⟩=>⟨_,?_,.d (.int _ _)⟩⟩
    have hlt:n.toNat<b.data.toList.length:=by omega
    have hg:b[n.toNat]? =some (b.data.toList.getD n.toNat 0):=by
      rw[show b[n.toNat]? =b.data[n.toNat]? from rfl,←fv hlt,bP]
    simp [Instr.index,asIntOf,run_underlying (iE h0),h1,hg]
  all_goals first
    |exact h.elim
    |(
       obtain rfl:=gk hc
       split at h
       · rename_i len e s he
         obtain⟨hu,hs,i,hi⟩:=rI he
         obtain⟨cs,rfl,p,b,hk,hp⟩:=pZ ha h
         refine⟨_,b,hk,λ ⟨h1,h2,h3⟩=> ?_⟩
         obtain⟨v,hv,hr⟩:=hp h3
         exact⟨v,by simp [Instr.index,asIntOf,run_underlying hu,h1,h2,dp hi,hs,hv],hr⟩
       · exact h.elim)
end
end Go.Ab
