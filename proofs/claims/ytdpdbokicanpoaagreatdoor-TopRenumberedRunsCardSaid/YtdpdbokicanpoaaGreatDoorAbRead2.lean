import Derived.Test.YtdpdbokicanpoaaGreatDoorAbK
import Derived.Test.YtdpdbokicanpoaaGreatDoorAbRead
import Derived.Laws.BytesArg
set_option linter.unusedSimpArgs false
set_option linter.unusedVariables false
set_option maxHeartbeats 64000000
namespace Go.Ab
open Go

inductive PK where
  |int|bool|str
def eqD1:PK→D→D→Option Bool
  | .int,.int k a,.int k' b=>if k=k' then some (a==b)else none
  | .bool,.bool a,.bool b=>some (a==b)
  | .str,.str a,.str b=>some (a==b)
  |_,_,_=>none
def jg:List PK→List D→List D→Option Bool
  |[],[],[]=>some true
  |t::ts,x::r,y::s=>match eqD1 t x y,jg ts r s with
    |some a,some b=>some (a&&b)
    |_,_=>none
  |_,_,_=>none

section
variable (P:Program) (Z:St)
def tN(t:TypeId):Option PK:=match P.underlying t with
  |some (.int _)=>some .int
  |some .bool=>some .bool
  |some .string=>some .str
  |_=>none
def km:Nat→List Field→Option (List PK)
  |_,[]=>some []
  |i,f::r=>match tN P f.type,km (i+1) r with
    | some k, some ks => if f.name ≠ "_" ∧ f.offset = i then some (k :: ks) else none
    |_,_=>none
def kL(t:TypeId):Option (List PK):=match P.underlying t with
  |some (.struct fs)=>if P.stoodInHeld t=false∧P.eqGuardType P.depth t=false then km P 0 fs.toList else none
  |_=>none
def mL(t:TypeId):Bool:=match P.underlying t with
  |some .bool=>true
  |_=>false
def k7(t:TypeId):Bool:=match P.underlying t with
  |some (.interface _)=>true
  |_=>false
def DQ(t:TypeId):Bool:=match P.underlying t with
  |some (.interface ms)=>ms.isEmpty
  |_=>false
def zD(t:TypeId):Option IntKind:=match P.underlying t with
  |some (.int k)=>some k
  |_=>none

def fc(op:BinOp)(k:Prop→A→Prop)(ik:IntKind)(a b:Int):Prop:=
  match op with
  | .add=>k True (.d (.int ik (ik.wrap (a+b))))
  | .sub=>k True (.d (.int ik (ik.wrap (a - b))))
  | .mul=>k True (.d (.int ik (ik.wrap (a*b))))
  | .quo=>k (b≠0) (.d (.int ik (ik.wrap (a.tdiv b))))
  | .rem=>k (b≠0) (.d (.int ik (a.tmod b)))
  | .and=>k True (.d (.int ik (ik.wrap (BitVec.ofInt ik.bits a &&& BitVec.ofInt ik.bits b).toNat)))
  | .or=>k True (.d (.int ik (ik.wrap (BitVec.ofInt ik.bits a ||| BitVec.ofInt ik.bits b).toNat)))
  | .xor=>k True (.d (.int ik (ik.wrap (BitVec.ofInt ik.bits a ^^^ BitVec.ofInt ik.bits b).toNat)))
  | .andNot=>k True (.d (.int ik (ik.wrap (BitVec.ofInt ik.bits a &&& ~~~ BitVec.ofInt ik.bits b).toNat)))
  | .eql=>k True (.d (.bool (a==b)))
  | .neq=>k True (.d (.bool (a !=b)))
  | .lss=>k True (.d (.bool (decide (a<b))))
  | .leq=>k True (.d (.bool (decide (a≤b))))
  | .gtr=>k True (.d (.bool (decide (a > b))))
  | .geq=>k True (.d (.bool (decide (a≥b))))
  |_=>False
def lT(op:BinOp)(k:Prop→A→Prop)(a b:List UInt8):Prop:=
  match op with
  | .add=>k (a.length+b.length≤9223372036854775807) (.d (.str (a++b)))
  | .eql=>k True (.d (.bool (a==b)))
  | .neq=>k True (.d (.bool (!(a==b))))
  | .lss=>k True (.d (.bool (Op.bytesLess a b)))
  | .leq=>k True (.d (.bool (Op.bytesLess a b||a==b)))
  | .gtr=>k True (.d (.bool (!(Op.bytesLess a b||a==b))))
  | .geq=>k True (.d (.bool (!Op.bytesLess a b)))
  |_=>False
def yW(t:TypeId):Bool:=match P.underlying t with
  |some (.pointer _)=>true
  |_=>false
def lB(t:TypeId):Bool:=match P.underlying t with
  |some (.slice _)=>true
  |_=>false
def lG(t:TypeId):Bool:=match P.underlying t with
  |some (.map _ _)=>true
  |_=>false
def dE(op:BinOp)(t:TypeId)(k:Prop→A→Prop):A→A→Prop
  | .d (.int ik a),.d (.int jk b)=>match op with
    | .shl=>k (0≤b) (.d (.int ik (ik.wrap (a*2^(min b.toNat ik.bits)))))
    | .shr=>k (0≤b) (.d (.int ik (a.fdiv (2^(min b.toNat ik.bits)))))
    |op=>if ik=jk then fc op k ik a b else False
  | .d (.str a),.d (.str b)=>lT op k a b
  | .d (.bool a),.d (.bool b)=>match op with
    | .eql=>k (mL P t=true) (.d (.bool (a==b)))
    | .neq=>k (mL P t=true) (.d (.bool (!(a==b))))
    |_=>False
  | .d (.agg xs),.d (.agg ys)=>match kL P t with
    |some ks=>match jg ks xs ys with
      |some r=>match op with
        | .eql=>k True (.d (.bool r))
        | .neq=>k True (.d (.bool (!r)))
        |_=>False
      |none=>False
    |none=>False
  | .d .nili,.d .nili=>match op with
    | .eql=>k (DQ P t=true) (.d (.bool true))
    | .neq=>k (DQ P t=true) (.d (.bool false))
    |_=>False
  | .ifc _ _,.d .nili=>match op with
    | .eql=>k (k7 P t=true) (.d (.bool false))
    | .neq=>k (k7 P t=true) (.d (.bool true))
    |_=>False
  | .d .nilm,.d .nilm=>match op with
    | .eql=>k (lG P t=true) (.d (.bool true))
    | .neq=>k (lG P t=true) (.d (.bool false))
    |_=>False
  | .mapr _,.d .nilm=>match op with
    | .eql=>k (lG P t=true) (.d (.bool false))
    | .neq=>k (lG P t=true) (.d (.bool true))
    |_=>False
  | .d .nilp,.d .nilp=>match op with
    | .eql=>k (yW P t=true) (.d (.bool true))
    | .neq=>k (yW P t=true) (.d (.bool false))
    |_=>False
  |_,_=>k False .o
def pi(op:UnOp)(k:Prop→A→Prop):A→Prop
  | .d (.bool b)=>match op with
    | .not=>k True (.d (.bool (!b)))
    |_=>False
  | .d (.int ik a)=>match op with
    | .neg=>k True (.d (.int ik (ik.wrap (0 - a))))
    | .xor=>k True (.d (.int ik (ik.wrap (BitVec.ofInt ik.bits (if ik.signed then -1 else ik.max) ^^^ BitVec.ofInt ik.bits a).toNat)))
    |_=>False
  |_=>False
def kz:List A→Option (List UInt8)
  |[]=>some []
  | .d (.int .u8 n)::r=>if 0≤n∧n<256 then(kz r).map (UInt8.ofNat n.toNat:: ·)else none
  |_::_=>none
def uJ(t:TypeId):Bool:=match P.underlying t with
  |some (.slice e)=>match P.underlying e with
    |some (.int .u8)=>true
    |_=>false
  |_=>false
def ew(src dst:TypeId)(k:Prop→A→Prop):A→Prop
  | .d (.int _ a)=>match P.underlying src,zD P dst with
    |some _,some jk=>k True (.d (.int jk (jk.wrap a)))
    |_,_=>False
  | .d (.str s)=>match P.underlying src with
    |some _=>k (kp P dst=true) (.d (.str s))
    |none=>False
  | .rs id sz off len _=>match Z[id]? with
    |some (some (.cells cs))=>match kz ((cs.drop off).take len)with
      |some bs=>k (sz=1∧uJ P src=true∧kp P dst=true∧off+len≤cs.length) (.d (.str bs))
      |none=>False
    |_=>False
  |_=>False
def jH(t:TypeId)(k:Prop→A→Prop)(a:A):Prop:=match a with
  | .d (.str s)=>k (kp P t=true) (.d (.int .i64 s.length))
  | .d (.sl _ xs)=>k ((eA P t).isSome=true) (.d (.int .i64 xs.length))
  | .d .nils=>k ((eA P t).isSome=true) (.d (.int .i64 0))
  | .rs id _ _ n _=>k (dr Z id=true∧(eA P t).isSome=true) (.d (.int .i64 n))
  |_=>k False .o
def gu(k:Prop→A→Prop)(c a b:A):Prop:=match c,a.strip,b.strip with
  | .d (.bool x),.d (.bool p),.d (.bool q)=>k ((x=true→a.cond=true)∧(x=false→b.cond=true)) (.d (.bool (bif x then p else q)))
  | .d (.bool true),p,_=>k (a.cond=true) p
  | .d (.bool false),_,q=>k (b.cond=true) q
  |_,_,_=>k False .o
def iI:Option A→Nat→Option Int
  |none,d=>some d
  |some (.d (.int _ n)),_=>some n
  |_,_=>none
def gd(t:TypeId)(k:Prop→A→Prop)(x:A)(lo hi:Option A):Prop:=match x with
  | .d (.str s)=>match iI lo 0,iI hi s.length with
    |some l,some h=>k (kp P t=true∧0≤l∧l≤h∧h≤s.length) (.d (.str ((s.take h.toNat).drop l.toNat)))
    |_,_=>False
  | .d (.sl sz xs)=>match iI lo 0,iI hi xs.length with
    |some l,some h=>match eA P t with
      |some (_,s)=>k (s=sz∧0≤l∧l≤h∧h≤xs.length) (.d (.sl sz ((xs.take h.toNat).drop l.toNat)))
      |none=>False
    |_,_=>False
  | .d .nils=>match iI lo 0,iI hi 0 with
    |some l,some h=>k ((eA P t).isSome=true∧l=0∧h=0) (.d .nils)
    |_,_=>False
  | .rs id sz off len ow=>match lo with
    |none=>match iI hi len with
      |some h=>match eA P t with
        |some (_,s)=>k (dr Z id=true∧s=sz∧0≤h∧h≤len) (.rs id sz off h.toNat ow)
        |none=>False
      |none=>False
    |some (.d (.int _ l))=>match iI hi len with
      |some h=>match eA P t with
        |some (_,s)=>k (dr Z id=true∧s=sz∧0≤l∧l<h∧h≤len) (.rs id sz (off+l.toNat*sz) (h - l).toNat none)
        |none=>False
      |none=>False
    |_=>False
  |_=>False
def f7(k:Prop→A→Prop)(i:Nat):A→Prop
  | .tup as=>k (i<as.length) (as.getD i .o)
  |_=>False
def lX(t:TypeId):Bool:=match P.underlying t with
  |some (.interface _)=>false
  |some _=>true
  |none=>false
def wK(t:TypeId):Bool:=match P.info? t with
  |some i=>i.zero.isSome
  |none=>false
def iU(t:TypeId)(commaOk:Bool)(k:Prop→A→Prop):A→Prop
  | .ifc t' a=>if t'=t then k (lX P t=true) (if commaOk=true then .tup [a,.d (.bool true)]else a)else if commaOk=true then k (lX P t=true∧wK P t=true) (.tup [.o,.d (.bool false)])else False
  | .d .nili=>if commaOk=true then k (lX P t=true∧wK P t=true) (.tup [.o,.d (.bool false)])else False
  |_=>False
end

section
variable {P:Program} {U:gM} {w:World} {Z:St} {G:Glob}

theorem vc{op:BinOp}{t:TypeId}{k:Prop→A→Prop}{ik:IntKind}{a b:Int}(hop:op≠.shl∧op≠.shr)(h:fc op k ik a b):uQ P U w (binOp op t (.int ik a) (.int ik b)) k:=by
  cases op<;> simp only[fc]at h<;> first
    |exact h.elim
    |exact absurd rfl hop.1
    |exact absurd rfl hop.2
    |(
       refine⟨_,_,h,λ hp=>⟨_,?_,RepA.d (.int _ _)⟩⟩
       simp only[binOp,ne_eq,not_true_eq_false,if_false]
       first
         |rfl
         |(simp only[Op.intDiv,if_neg hp];rfl))
    |(
       refine⟨_,_,h,λ hp=>⟨_,?_,RepA.d (.bool _)⟩⟩
       simp only[binOp,ne_eq,not_true_eq_false,if_false]
       rfl)

theorem rR(a:ByteArray):a.toList=a.data.toList:=by rw[ByteArray.toList_eq]
theorem yP{op:BinOp}{t:TypeId}{k:Prop→A→Prop}{a b:ByteArray}(h:lT op k a.data.toList b.data.toList):uQ P U w (binOp op t (.string a) (.string b)) k:=by
  cases op<;> simp only[lT]at h<;> first
    |exact h.elim
    |(
       refine⟨_,_,h,λ hp=>⟨.string (a++b),?_,?_⟩⟩
       · simp only[binOp,Op.stringOp]
         rw[if_neg (by simp [IntKind.max,IntKind.signed,IntKind.bits]at hp ⊢;omega)]
         rfl
       · have e:a.data.toList++b.data.toList=(a++b).data.toList:=by simp
         rw[e];exact .d (.str _))
    |exact⟨_,_,h,λ hp=>⟨_,by simp [binOp,Op.stringOp,rR],.d (.bool _)⟩⟩

theorem qi{t:TypeId}(h:mL P t=true):P.underlying t=some .bool:=by
  unfold mL at h
  split at h
  · assumption
  · cases h
theorem tM{t:TypeId}{k:PK}(h:tN P t=some k):
    (match k with| .int=>∃ik,P.underlying t=some (.int ik)| .bool=>P.underlying t=some .bool| .str=>P.underlying t=some .string):=by
  unfold tN at h
  split at h<;> first|(cases h;done)|(injection h with h;subst h;simp_all)
theorem CY{t:TypeId}{k:PK}(h:tN P t=some k):ef P t=some false:=by
  have:=tM h
  unfold ef
  cases k<;> simp only at this
  · obtain⟨_,h⟩:=this;rw[h]
  · rw[this]
  · rw[this]
theorem eqD1_run{t:TypeId}(d:Nat){kk:PK}(ht:tN P t=some kk){m:Nat→Prop}{x y:D}{u v:Value}{r:Bool}(hx:RepD w m x u)(hy:RepD w m y v)(h:eqD1 kk x y=some r):
    (Op.equalIn (d+1) t u v).run P w= .ok r w:=by
  have hu:=tM ht
  unfold eqD1 at h
  split at h
  · cases hx;cases hy
    split at h
    · rename_i hk;subst hk;injection h with h;subst h
      obtain⟨k',hu⟩:=hu
      simp [Op.equalIn,run_underlying hu]
    · cases h
  · cases hx;cases hy
    injection h with h;subst h
    simp [Op.equalIn,run_underlying hu]
  · cases hx;cases hy
    injection h with h;subst h
    simp only[Op.equalIn,Sem.run_bind,run_underlying hu,Result.andThen_ok,Sem.run_pure,beq_toListBytes,rR]
  · cases h
theorem sc{m:Nat→Prop}{xs ys:Array Value}(d:Nat):∀(fs:List Field) (i:Nat) (ks:List PK) (as bs:List D) (r:Bool),km P i fs=some ks→jg ks as bs=some r→
    (∀(j:Nat) (a:D),as[j]? =some a→∃v,xs[i+j]? =some v∧RepD w m a v)→(∀(j:Nat) (a:D),bs[j]? =some a→∃v,ys[i+j]? =some v∧RepD w m a v)→
    (Op.eqFields (d+1) xs ys fs).run P w= .ok r w
  |[],i,ks,as,bs,r,hf,he,_,_=>by
    simp only[km,Option.some.injEq]at hf
    subst hf
    cases as<;> cases bs<;> simp [jg]at he
    subst he
    simp [Op.eqFields]
  |f::fs,i,ks,as,bs,r,hf,he,hx,hy=>by
    simp only[km]at hf
    split at hf
    · rename_i k ks' hk hks
      split at hf
      · rename_i hn
        injection hf with hf
        subst hf
        cases as with
        |nil=>cases bs<;> simp [jg]at he
        |cons a as=>
          cases bs with
          |nil=>simp [jg]at he
          |cons b bs=>
            simp only[jg]at he
            split at he
            · rename_i r1 r2 h1 h2
              injection he with he
              subst he
              obtain⟨u,hu1,hu2⟩:=hx 0 a (by simp)
              obtain⟨v,hv1,hv2⟩:=hy 0 b (by simp)
              have ih:=sc d fs (i+1) ks' as bs r2 hks h2 (λ j a hj=>by have:=hx (j+1) a (by simpa using hj);rwa [show i+(j+1)=i+1+j by omega]at this)
                (λ j a hj=>by have:=hy (j+1) a (by simpa using hj);rwa [show i+(j+1)=i+1+j by omega]at this)
              have hag:=CY hk
              have p1:(part f.type xs f.offset).run P w= .ok u w:=by
                simp only[part,Sem.run_bind,jd hag,Result.andThen_ok,eG,if_false,hn.2]
                rw[show xs[i]? =some u by simpa using hu1];rfl
              have p2:(part f.type ys f.offset).run P w= .ok v w:=by
                simp only[part,Sem.run_bind,jd hag,Result.andThen_ok,eG,if_false,hn.2]
                rw[show ys[i]? =some v by simpa using hv1];rfl
              simp only[Op.eqFields,if_pos hn.1,Sem.run_bind,p1,p2,Result.andThen_ok,eqD1_run d hk hu2 hv2 h1]
              cases r1
              · simp
              · simpa using ih
            · cases he
      · cases hf
    · cases hf
theorem Ap{cs:List D}{v:Value}(h:RepA U w (.d (.agg cs)) v):∃vs:List Value,v= .agg vs.toArray∧cs.length=vs.length∧
    ∀(i:Nat) (x:D) (u:Value),cs[i]? =some x→vs[i]? =some u→RepD w (M U) x u:=by
  cases h with|d h=>cases h with|agg _ vs len one rep=>exact⟨vs,rfl,len,rep⟩
theorem zk{t:TypeId}(p:Option Addr)(x y:Operand)(w:World):(∀op,(eqGuard op t x y (.pointer p) (.pointer none)).run P w= .ok () w)∧(yW P t=true→(Op.equal t (.pointer p) (.pointer none)).run P w= .ok p.isNone w):=by
  refine⟨λ op=> ?_,λ hp=> ?_⟩
  · unfold eqGuard
    cases op<;> simp
  · obtain⟨e,hu⟩:∃e,P.underlying t=some (.pointer e):=by
      unfold yW at hp
      split at hp
      · rename_i e hu;exact⟨e,hu⟩
      · cases hp
    have gen:∀d:Nat,(Op.equalIn (d+1) t (.pointer p) (.pointer none)).run P w= .ok p.isNone w:=λ d=>by
      cases p<;> simp [Op.equalIn,run_underlying hu]
    exact gen 9999
theorem nils_run{t:TypeId}(p:Option Addr)(n c:Nat)(x y:Operand)(w:World):(∀op,(eqGuard op t x y (.slice p n c) (.slice none 0 0)).run P w= .ok () w)∧(lB P t=true→(Op.equal t (.slice p n c) (.slice none 0 0)).run P w= .ok p.isNone w):=by
  refine⟨λ op=> ?_,λ hp=> ?_⟩
  · unfold eqGuard
    cases op<;> simp
  · obtain⟨e,hu⟩:∃e,P.underlying t=some (.slice e):=by
      unfold lB at hp
      split at hp
      · rename_i e hu;exact⟨e,hu⟩
      · cases hp
    have gen:∀d:Nat,(Op.equalIn (d+1) t (.slice p n c) (.slice none 0 0)).run P w= .ok p.isNone w:=λ d=>by
      cases p<;> simp [Op.equalIn,run_underlying hu]
    exact gen 9999
theorem yT{op:BinOp}{t:TypeId}{k:Prop→A→Prop}{a b:A}{u v:Value}(x y:Operand)(ha:RepA U w a u)(hb:RepA U w b v)(h:dE P op t k a b):
    uQ P U w (do eqGuard op t x y u v;binOp op t u v) k:=by
  unfold dE at h
  split at h
  · rename_i ik a jk b
    obtain rfl:=gk ha
    obtain rfl:=gk hb
    have hg:(eqGuard op t x y (.int ik a) (.int jk b)).run P w= .ok () w:=by unfold eqGuard;cases op<;> rfl
    have key:uQ P U w (binOp op t (.int ik a) (.int jk b)) k:=by
      split at h
      · exact⟨_,_,h,λ hp=>⟨_,by simp only[binOp,Op.shift,if_neg (show¬b<0 by omega)];rfl,.d (.int _ _)⟩⟩
      · exact⟨_,_,h,λ hp=>⟨_,by simp only[binOp,Op.shift,if_neg (show¬b<0 by omega)];rfl,.d (.int _ _)⟩⟩
      · rename_i h1 h2
        split at h
        · rename_i e;subst e;exact vc ⟨h1,h2⟩ h
        · exact h.elim
    obtain⟨p,a,hk,hp⟩:=key
    exact⟨p,a,hk,λ q=>by simpa only[Sem.run_bind,hg,Result.andThen_ok]using hp q⟩
  · obtain⟨s,rfl,rfl⟩:=kR ha
    obtain⟨s',rfl,rfl⟩:=kR hb
    have hg:(eqGuard op t x y (.string s) (.string s')).run P w= .ok () w:=by unfold eqGuard;cases op<;> rfl
    obtain⟨p,a,hk,hp⟩:=yP (P:=P) (U:=U) (w:=w) (t:=t) h
    exact⟨p,a,hk,λ q=>by simpa only[Sem.run_bind,hg,Result.andThen_ok]using hp q⟩
  · rename_i a b
    obtain rfl:=g8 ha
    obtain rfl:=g8 hb
    have hg:(eqGuard op t x y (.bool a) (.bool b)).run P w= .ok () w:=by unfold eqGuard;cases op<;> rfl
    split at h
    · exact⟨_,_,h,λ hp=>⟨_,by simp only[Sem.run_bind,hg,Result.andThen_ok];exact run_eql_bool _ t a b (qi hp),.d (.bool _)⟩⟩
    · exact⟨_,_,h,λ hp=>⟨_,by simp only[Sem.run_bind,hg,Result.andThen_ok];exact run_neq_bool _ t a b (qi hp),.d (.bool _)⟩⟩
    · exact h.elim
  · rename_i xs ys
    obtain⟨us,rfl,hl1,hr1⟩:=Ap ha
    obtain⟨vs,rfl,hl2,hr2⟩:=Ap hb
    split at h
    · rename_i ks hks
      split at h
      · rename_i r hr
        unfold kL at hks
        split at hks
        · rename_i fs hu
          split at hks
          · rename_i hst
            have hfo:P.fieldsOf t=fs:=by simp [Program.fieldsOf,hu]
            have hrun:(Op.equalIn 10000 t (.agg us.toArray) (.agg vs.toArray)).run P w= .ok r w:=by
              rw[run_equalIn_struct w 9999 t _ _ (by rw[hfo];exact hu) hst.1,hfo]
              refine sc (m:=M U) 9998 fs.toList 0 ks xs ys r hks hr (λ j a hj=> ?_) (λ j a hj=> ?_)
              · have:j<us.length:=by have:=(aA.1 hj).1;omega
                exact⟨us[j],by simp [this],hr1 j a _ hj (by simp [this])⟩
              · have:j<vs.length:=by have:=(aA.1 hj).1;omega
                exact⟨vs[j],by simp [this],hr2 j a _ hj (by simp [this])⟩
            have hg:∀op,(eqGuard op t x y (.agg us.toArray) (.agg vs.toArray)).run P w= .ok () w:=λ op=>by
              unfold eqGuard
              cases op<;> simp [hst.2]
            split at h
            · exact⟨_,_,h,λ _=>⟨_,by simp only[Sem.run_bind,hg,Result.andThen_ok,run_eql_struct,hrun],.d (.bool _)⟩⟩
            · exact⟨_,_,h,λ _=>⟨_,by simp only[Sem.run_bind,hg,Result.andThen_ok,run_neq_struct,hrun],.d (.bool _)⟩⟩
            · exact h.elim
          · cases hks
        · cases hks
      · exact h.elim
    · exact h.elim
  · cases ha with|d ha=>cases ha with|nili=>
    cases hb with|d hb=>cases hb with|nili=>
    have key:DQ P t=true→∃ms,P.underlying t=some (.interface ms)∧ms.isEmpty=true:=λ hp=>by
      unfold DQ at hp
      split at hp
      · rename_i ms hu;exact⟨ms,hu,hp⟩
      · cases hp
    have hg:DQ P t=true→∀op,(eqGuard op t x y .nilIface .nilIface).run P w= .ok () w:=λ hp op=>by
      obtain⟨ms,hu,he⟩:=key hp
      have hin:(Op.eqGuardIn Op.maxDepth t .nilIface .nilIface).run P w= .ok false w:=by
        have gen:∀d:Nat,(Op.eqGuardIn (d+1) t .nilIface .nilIface).run P w= .ok false w:=λ d=>by
          simp [Op.eqGuardIn,run_underlying hu,he]
        exact gen 9999
      unfold eqGuard
      cases op<;> simp [hin]<;> split<;> simp
    have he:DQ P t=true→(Op.equal t .nilIface .nilIface).run P w= .ok true w:=λ hp=>by
      obtain⟨ms,hu,he⟩:=key hp
      have gen:∀d:Nat,(Op.equalIn (d+1) t .nilIface .nilIface).run P w= .ok true w:=λ d=>by
        simp [Op.equalIn,run_underlying hu]
      exact gen 9999
    split at h
    · exact⟨_,_,h,λ hp=>⟨_,by simp [hg hp,binOp,he hp],.d (.bool _)⟩⟩
    · exact⟨_,_,h,λ hp=>⟨_,by simp [hg hp,binOp,he hp],.d (.bool _)⟩⟩
    · exact h.elim
  · cases ha with|ifc _ ha=>
    rename_i t' a' u'
    cases hb with|d hb=>cases hb with|nili=>
    have key:k7 P t=true→∃ms,P.underlying t=some (.interface ms):=λ hp=>by
      unfold k7 at hp
      split at hp
      · rename_i ms hu;exact⟨ms,hu⟩
      · cases hp
    have hg:∀op,(eqGuard op t x y (.iface t' u') .nilIface).run P w= .ok () w:=λ op=>by
      unfold eqGuard
      cases op<;> simp
    have he:k7 P t=true→(Op.equal t (.iface t' u') .nilIface).run P w= .ok false w:=λ hp=>by
      obtain⟨ms,hu⟩:=key hp
      have gen:∀d:Nat,(Op.equalIn (d+1) t (.iface t' u') .nilIface).run P w= .ok false w:=λ d=>by
        simp [Op.equalIn,run_underlying hu]
      exact gen 9999
    split at h
    · exact⟨_,_,h,λ hp=>⟨_,by simp [hg,binOp,he hp],.d (.bool _)⟩⟩
    · exact⟨_,_,h,λ hp=>⟨_,by simp [hg,binOp,he hp],.d (.bool _)⟩⟩
    · exact h.elim
  · cases ha with|d ha=>cases ha with|nilm=>
    cases hb with|d hb=>cases hb with|nilm=>
    have key:lG P t=true→∃a b,P.underlying t=some (.map a b):=λ hp=>by
      unfold lG at hp
      split at hp
      · rename_i a b hu;exact⟨a,b,hu⟩
      · cases hp
    have hg:∀op,(eqGuard op t x y (.map none) (.map none)).run P w= .ok () w:=λ op=>by
      unfold eqGuard
      cases op<;> simp
    have he:lG P t=true→(Op.equal t (.map none) (.map none)).run P w= .ok true w:=λ hp=>by
      obtain⟨a,b,hu⟩:=key hp
      have gen:∀d:Nat,(Op.equalIn (d+1) t (.map none) (.map none)).run P w= .ok true w:=λ d=>by
        simp [Op.equalIn,run_underlying hu]
      exact gen 9999
    split at h
    · exact⟨_,_,h,λ hp=>⟨_,by simp [hg,binOp,he hp],.d (.bool _)⟩⟩
    · exact⟨_,_,h,λ hp=>⟨_,by simp [hg,binOp,he hp],.d (.bool _)⟩⟩
    · exact h.elim
  · cases hb with|d hb=>cases hb with|nilm=>
    obtain⟨bl,rfl⟩:∃bl,u= .map (some bl):=by cases ha<;> exact⟨_,rfl⟩
    have key:lG P t=true→∃a b,P.underlying t=some (.map a b):=λ hp=>by
      unfold lG at hp
      split at hp
      · rename_i a b hu;exact⟨a,b,hu⟩
      · cases hp
    have hg:∀op,(eqGuard op t x y (.map (some bl)) (.map none)).run P w= .ok () w:=λ op=>by
      unfold eqGuard
      cases op<;> simp
    have he:lG P t=true→(Op.equal t (.map (some bl)) (.map none)).run P w= .ok false w:=λ hp=>by
      obtain⟨a,b,hu⟩:=key hp
      have gen:∀d:Nat,(Op.equalIn (d+1) t (.map (some bl)) (.map none)).run P w= .ok false w:=λ d=>by
        simp [Op.equalIn,run_underlying hu]
      exact gen 9999
    split at h
    · exact⟨_,_,h,λ hp=>⟨_,by simp [hg,binOp,he hp],.d (.bool _)⟩⟩
    · exact⟨_,_,h,λ hp=>⟨_,by simp [hg,binOp,he hp],.d (.bool _)⟩⟩
    · exact h.elim
  · cases ha with|d ha=>cases ha with|nilp=>
    cases hb with|d hb=>cases hb with|nilp=>
    obtain⟨hg,he⟩:=zk (P:=P) (t:=t) none x y w
    split at h
    · exact⟨_,_,h,λ hp=>⟨_,by simp [hg,binOp,he hp],.d (.bool _)⟩⟩
    · exact⟨_,_,h,λ hp=>⟨_,by simp [hg,binOp,he hp],.d (.bool _)⟩⟩
    · exact h.elim
  · exact⟨_,_,h,False.elim⟩

theorem yR{t:TypeId}{ty:TypeId}{k:Prop→A→Prop}{a:A}{v:Value}(hI:Inv G U Z w)(ha:RepA U w a v)(h:jH P Z t k a):uQ P U w (Builtin.len_ #[t] ty #[v]) k:=by
  unfold jH at h
  split at h
  · obtain⟨b,rfl,rfl⟩:=kR ha
    refine⟨_,_,h,λ hp=>⟨_,?_,.d (.int _ _)⟩⟩
    simp [Builtin.len_,run_underlying (iE hp),goInt]
  · refine⟨_,_,h,λ hp=> ?_⟩
    obtain⟨⟨e,s⟩,he⟩:=bV.1 hp
    obtain⟨hu,_,_⟩:=eQ he
    cases ha with
    |d ha=>
      cases ha<;> exact⟨_,by simp [Builtin.len_,run_underlying hu,goInt];first|rfl|done,.d (.int _ _)⟩
  · refine⟨_,_,h,λ hp=> ?_⟩
    obtain⟨⟨e,s⟩,he⟩:=bV.1 hp
    obtain⟨hu,_,_⟩:=eQ he
    cases ha with
    |d ha=>cases ha;exact⟨_,by simp [Builtin.len_,run_underlying hu,goInt],.d (.int _ _)⟩
  · refine⟨_,_,h,λ ⟨hl,hp⟩=> ?_⟩
    obtain⟨⟨e,s⟩,he⟩:=bV.1 hp
    obtain⟨hu,_,_⟩:=eQ he
    rcases kB hI hl ha with⟨b,cap,vs,e',z,hb,rfl,_,_,_,_⟩|⟨_,_,rfl,rfl⟩<;>
      exact⟨_,by simp [Builtin.len_,run_underlying hu,goInt],.d (.int _ _)⟩
  · exact⟨_,_,h,False.elim⟩

theorem jq{a:A}{v:Value}(h:RepA U w a v)(hc:a.cond=true):RepA U w a.strip v:=by
  induction h with
  |grd c h h' ih=>
    simp only[A.cond,aB]at hc
    exact ih hc.1 hc.2
  |mapDead b h=>exact .mapDead b h
  |_=>unfold A.strip;constructor<;> assumption

theorem AV{op:UnOp}{k:Prop→A→Prop}{a:A}{v:Value}(ha:RepA U w a v)(h:pi op k a):uQ P U w (Op.unary op v) k:=by
  unfold pi at h
  split at h
  · obtain rfl:=g8 ha
    split at h
    · exact⟨_,_,h,λ _=>⟨_,rfl,.d (.bool _)⟩⟩
    · exact h.elim
  · obtain rfl:=gk ha
    split at h
    · exact⟨_,_,h,λ _=>⟨_,rfl,.d (.int _ _)⟩⟩
    · exact⟨_,_,h,λ _=>⟨_,rfl,.d (.int _ _)⟩⟩
    · exact h.elim
  · exact h.elim
theorem Dn{t:TypeId}{k:IntKind}(h:zD P t=some k):P.underlying t=some (.int k):=by
  unfold zD at h
  split at h
  · rename_i hu;injection h with h;subst h;exact hu
  · cases h
theorem pH:∀(l:List UInt8),kz (l.map λ c=>A.d (.int .u8 (c.toNat:Int)))=some l
  |[]=>rfl
  |c::l=>by
    have h:=c.toNat_lt
    simp only[aM,kz,pH l]
    rw[if_pos ⟨by omega,by omega⟩]
    simp
theorem uK:∀{cs:List A} {bs:List UInt8},kz cs=some bs→bs.length=cs.length∧∀i,i<cs.length→cs[i]? =some (.d (.int .u8 ((bs.getD i 0).toNat:Int)))
  |[],bs,h=>by simp only[kz,Option.some.injEq]at h;subst h;exact⟨rfl,λ i hi=>by simp at hi⟩
  |a::cs,bs,h=>by
    unfold kz at h
    split at h
    · cases ‹a::cs=[]›
    · rename_i n r e
      injection e with e1 e2;subst e1;subst e2
      split at h
      · rename_i hn
        cases hr:kz cs with
        |none=>rw[hr]at h;cases h
        |some t=>
          rw[hr]at h
          simp only[bJ,Option.some.injEq]at h
          subst h
          obtain⟨h1,h2⟩:=uK hr
          refine⟨by simp [h1],λ i hi=> ?_⟩
          match i with
          |0=>
            simp only[cA,dA,UInt8.toNat_ofNat']
            congr 3;omega
          |i+1=>simpa using h2 i (by simpa using hi)
      · cases h
    · cases h
theorem Ai{t:TypeId}(h:uJ P t=true):∃e,P.underlying t=some (.slice e)∧P.underlying e=some (.int .u8):=by
  unfold uJ at h
  split at h
  · rename_i e hu
    split at h
    · rename_i he;exact⟨e,hu,he⟩
    · cases h
  · cases h
theorem sn{src dst:TypeId}{k:Prop→A→Prop}{a:A}{v:Value}(hI:Inv G U Z w)(ha:RepA U w a v)(h:ew P Z src dst k a):uQ P U w (convert src dst v) k:=by
  unfold ew at h
  split at h
  · obtain rfl:=gk ha
    split at h
    · rename_i d jk hs hd
      exact⟨_,_,h,λ _=>⟨_,by simp [convert,run_underlying hs,run_underlying (Dn hd),Conv.intToInt],.d (.int _ _)⟩⟩
    · exact h.elim
  · obtain⟨b,rfl,rfl⟩:=kR ha
    split at h
    · rename_i d hs
      exact⟨_,_,h,λ hp=>⟨_,by simp [convert,run_underlying hs,run_underlying (iE hp)],.d (.str _)⟩⟩
    · exact h.elim
  · rename_i id sz off len ow
    split at h
    · rename_i cs hσ
      split at h
      · rename_i bs hb
        refine⟨_,_,h,λ ⟨h1,h2,h3,h4⟩=> ?_⟩
        subst h1
        obtain⟨e,he1,he2⟩:=Ai h2
        obtain⟨hl,hget⟩:=uK hb
        have hlen:((cs.drop off).take len).length=len:=by simp;omega
        have hlive:dr Z id=true:=by simp [dr,hσ]
        rcases kB hI hlive ha with⟨b,cap,vs,e',z,g1,rfl,g3,g4,g5,-⟩|⟨g1,rfl,rfl,rfl⟩
        · rcases hI.obj id _ hσ with⟨b',k1,vs',e'',k2,k3,k4⟩|⟨k1,_⟩
          · rw[g1]at k1;injection k1 with k1;injection k1 with k1;subst k1
            rw[g3]at k2;injection k2 with k2;injection k2 with k2 _ _;subst k2
            have hcell:∀i,i<len→w.cell? ⟨b,off+i,none⟩=some (.int .u8 ((bs.map λ c=>(c.toNat:Int)).getD i 0)):=λ i hi=>by
              have h5:=hget i (by rw[hlen];exact hi)
              rw[bL hi,bE]at h5
              obtain⟨v,h6,h7,h8⟩:=k4 _ _ h5
              obtain rfl:=gk h8
              rw[eR g3,h6]
              have hbi:i<bs.length:=by rw[hl,hlen];exact hi
              simp [List.getD,ap hbi]
            refine⟨_,run_convert_bytes_arg w src e he1 he2 b off len cap (bs.map λ c=>(c.toNat:Int)) (by simp [hl,hlen]) hcell dst (iE h3),?_⟩
            have hd:(strOfNums (bs.map λ c=>(c.toNat:Int))).data.toList=bs:=by
              rw[strOfNums_data,dZ]
              conv=>rhs;rw[←List.map_id bs]
              apply dz
              intro c _;simp
            have:=RepD.str (w:=w) (m:=M U) (strOfNums (bs.map λ c=>(c.toNat:Int)))
            rw[hd]at this
            exact .d this
          · rw[g1]at k1;cases k1
        · refine⟨_,run_convert_bytes_nil w src e he1 he2 0 0 dst (iE h3),?_⟩
          have:bs=[]:=by
            have:bs.length=0:=by rw[hl,hlen]
            exact bz this
          subst this
          exact .d (.str ByteArray.empty)
      · exact h.elim
    · exact h.elim
  · exact h.elim
theorem pY{k:Prop→A→Prop}{c a b:A}{u v x:Value}(hc:RepA U w c u)(ha:RepA U w a v)(hb:RepA U w b x)(h:gu k c a b):
    uQ P U w (do pure (if←asBool u then v else x)) k:=by
  unfold gu at h
  split at h
  · rename_i z p q h1 h2
    obtain rfl:=g8 hc
    refine⟨_,_,h,λ ⟨hp,hq⟩=> ?_⟩
    cases z
    · refine⟨x,by simp [asBool],?_⟩
      have:=jq hb (hq rfl)
      rw[h2]at this;exact this
    · refine⟨v,by simp [asBool],?_⟩
      have:=jq ha (hp rfl)
      rw[h1]at this;exact this
  · obtain rfl:=g8 hc
    exact⟨_,_,h,λ hp=>⟨v,by simp [asBool],jq ha hp⟩⟩
  · obtain rfl:=g8 hc
    exact⟨_,_,h,λ hp=>⟨x,by simp [asBool],jq hb hp⟩⟩
  · exact⟨_,_,h,λ hp=>hp.elim⟩

theorem uL{lo:Option A}{vlo:Option Value}{d:Nat}{n:Int}(hlo:∀a,lo=some a→∃v,vlo=some v∧RepA U w a v)(hn:lo=none→vlo=none)(h:iI lo d=some n):
    (lo=none∧vlo=none∧n=d)∨∃ik,vlo=some (.int ik n):=by
  unfold iI at h
  split at h
  · injection h with h;exact .inl ⟨rfl,hn rfl,h.symm⟩
  · injection h with h;subst h
    obtain⟨v,hv,hr⟩:=hlo _ rfl
    obtain rfl:=gk hr
    exact .inr ⟨_,hv⟩
  · cases h
theorem jh {lo hi:Option A} {vlo vhi:Option Value} {isS:Bool} {len cap:Nat} {l h:Int}
    (hlo:∀a,lo=some a→∃v,vlo=some v∧RepA U w a v) (hln:lo=none→vlo=none) (hhi:∀a,hi=some a→∃v,vhi=some v∧RepA U w a v) (hhn:hi=none→vhi=none)
    (el:iI lo 0=some l) (eh:iI hi len=some h) (h0:0≤l) (h1:l≤h) (h2:h≤cap):
    (Instr.sliceBounds isS len cap vlo vhi none).run P w= .ok (l.toNat,h.toNat,cap) w:=by
  have sb:∀(ik:IntKind) (n:Int) (y:Nat) (c:BoundsCode),0≤n→n≤y→(Instr.sliceBound (.int ik n) y c).run P w= .ok n.toNat w:=λ ik n y c a b=>by simp [Instr.sliceBound,asIntOf,a,b]
  rcases uL hhi hhn eh with⟨_,rfl,e1⟩|⟨ik,rfl⟩<;> rcases uL hlo hln el with⟨_,rfl,e2⟩|⟨jk,rfl⟩
  · subst e1;subst e2;simp [Instr.sliceBounds]
  · subst e1;simp [Instr.sliceBounds,sb _ _ _ _ h0 h1]
  · subst e2;simp [Instr.sliceBounds,sb _ _ _ _ (show 0≤h by omega) h2]
  · simp [Instr.sliceBounds,sb _ _ _ _ (show 0≤h by omega) h2,sb _ _ _ _ h0 (show l≤(h.toNat:Int)by omega)]

theorem u5 {t:TypeId} {k:Prop→A→Prop} {x:A} {v:Value} {lo hi:Option A} {vlo vhi:Option Value} (hI:Inv G U Z w) (hx:RepA U w x v)
    (hlo:∀a,lo=some a→∃v,vlo=some v∧RepA U w a v) (hln:lo=none→vlo=none) (hhi:∀a,hi=some a→∃v,vhi=some v∧RepA U w a v) (hhn:hi=none→vhi=none)
    (h:gd P Z t k x lo hi):uQ P U w (Instr.sliceAt t v vlo vhi none) k:=by
  unfold gd at h
  split at h
  · obtain⟨b,rfl,rfl⟩:=kR hx
    split at h
    · rename_i l h' e1 e2
      refine⟨_,_,h,λ ⟨q0,q1,q2,q3⟩=> ?_⟩
      have hb:=jh (P:=P) (w:=w) (isS:=false) (len:=b.size) (cap:=b.size) hlo hln hhi hhn e1 (by simpa using e2) q1 q2 (by simpa using q3)
      refine⟨.string (b.extract l.toNat h'.toNat),?_,?_⟩
      · simp [Instr.sliceAt,Instr.slice,run_underlying (iE q0),hb]
      · have e:(b.data.toList.take h'.toNat).drop l.toNat=(b.extract l.toNat h'.toNat).data.toList:=by
          simp [List.drop_take]
        rw[e];exact .d (.str _)
    · exact h.elim
  · rename_i sz xs
    split at h
    · rename_i l h' e1 e2
      split at h
      · rename_i e s he
        obtain⟨hu,hs,i,hi⟩:=eQ he
        refine⟨_,_,h,λ ⟨q0,q1,q2,q3⟩=> ?_⟩
        subst q0
        cases hx with
        |d hx=>
          cases hx with
          |sl0 _ a c=>
            simp at q3
            have z1:l=0:=by omega
            have z2:h'=0:=by omega
            subst z1;subst z2
            have hb:=jh (P:=P) (w:=w) (isS:=true) (len:=0) (cap:=c) hlo hln hhi hhn e1 e2 (by omega) (by omega) (by omega)
            refine⟨.slice (if c=0 then a else a.map (·.add (0*s))) 0 c,?_,?_⟩
            · simp [Instr.sliceAt,Instr.slice,run_underlying hu,hb,dp hi,hs]
            · simp;exact .d (.sl0 _ _ _)
          |sl _ _ b o c vs hm hb hcap len one cell rep=>
            have hb':=jh (P:=P) (w:=w) (isS:=true) (len:=xs.length) (cap:=c) hlo hln hhi hhn e1 e2 q1 q2 (by omega)
            have hr:(Instr.sliceAt t (.slice (some ⟨b,o,none⟩) xs.length c) vlo vhi none).run P w= .ok (.slice (if c=l.toNat then some ⟨b,o,none⟩else some ⟨b,o+l.toNat*s,none⟩) (h'.toNat - l.toNat) (c - l.toNat)) w:=by
              simp [Instr.sliceAt,Instr.slice,run_underlying hu,hb',dp hi,hs,uP]
            refine⟨_,hr,?_⟩
            by_cases hlt:l.toNat<h'.toNat
            · rw[if_neg (by omega)]
              have hlen:((xs.take h'.toNat).drop l.toNat).length=h'.toNat - l.toNat:=by simp;omega
              have hget:∀(i:Nat) (x:D),((xs.take h'.toNat).drop l.toNat)[i]? =some x→xs[l.toNat+i]? =some x:=λ i x hx=>by
                rw[bE,cE]at hx
                split at hx
                · exact hx
                · cases hx
              rw[←hlen]
              exact .d (.sl s _ b (o+l.toNat*s) (c - l.toNat) (λ i j=>vs (l.toNat+i) j) hm hb (by rw[hlen];omega) (λ i x hx=>len _ _ (hget i x hx)) (λ i x j y hx hy=>one _ _ _ _ (hget i x hx) hy)
                (λ i x j y hx hy=>by have:=cell _ _ _ _ (hget i x hx) hy;rw[←this];congr 2;rw[fL];omega) (λ i x j y hx hy=>rep _ _ _ _ (hget i x hx) hy))
            · have:(xs.take h'.toNat).drop l.toNat=[]:=by apply d7;simp;omega
              rw[this,show h'.toNat - l.toNat=0 by omega]
              exact .d (.sl0 _ _ _)
      · exact h.elim
    · exact h.elim
  · split at h
    · rename_i l h' e1 e2
      refine⟨_,_,h,λ ⟨q0,q1,q2⟩=> ?_⟩
      subst q1;subst q2
      obtain⟨⟨e,s⟩,he⟩:=bV.1 q0
      obtain⟨hu,hs,i,hi⟩:=eQ he
      cases hx with
      |d hx=>
        cases hx
        have hb:=jh (P:=P) (w:=w) (isS:=true) (len:=0) (cap:=0) hlo hln hhi hhn e1 e2 (by omega) (by omega) (by omega)
        exact⟨_,by simp [Instr.sliceAt,Instr.slice,run_underlying hu,hb,dp hi,hs],.d .nils⟩
    · exact h.elim
  · rename_i id sz off len ow
    split at h
    · split at h
      · rename_i h' e2
        split at h
        · rename_i e s he
          obtain⟨hu,hs,i,hi⟩:=eQ he
          refine⟨_,_,h,λ ⟨q0,q1,q2,q3⟩=> ?_⟩
          subst q1
          have hln':=hln rfl
          subst hln'
          rcases kB hI q0 hx with⟨b,cap,vs,e',z,hb,rfl,hh,hc,hsz,ho⟩|⟨hb,rfl,rfl,rfl⟩
          · have hb':=jh (P:=P) (w:=w) (isS:=true) (len:=len) (cap:=cap) hlo hln hhi hhn (l:=0) rfl e2 (by omega) (by omega) (by omega)
            refine⟨.slice (some ⟨b,off,none⟩) h'.toNat cap,?_,.rs hb hh (by omega) hsz ho⟩
            simp [Instr.sliceAt,Instr.slice,run_underlying hu,hb',dp hi,hs,uP]
          · have z2:h'=0:=by omega
            subst z2
            have hb':=jh (P:=P) (w:=w) (isS:=true) (len:=0) (cap:=0) hlo hln hhi hhn (l:=0) rfl e2 (by omega) (by omega) (by omega)
            refine⟨.slice none 0 0,?_,.rsEmpty _ _ hb⟩
            simp [Instr.sliceAt,Instr.slice,run_underlying hu,hb',dp hi,hs]
        · exact h.elim
      · exact h.elim
    · rename_i ik l
      split at h
      · rename_i h' e2
        split at h
        · rename_i e s he
          obtain⟨hu,hs,i,hi⟩:=eQ he
          refine⟨_,_,h,λ ⟨q0,q1,q2,q3,q4⟩=> ?_⟩
          subst q1
          rcases kB hI q0 hx with⟨b,cap,vs,e',z,hb,rfl,hh,hc,hsz,_⟩|⟨_,_,h0,_⟩
          case inr=>omega
          have hb':=jh (P:=P) (w:=w) (isS:=true) (len:=len) (cap:=cap) hlo hln hhi hhn (l:=l) rfl e2 (by omega) (by omega) (by omega)
          have e3:h'.toNat - l.toNat=(h' - l).toNat:=by omega
          refine⟨.slice (some ⟨b,off+l.toNat*s,none⟩) (h' - l).toNat (cap - l.toNat),?_,.rs hb hh (by omega) (by
            rw[Nat.sub_mul]
            have:l.toNat*s≤cap*s:=fp _ (by omega)
            omega) (λ _ h=>by cases h)⟩
          simp only[Instr.sliceAt,Sem.run_bind,run_underlying hu,Result.andThen_ok,Instr.slice,hb',dp hi,hs,Sem.run_pure,e3,if_neg (show¬cap=l.toNat by omega),bJ,uP]
        · exact h.elim
      · exact h.elim
    · exact h.elim
  · exact h.elim

theorem sk{k:Prop→A→Prop}{i:Nat}{a:A}{v:Value}(ha:RepA U w a v)(h:f7 k i a):uQ P U w (Instr.extract v i) k:=by
  unfold f7 at h
  split at h
  · rename_i as
    cases ha with
    |tup _ vs len rep=>
      refine⟨_,_,h,λ hp=> ?_⟩
      obtain⟨v,hv⟩:∃v,vs[i]? =some v:=⟨_,ap (by omega)⟩
      exact⟨v,by simp [Instr.extract,hv],rep i _ v (fv hp) hv⟩
  · exact h.elim
theorem oP{t:TypeId}(h:lX P t=true):∃d,P.underlying t=some d∧∀m,d≠.interface m:=by
  unfold lX at h
  split at h
  · cases h
  · rename_i d hne hu
    exact⟨d,hu,λ m e=>hne m e⟩
  · cases h
theorem oN{t xt:TypeId}{v:Value}(hv:v= .nilIface∨∃t' u,v= .iface t' u∧t'≠t)(hp:lX P t=true∧wK P t=true):∃u,(Instr.typeAssert v xt t true).run P w= .ok u w∧RepA U w (.tup [.o,.d (.bool false)]) u:=by
  obtain⟨d,hu,hne⟩:=oP hp.1
  have hz:=hp.2
  unfold wK at hz
  split at hz
  · rename_i i hi
    obtain⟨z,hz⟩:=bV.1 hz
    refine⟨.tuple #[z,.bool false],?_,.tup _ [z,.bool false] rfl (λ i x v hx hv=> ?_)⟩
    · rcases hv with rfl|⟨t',u,rfl,hne'⟩
      · simp only[Instr.typeAssert,Sem.run_bind,run_underlying hu,Result.andThen_ok]
        cases d<;> first|(exact(hne _ rfl).elim)|simp [zeroValue,typeInfo,hi,hz]
      · simp only[Instr.typeAssert,Sem.run_bind,run_underlying hu,Result.andThen_ok]
        cases d<;> first|(exact(hne _ rfl).elim)|simp [zeroValue,typeInfo,hi,hz,hne']
    · match i with
      |0=>simp at hx;subst hx;exact .o _
      |1=>simp at hx hv;subst hx;subst hv;exact .d (.bool _)
      |i+2=>simp at hx
  · cases hz
theorem tH{t xt:TypeId}{ok:Bool}{k:Prop→A→Prop}{a:A}{v:Value}(ha:RepA U w a v)(h:iU P t ok k a):uQ P U w (Instr.typeAssert v xt t ok) k:=by
  unfold iU at h
  split at h
  · rename_i t' a
    cases ha with
    |ifc _ ha=>
      rename_i u
      split at h
      · rename_i e;subst e
        refine⟨_,_,h,λ hp=> ?_⟩
        obtain⟨d,hu,hne⟩:=oP hp
        have hrun:(Instr.typeAssert (.iface t' u) xt t' ok).run P w= .ok (if ok then .tuple #[u,.bool true]else u) w:=by
          simp only[Instr.typeAssert,Sem.run_bind,run_underlying hu,Result.andThen_ok]
          cases d<;> first|(exact(hne _ rfl).elim)|simp
        refine⟨_,hrun,?_⟩
        cases ok
        · exact ha
        · exact .tup _ [u,.bool true] rfl (λ i x v hx hv=>by
            match i with
            |0=>simp at hx hv;subst hx;subst hv;exact ha
            |1=>simp at hx hv;subst hx;subst hv;exact .d (.bool _)
            |i+2=>simp at hx)
      · rename_i hne
        split at h
        · rename_i hok;subst hok
          exact⟨_,_,h,λ hp=>oN (.inr ⟨t',u,rfl,hne⟩) hp⟩
        · exact h.elim
  · cases ha with
    |d hd=>
    cases hd with
    |nili=>
    split at h
    · rename_i hok;subst hok
      exact⟨_,_,h,λ hp=>oN (.inl rfl) hp⟩
    · exact h.elim
  · exact h.elim
end
end Go.Ab
