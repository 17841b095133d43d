import Derived.Test.YtdpdbokicanpoaaGreatDoorAbK
import Derived.Test.YtdpdbokicanpoaaGreatDoorAbGrow
set_option linter.unusedSimpArgs false
set_option linter.unusedVariables false
set_option maxHeartbeats 64000000
namespace Go.Ab
open Go Go.RowKit

section
variable {P:Program} {U U':gM} {w w':World} {Z:St} {G:Glob} {rn:Option Nat}

abbrev sV(F:(Prop→A→Prop)→Prop)(k:Prop→A→Prop):Prop:=∃p x,k p x∧∀k':Prop→A→Prop,k' p x→F k'

theorem y5{t:TypeId}{k:Prop→A→Prop}{a:A}(h:fa P Z t k a):sV (λ k=>fa P Z t k a) k:=by
 revert h;unfold fa;repeat' split
 all_goals first|exact False.elim|exactλ h=>⟨_,_,h,λ _ h=>h⟩
theorem tO{t o:Nat}{k:Prop→A→Prop}{a:A}(h:gy P t o k a):sV (λ k=>gy P t o k a) k:=by
 revert h;unfold gy;repeat' split
 all_goals first|exact False.elim|exactλ h=>⟨_,_,h,λ _ h=>h⟩
theorem oO{t f:Nat}{k:Prop→A→Prop}{a:A}(h:cK P Z t f k a):sV (λ k=>cK P Z t f k a) k:=by
 revert h;unfold cK;repeat' split
 all_goals first|exact False.elim|exactλ h=>⟨_,_,h,λ _ h=>h⟩
theorem C3{t f:Nat}{k:Prop→A→Prop}{a:A}(h:iK P t f k a):sV (λ k=>iK P t f k a) k:=by
 revert h;unfold iK;split
 ·exact tO
 ·exact False.elim
theorem vd{t:TypeId}{k:Prop→A→Prop}{a b:A}(h:cH P Z t k a b):sV (λ k=>cH P Z t k a b) k:=by
 revert h;unfold cH;repeat' split
 all_goals first|exact False.elim|exactλ h=>⟨_,_,h,λ _ h=>h⟩
theorem C2{t:TypeId}{k:Prop→A→Prop}{a b:A}(h:gf P t k a b):sV (λ k=>gf P t k a b) k:=by
 revert h;unfold gf;split
 ·exactλ h=>⟨_,_,h,λ _ h=>h⟩
 ·split
  ·intro h;obtain⟨p,x,h1,h2⟩:=tO h;exact⟨_,_,h1,λ k' hk=>h2 _ hk⟩
  ·exact False.elim
 ·split
  ·intro h;obtain⟨p,x,h1,h2⟩:=tO h;exact⟨_,_,h1,λ k' hk=>h2 _ hk⟩
  ·exact False.elim
 ·exact False.elim
theorem C5{op:BinOp}{k:Prop→A→Prop}{ik:IntKind}{a b:Int}(h:fc op k ik a b):sV (λ k=>fc op k ik a b) k:=by
 revert h;unfold fc;split
 all_goals first|exact False.elim|exactλ h=>⟨_,_,h,λ _ h=>h⟩
theorem par_str{op:BinOp}{k:Prop→A→Prop}{a b:List UInt8}(h:lT op k a b):sV (λ k=>lT op k a b) k:=by
 revert h;unfold lT;split
 all_goals first|exact False.elim|exactλ h=>⟨_,_,h,λ _ h=>h⟩
theorem B6{op:BinOp}{t:TypeId}{k:Prop→A→Prop}{a b:A}(h:dE P op t k a b):sV (λ k=>dE P op t k a b) k:=by
 revert h;unfold dE;split
 ·split
  ·exactλ h=>⟨_,_,h,λ _ h=>h⟩
  ·exactλ h=>⟨_,_,h,λ _ h=>h⟩
  ·split
   ·exact C5
   ·exact False.elim
 ·exact par_str
 all_goals
  repeat' split
  all_goals first|exact False.elim|exactλ h=>⟨_,_,h,λ _ h=>h⟩
theorem par_un{op:UnOp}{k:Prop→A→Prop}{a:A}(h:pi op k a):sV (λ k=>pi op k a) k:=by
 revert h;unfold pi;repeat' split
 all_goals first|exact False.elim|exactλ h=>⟨_,_,h,λ _ h=>h⟩
theorem y8{s t:TypeId}{k:Prop→A→Prop}{a:A}(h:ew P Z s t k a):sV (λ k=>ew P Z s t k a) k:=by
 revert h;unfold ew;repeat' split
 all_goals first|exact False.elim|exactλ h=>⟨_,_,h,λ _ h=>h⟩
theorem par_len{t:TypeId}{k:Prop→A→Prop}{a:A}(h:jH P Z t k a):sV (λ k=>jH P Z t k a) k:=by
 revert h;unfold jH;split
 all_goals first|exact False.elim|exactλ h=>⟨_,_,h,λ _ h=>h⟩
theorem yZ{k:Prop→A→Prop}{a b c:A}(h:gu k a b c):sV (λ k=>gu k a b c) k:=by
 revert h;unfold gu;split
 all_goals first|exact False.elim|exactλ h=>⟨_,_,h,λ _ h=>h⟩
theorem CZ{t:TypeId}{k:Prop→A→Prop}{x:A}{lo hi:Option A}(h:gd P Z t k x lo hi):sV (λ k=>gd P Z t k x lo hi) k:=by
 revert h;unfold gd;repeat' split
 all_goals first|exact False.elim|exactλ h=>⟨_,_,h,λ _ h=>h⟩
theorem y7{i:Nat}{k:Prop→A→Prop}{a:A}(h:f7 k i a):sV (λ k=>f7 k i a) k:=by
 revert h;unfold f7;split
 all_goals first|exact False.elim|exactλ h=>⟨_,_,h,λ _ h=>h⟩
theorem AY{t:TypeId}{ok:Bool}{k:Prop→A→Prop}{a:A}(h:iU P t ok k a):sV (λ k=>iU P t ok k a) k:=by
 revert h;unfold iU;split
 ·split
  ·exactλ h=>⟨_,_,h,λ _ h=>h⟩
  ·split
   ·exactλ h=>⟨_,_,h,λ _ h=>h⟩
   ·exact False.elim
 ·split
  ·exactλ h=>⟨_,_,h,λ _ h=>h⟩
  ·exact False.elim
 ·exact False.elim
theorem AX{t:TypeId}{ok:Bool}{k:Prop→A→Prop}{a b:A}(h:fz P Z t ok k a b):sV (λ k=>fz P Z t ok k a b) k:=by
 revert h;unfold fz;repeat' split
 all_goals first|exact False.elim|exactλ h=>⟨_,_,h,λ _ h=>h⟩
theorem par_nil{k:Prop→A→Prop}{a:A}(h:kf Z k a):sV (λ k=>kf Z k a) k:=by
 revert h;unfold kf;repeat' split
 all_goals first|exact False.elim|exactλ h=>⟨_,_,h,λ _ h=>h⟩
theorem C4{t:TypeId}{ps:List (Nat×A)}{k:Prop→A→Prop}(h:gh P Z t ps k):sV (λ k=>gh P Z t ps k) k:=by
 revert h;unfold gh;repeat' split
 all_goals first|exact False.elim|exactλ h=>⟨_,_,h,λ _ h=>h⟩
theorem rX{b:Builtin}{as:List A}{ts:List TypeId}{k:Prop→A→Prop}(h:f8 P Z b k as ts):sV (λ k=>f8 P Z b k as ts) k:=by
 revert h;unfold f8;split
 ·split
  ·exact par_len
  ·unfold B4
   split
   ·exactλ h=>⟨_,_,h,λ _ h=>h⟩
   ·exact False.elim
  ·exact False.elim
 ·unfold kg
  repeat' split
  all_goals first|exact False.elim|exactλ h=>⟨_,_,h,λ _ h=>h⟩
 ·exact False.elim
theorem AU{e:Operand→A}{op:Op}{k:Prop→A→Prop}(h:rd P Z e op k):sV (λ k=>rd P Z e op k) k:=by
 cases op with
 |move x=>exact⟨_,_,h,λ _ h=>h⟩
 |assign x=>exact⟨_,_,h,λ _ h=>h⟩
 |pick a b c=>exact yZ h
 |load t a=>exact y5 h
 |fieldAddr t a f=>exact oO h
 |field t a f=>exact C3 h
 |indexAddr t a b=>exact vd h
 |index t a b=>exact C2 h
 |binOp o t a b t'=>exact B6 h
 |unOp o t a=>exact par_un h
 |convert s t a=>exact y8 h
 |slice t x lo hi mx=>
  cases mx with
  |some m=>exact h.elim
  |none=>exact CZ h
 |extract a i=>exact y7 h
 |makeInterface t a=>exact⟨_,_,h,λ _ h=>h⟩
 |makeFunc f a b=>exact⟨_,_,h,λ _ h=>h⟩
 |typeAssert a t u b=>exact AY h
 |build t ps=>exact C4 h
 |lookup t a b ok=>exact AX h
 |nilCheck a=>exact par_nil h
 |call c=>
  obtain⟨callee,args,ts⟩:=c
  cases callee with
  |builtin b=>exact rX h
  |_=>exact h.elim
 |_=>exact h.elim
theorem par_cmp{o:BinOp}{t:TypeId}{k:Prop→A→Prop}{a b:A}(h:iT P o t k a b):sV (λ k=>iT P o t k a b) k:=by
 revert h;unfold iT;split
 ·exactλ h=>⟨_,_,h,λ _ h=>h⟩
 ·exact B6
theorem rdC_par{e:Operand→A}{op:Op}{k:Prop→A→Prop}(h:At P Z e op k):sV (λ k=>At P Z e op k) k:=by
 revert h;unfold At;split
 ·split
  ·intro h;obtain⟨p,x,h1,h2⟩:=rW h;exact⟨p,x,h1,λ k' hk=>h2 k' hk⟩
  ·exact par_cmp
 ·exact AU
theorem B1{e:Operand→A}{op:Op}{k:Prop→A→Prop}(h:kI P Z e op k):sV (λ k=>kI P Z e op k) k:=by
 revert h;unfold kI;split
 ·intro h;obtain⟨p,z,h1,h2⟩:=yZ h;exact⟨_,_,h1,λ k' hk=>h2 _ hk⟩
 ·intro h;obtain⟨p,z,h1,h2⟩:=rdC_par h;exact⟨_,_,h1,λ k' hk=>h2 _ hk⟩

def ij:Op→Bool
 | .binOp o _ _ y _=>(vf o y).isNone
 | .move _| .assign _| .pick .. | .load .. | .fieldAddr .. | .field .. | .indexAddr .. | .index .. | .unOp .. | .convert .. | .slice .. | .extract .. | .makeInterface .. | .makeFunc .. | .typeAssert .. | .build .. | .lookup .. | .nilCheck _=>true
 | .call c=>match c.callee with
  | .builtin .len=>true
  | .builtin .min=>true
  | .builtin .max=>true
  |_=>false
 |_=>false
def fN(P:Program)(G:Glob)(ops:Array Oper)(o:Oper)(k:A→St→Prop)(fr:Fr)(Z:St):Prop:=match o.guard with
 |none=>iq P G Z (ev G fr) o.op k
 |some (j,b)=>match fW ops fr j b with
  |some c=>qG P G Z (ev G fr) c o.op k
  |none=>False
def jZ(P:Program)(G:Glob)(ops:Array Oper)(o:Oper)(K:Fr→St→Prop)(fr:Fr)(Z:St):Prop:=fN P G ops o (λ x Z'=>K (kE fr o.dst x) Z') fr Z
theorem pL(ops:Array Oper)(o:Oper)(rest:List Oper)(K:Fr→St→Prop)(fr:Fr)(Z:St):gX P G ops (o::rest) K fr Z=jZ P G ops o (gX P G ops rest K) fr Z:=by
 simp only[gX,jZ,fN]
 cases o.guard with
 |none=>rfl
 |some q=>obtain⟨j,b⟩:=q;rfl

theorem ju{e:Operand→A}{op:Op}{k:A→St→Prop}(hr:ij op=true):iq P G Z e op k=rd P Z e op λ p a=>p∧k a Z:=by
 cases op with
 |call c=>
  obtain⟨callee,args,ts⟩:=c
  cases callee with
  |builtin b=>cases b<;> first|rfl|cases hr
  |_=>cases hr
 |binOp o t x y ty=>
  simp only[ij,Option.isNone_iff_eq_none]at hr
  simp only[iq,hr]
 |_=>first|rfl|cases hr
theorem kN{e:Operand→A}{op:Op}{c:Bool}{k:A→St→Prop}(hr:ij op=true):qG P G Z e c op k=kI P Z e op λ p a=>(c=true→p)∧k (.grd c a) Z:=by
 cases op with
 |call cl=>
  obtain⟨callee,args,ts⟩:=cl
  cases callee with
  |builtin b=>cases b<;> first|rfl|cases hr
  |_=>cases hr
 |_=>first|rfl|cases hr

def rM(P:Program)(G:Glob)(ops:Array Oper)(o:Oper)(Z:St)(fr:Fr)(x:A):Prop:=∀k:A→St→Prop,k x Z→fN P G ops o k fr Z
theorem kS{ops:Array Oper}{o:Oper}{k:A→St→Prop}{fr:Fr}(hr:ij o.op=true)(h:fN P G ops o k fr Z):∃x,rM P G ops o Z fr x∧k x Z:=by
 unfold rM
 revert h;unfold fN;split
 ·rw[ju hr]
  intro h
  obtain⟨p,x,⟨h1,h2⟩,h3⟩:=AU h
  exact⟨x,λ K' hK=>by rw[ju hr];exact h3 _ ⟨h1,hK⟩,h2⟩
 ·split
  ·rw[kN hr]
   intro h
   obtain⟨p,x,⟨h1,h2⟩,h3⟩:=B1 h
   exact⟨.grd _ x,λ K' hK=>by rw[kN hr];exact h3 _ ⟨h1,hK⟩,h2⟩
  ·exact False.elim

theorem qo{fr:Fr}{d t:Nat}{x:A}(h:d≠t):List.getD (fr.set d x) t .o=List.getD fr t .o:=by
 simp [List.getD,aD h]
theorem ev_put{fr:Fr}{dst:Option Tmp}{x:A}{y:Operand}(h:∀d,dst=some d→y≠.tmp d):ev G (kE fr dst x) y=ev G fr y:=by
 cases dst with
 |none=>rfl
 |some d=>
  cases y with
  |tmp t=>simp only[kE,ev];exact qo λ e=>h d rfl (e▸rfl)
  |_=>rfl
theorem tJ(fr:Fr){d e:Option Tmp}(x y:A)(h:∀t,d=some t→e≠some t):kE (kE fr d x) e y=kE (kE fr e y) d x:=by
 cases d with
 |none=>rfl
 |some d=>
  cases e with
  |none=>rfl
  |some e=>
   have:d≠e:=λ he=>h d rfl (he▸rfl)
   simp [kE,EC _ _ this]
theorem vJ{e e':Operand→A}{op:Op}{k:Prop→A→Prop}(h:∀x∈op.operands.toList,e x=e' x)(hh:kI P Z e op k):kI P Z e' op k:=by
 revert hh h;unfold kI;split
 ·rename_i x a b
  intro h
  rw[h x (by simp [Op.operands]),h a (by simp [Op.operands]),h b (by simp [Op.operands])];exact id
 ·intro h hh
  have e1:(op.operands.toList.all λ x=>(e x).cond)=(op.operands.toList.all λ x=>(e' x).cond):=by
   rw[dD,aZ,aZ]
   exact⟨λ hx x hm=>by rw[←h x hm];exact hx x hm,λ hx x hm=>by rw[h x hm];exact hx x hm⟩
  rw[←e1]
  exact vK (λ x hx=>by simp only[h x hx]) hh
theorem looks_op{ops:Array Oper}{o:Oper}{d:Option Tmp}(hd:∀t,d=some t→t∉o.looksAt ops):∀x∈o.op.operands.toList,∀t,d=some t→x≠.tmp t:=by
 rintro x hx t ht rfl
 refine hd t ht ?_
 simp only[Oper.looksAt,aW,List.mem_filterMap]
 exact .inl ⟨_,hx,rfl⟩
theorem Be{ops:Array Oper}{o:Oper}{fr:Fr}{j:Nat}{b:Bool}{d:Option Tmp}{y:A}(hg:o.guard=some (j,b))(hd:∀t,d=some t→t∉o.looksAt ops):fW ops (kE fr d y) j b=fW ops fr j b:=by
 unfold fW
 split
 ·rename_i t ht
  have:∀t',d=some t'→t'≠t:=by
   rintro t' h rfl
   refine hd t' h ?_
   simp only[Oper.looksAt,aW,hg,ht]
   exact .inr (by simp)
  have e:List.getD (kE fr d y) t .o=List.getD fr t .o:=by
   cases d with
   |none=>rfl
   |some t'=>exact qo (this t' rfl)
  rw[e]
 ·rfl
theorem wP{t:TypeId}{k k':Prop→A→St→Prop}(hk:∀p x s,k p x s→k' p x s)(h:jS P Z t k):jS P Z t k':=by
 revert h;unfold jS;repeat' split
 all_goals first|exact False.elim|exact hk _ _ _
theorem Ay{x:A}{k k':Prop→A→St→Prop}(hk:∀p x s,k p x s→k' p x s)(h:rP Z x k):rP Z x k':=hk _ _ _ h
theorem pS{t n:Nat}{ps:List (Nat×A)}{k k':Prop→A→St→Prop}(hk:∀p x s,k p x s→k' p x s)(h:eE P Z t n ps k):eE P Z t n ps k':=by
 revert h;unfold eE;repeat' split
 all_goals first|exact False.elim|exact hk _ _ _
theorem qH{t:TypeId}{a b:A}{k k':Prop→A→St→Prop}(hk:∀p x s,k p x s→k' p x s)(h:eW P Z t a b k):eW P Z t a b k':=by
 revert h;unfold eW;repeat' split
 all_goals first|exact False.elim|exact hk _ _ _
theorem wL{t:TypeId}{a b:A}{k k':Prop→A→St→Prop}(hk:∀p x s,k p x s→k' p x s)(h:je P Z t a b k):je P Z t a b k':=by
 revert h;unfold je;repeat' split
 all_goals first|exact False.elim|exact hk _ _ _
theorem uX{t u:TypeId}{a b:A}{k k':Prop→A→St→Prop}(hk:∀p x s,k p x s→k' p x s)(h:gR P Z t u a b k):gR P Z t u a b k':=by
 revert h;unfold gR;repeat' split
 all_goals first|exact False.elim|exact hk _ _ _
theorem lN{t:TypeId}{a b c:A}{k k':Prop→A→St→Prop}(hk:∀p x s,k p x s→k' p x s)(h:eV P Z t a b c k):eV P Z t a b c k':=by
 revert h;unfold eV;repeat' split
 all_goals first|exact False.elim|exact hk _ _ _
theorem uV{t:TypeId}{a b:A}{k k':Prop→A→St→Prop}(hk:∀p x s,k p x s→k' p x s)(h:jy P Z t a b k):jy P Z t a b k':=by
 revert h;unfold jy;repeat' split
 all_goals first|exact False.elim|exact hk _ _ _
theorem wO{t:TypeId}{a:A}{k k':Prop→A→St→Prop}(hk:∀p x s,k p x s→k' p x s)(h:kG P Z t a k):kG P Z t a k':=by
 revert h;unfold kG;repeat' split
 all_goals first|exact False.elim|exact hk _ _ _
theorem yc{t tx:TypeId}{a x:A}{k k':Prop→A→St→Prop}(hk:∀p x s,k p x s→k' p x s)(h:ko P Z t tx a x k):ko P Z t tx a x k':=by
 revert h;unfold ko;repeat' split
 all_goals first|exact False.elim|exact hk _ _ _
theorem Aw{q:Bool×Bool}{t:TypeId}{a:A}{k k':A→St→Prop}(hk:∀x s,k x s→k' x s)(h:mR P Z q t k a):mR P Z q t k' a:=by
 revert h;unfold mR;split
 ·exactλ h=>⟨h.1,hk _ _ h.2⟩
 ·exactλ h=>⟨h.1,hk _ _ h.2⟩
 ·exactλ h=>⟨h.1,hk _ _ h.2⟩
 ·exactλ h=>⟨h.1,λ b hb=>hk _ _ (h.2 b hb)⟩
 ·exactλ h=>⟨h.1,λ b hb=>hk _ _ (h.2 b hb)⟩
 ·exact False.elim
theorem uI{f:A}{as:List A}{k k':A→St→Prop}(hk:∀x s,k x s→k' x s)(h:jI P G Z f as k):jI P G Z f as k':=by
 revert h;unfold jI;split
 ·exactλ h=>h.mono hk
 ·exactλ h=>h.mono hk
 ·exact False.elim
theorem BB{r:A}{name:String}{as:List A}{k k':A→St→Prop}(hk:∀x s,k x s→k' x s)(h:qz P G Z r name as k):qz P G Z r name as k':=by
 revert h;unfold qz;split
 ·split
  ·exactλ h=>h.mono hk
  ·intro h
   obtain⟨p,x,⟨h1,h2⟩,h3⟩:=y5 h
   exact h3 _ ⟨h1,h2.mono hk⟩
  ·intro h
   obtain⟨p,x,⟨h1,h2⟩,h3⟩:=oO h
   exact h3 _ ⟨h1,h2.mono hk⟩
  ·exact False.elim
 ·exact False.elim
theorem rd_mono{e:Operand→A}{op:Op}{k k':Prop→A→Prop}(hk:∀p x,k p x→k' p x)(h:rd P Z e op k):rd P Z e op k':=by
 obtain⟨p,x,h1,h2⟩:=AU h;exact h2 _ (hk _ _ h1)
theorem tQ{e:Operand→A}{op:Op}{k k':A→St→Prop}(hk:∀x s,k x s→k' x s)(h:iq P G Z e op k):iq P G Z e op k':=by
 have hk3:∀p x s,(p∧k x s)→(p∧k' x s):=λ p x s h=>⟨h.1,hk _ _ h.2⟩
 have reads:ij op=true→iq P G Z e op k':=λ hr=>by
  rw[ju hr]at h ⊢
  exact rd_mono (λ p x h=>⟨h.1,hk _ _ h.2⟩) h
 cases op with
 |alloc t=>exact wP hk3 h
 |box t x=>exact Ay hk3 h
 |buildSlice t n ps=>exact pS hk3 h
 |makeSlice t l c=>exact qH hk3 h
 |store t a x=>exact wL hk3 h
 |makeMap t r=>
  cases r with
  |none=>exact hk3 _ _ _ h
  |some r=>exact h.elim
 |mapUpdate t m x v=>exact lN hk3 h
 |insert t m x v=>exact lN hk3 h
 |call c=>
  obtain⟨callee,args,ts⟩:=c
  cases callee with
  |value f=>exact uI hk h
  |builtin b=>
   cases b with
   |append=>
    revert h
    simp only[iq,jK]
    split
    ·unfold pT
     split
     ·unfold qI
      repeat' split
      all_goals first|exact hk3 _ _ _|exact False.elim
     ·exact uX hk3
    ·exact False.elim
   |delete=>
    revert h
    simp only[iq,jK]
    split
    ·exact uV hk3
    ·exact False.elim
   |clear=>
    revert h
    simp only[iq,jK]
    split
    ·exact wO hk3
    ·exact False.elim
   |copy=>
    revert h
    simp only[iq,jK]
    split
    ·exact yc hk3
    ·exact False.elim
   |len=>exact reads rfl
   |_=>
    simp only[iq,jK]at h ⊢
    obtain⟨p,x,h1,h2⟩:=rX h
    exact h2 _ ⟨h1.1,hk _ _ h1.2⟩
  |invoke r name=>exact BB hk h
 |panic x=>exact h
 |binOp o t x y ty=>
  cases hq:vf o y with
  |none=>exact reads (by simp only[ij,hq];rfl)
  |some q=>
   simp only[iq,hq]at h ⊢
   exact Aw hk h
 |_=>first|exact reads rfl|exact h.elim
theorem ga{e:Operand→A}{c:Bool}{op:Op}{k k':A→St→Prop}(hk:∀x s,k x s→k' x s)(h:uU P G Z e c op k):uU P G Z e c op k':=
 ⟨λ hc=>tQ hk (h.1 hc),λ hc=>hk _ _ (h.2 hc)⟩
theorem ze{e:Operand→A}{c:Bool}{op:Op}{k k':A→St→Prop}(hk:∀x s,k x s→k' x s)(h:qG P G Z e c op k):qG P G Z e c op k':=by
 have reads:kI P Z e op (λ p x=>(c=true→p)∧k (.grd c x) Z)→kI P Z e op λ p x=>(c=true→p)∧k' (.grd c x) Z:=λ h=>by
  obtain⟨p,x,h1,h2⟩:=B1 h
  exact h2 _ ⟨h1.1,hk _ _ h1.2⟩
 revert h
 unfold qG
 split
 ·split
  ·exactλ h=>h.imp (λ ⟨d,h1,h2⟩=>⟨d,h1,hk _ _ h2⟩) (ga hk)
  ·exact ga hk
  ·exact ga hk
  ·exact ga hk
  ·exact ga hk
  ·exactλ h=>h.imp (λ ⟨d,h1,h2⟩=>⟨d,h1,hk _ _ h2⟩) (ga hk)
  ·exact reads
 ·exact ga hk
 ·exact ga hk
 ·exact ga hk
 ·exact ga hk
 ·exact ga hk
 ·exact ga hk
 ·exact ga hk
 ·exact ga hk
 ·exact reads
theorem pa{ops:Array Oper}{o:Oper}{K K':Fr→St→Prop}{fr:Fr}(hk:∀fr s,K fr s→K' fr s)(h:jZ P G ops o K fr Z):jZ P G ops o K' fr Z:=by
 revert h;unfold jZ fN;split
 ·exact tQ λ x s=>hk _ _
 ·split
  ·exact ze λ x s=>hk _ _
  ·exact False.elim

theorem mG{e e':Operand→A}{op:Op}{k:A→St→Prop}(h:∀x∈op.operands.toList,e x=e' x)(hh:iq P G Z e op k):iq P G Z e' op k:=by
 have reads:ij op=true→iq P G Z e' op k:=λ hr=>by
  rw[ju hr]at hh ⊢;exact yO h hh
 cases op with
 |alloc t=>exact hh
 |box t x=>simp only[iq]at hh ⊢;rw[←h x (by simp [Op.operands])];exact hh
 |buildSlice t n ps=>
  simp only[iq]at hh ⊢
  have e1:(ps.toList.map λ p=>(p.1,e p.2))=ps.toList.map λ p=>(p.1,e' p.2):=dz λ p hp=>by
   rw[h p.2 (by simp only[Op.operands];exact aI.2 ⟨p,hp,rfl⟩)]
  rw[←e1];exact hh
 |makeSlice t l c=>simp only[iq]at hh ⊢;rw[←h l (by simp [Op.operands]),←h c (by simp [Op.operands])];exact hh
 |store t a x=>simp only[iq]at hh ⊢;rw[←h a (by simp [Op.operands]),←h x (by simp [Op.operands])];exact hh
 |makeMap t r=>
  cases r with
  |none=>exact hh
  |some r=>exact hh.elim
 |mapUpdate t m x v=>simp only[iq]at hh ⊢;rw[←h m (by simp [Op.operands]),←h x (by simp [Op.operands]),←h v (by simp [Op.operands])];exact hh
 |insert t m x v=>simp only[iq]at hh ⊢;rw[←h m (by simp [Op.operands]),←h x (by simp [Op.operands]),←h v (by simp [Op.operands])];exact hh
 |call c=>
  obtain⟨callee,args,ts⟩:=c
  have e1:args.toList.map e=args.toList.map e':=dz λ x hx=>h x (by simp only[Op.operands,Call.operands,dC,aW];exact .inr hx)
  cases callee with
  |value f=>
   simp only[iq]at hh ⊢
   rw[←e1,←h f (by simp [Op.operands,Call.operands])];exact hh
  |builtin b=>simp only[iq]at hh ⊢;rw[←e1];exact hh
  |invoke r name=>
   simp only[iq]at hh ⊢
   rw[←e1,←h r (by simp [Op.operands,Call.operands])];exact hh
 |panic x=>simp only[iq]at hh ⊢;rw[←h x (by simp [Op.operands])];exact hh
 |binOp o t x y ty=>
  cases hq:vf o y with
  |none=>exact reads (by simp only[ij,hq];rfl)
  |some q=>
   simp only[iq,hq]at hh ⊢
   rw[←h x (by simp [Op.operands])];exact hh
 |_=>first|exact reads rfl|exact hh.elim
theorem fu{e e':Operand→A}{c:Bool}{op:Op}{k:A→St→Prop}(h:∀x∈op.operands.toList,e x=e' x)(hh:uU P G Z e c op k):uU P G Z e' c op k:=
 ⟨λ hc=>mG (λ x hx=>by simp only[h x hx]) (hh.1 hc),hh.2⟩
theorem qW{e e':Operand→A}{c:Bool}{op:Op}{k:A→St→Prop}(h:∀x∈op.operands.toList,e x=e' x)(hh:qG P G Z e c op k):qG P G Z e' c op k:=by
 revert hh h;unfold qG;split
 ·rename_i cl
  split
  ·rename_i f hf
   intro h hh
   rcases hh with⟨d,h1,h2⟩|hh
   ·refine .inl ⟨d,λ hc=> ?_,h2⟩
    obtain⟨h1,h3⟩:=h1 hc
    have e1:(cl.args.toList.map λ x=>(e x).strip)=cl.args.toList.map λ x=>(e' x).strip:=dz λ x hx=>by rw[h x (by simp only[Op.operands,Call.operands,dC,aW];exact .inr hx)]
    refine⟨?_,?_⟩
    ·rw[aZ]at h1 ⊢
     exactλ x hx=>by rw[←h x hx];exact h1 x hx
    ·rw[←e1,←h f (by simp [Op.operands,Call.operands,hf])];exact h3
   ·exact .inr (fu h hh)
  ·exactλ h=>fu h
  ·exactλ h=>fu h
  ·exactλ h=>fu h
  ·exactλ h=>fu h
  ·rename_i r name hf
   intro h hh
   rcases hh with⟨d,h1,h2⟩|hh
   ·refine .inl ⟨d,λ hc=> ?_,h2⟩
    obtain⟨h1,h3⟩:=h1 hc
    have e1:(cl.args.toList.map λ x=>(e x).strip)=cl.args.toList.map λ x=>(e' x).strip:=dz λ x hx=>by rw[h x (by simp only[Op.operands,Call.operands,dC,aW];exact .inr hx)]
    refine⟨?_,?_⟩
    ·rw[aZ]at h1 ⊢
     exactλ x hx=>by rw[←h x hx];exact h1 x hx
    ·rw[←e1,←h r (by simp [Op.operands,Call.operands,hf])];exact h3
   ·exact .inr (fu h hh)
  ·exactλ h=>vJ h
 ·exactλ h=>fu h
 ·exactλ h=>fu h
 ·exactλ h=>fu h
 ·exactλ h=>fu h
 ·exactλ h=>fu h
 ·exactλ h=>fu h
 ·exactλ h=>fu h
 ·exactλ h=>fu h
 ·exactλ h=>vJ h
theorem jM{ops:Array Oper}{o:Oper}{d:Option Tmp}{y:A}{fr:Fr}{k:A→St→Prop}(hd:∀t,d=some t→t∉o.looksAt ops):
  fN P G ops o k (kE fr d y) Z↔fN P G ops o k fr Z:=by
 have he:=λ x hx=>ev_put (G:=G) (fr:=fr) (x:=y) (looks_op hd x hx)
 unfold fN
 cases hg:o.guard with
 |none=>exact⟨mG he,mG λ x hx=>(he x hx).symm⟩
 |some q=>
  obtain⟨j,b⟩:=q
  simp only[Be (fr:=fr) (y:=y) hg hd]
  cases fW ops fr j b with
  |none=>exact Iff.rfl
  |some c=>exact⟨qW he,qW λ x hx=>(he x hx).symm⟩
theorem oZ{ops:Array Oper}{o:Oper}{k k':A→St→Prop}{fr:Fr}(hk:∀x s,k x s→k' x s)(h:fN P G ops o k fr Z):fN P G ops o k' fr Z:=by
 revert h;unfold fN;split
 ·exact tQ hk
 ·split
  ·exact ze hk
  ·exact False.elim

def rh:Op→Bool
 | .binOp o _ _ y _=>(vf o y).isNone
 | .move _| .assign _| .pick .. | .field .. | .index .. | .unOp .. | .extract .. | .makeInterface .. | .makeFunc .. | .typeAssert .. =>true
 |_=>false
theorem r0{op:Op}(h:rh op=true):ij op=true:=by
 cases op<;> first|rfl|exact h|cases h
theorem yM{e:Operand→A}{op:Op}{k:Prop→A→Prop}(Z':St)(hl:rh op=true):rd P Z e op k=rd P Z' e op k:=by
 cases op<;> first|rfl|exact absurd hl (by decide)|cases hl
theorem yn{ops:Array Oper}{o:Oper}{k:A→Prop}{fr:Fr}(Z':St)(hl:rh o.op=true):fN P G ops o (λ x _=>k x) fr Z↔fN P G ops o (λ x _=>k x) fr Z':=by
 have hr:=r0 hl
 unfold fN
 cases o.guard with
 |none=>simp only;rw[ju hr,ju hr,yM Z' hl]
 |some q=>
  obtain⟨j,b⟩:=q
  simp only
  cases fW ops fr j b with
  |none=>exact Iff.rfl
  |some c=>
   simp only
   rw[kN hr,kN hr]
   unfold kI
   split
   ·rfl
   ·unfold At
    split
    ·rfl
    ·rw[yM Z' hl]
theorem rM.light{ops:Array Oper}{o:Oper}{fr:Fr}{x:A}(Z':St)(hl:rh o.op=true)(h:rM P G ops o Z fr x):rM P G ops o Z' fr x:=λ k hk=>by
 have h1:=h (λ y _=>k y Z') hk
 have h2:=(yn Z' hl).1 h1
 have hr:=r0 hl
 obtain⟨y,h3,h4⟩:=kS hr h2
 exact h3 _ h4

theorem yo{ops:Array Oper}{o:Oper}{k:A→Prop}{fr:Fr}{Z':St}(hl:jF Z Z')(hr:ij o.op=true)(h:fN P G ops o (λ x _=>k x) fr Z):fN P G ops o (λ x _=>k x) fr Z':=by
 revert h
 unfold fN
 cases o.guard with
 |none=>simp only;rw[ju hr,ju hr];exact yN hl λ p p' a hp h=>⟨hp h.1,h.2⟩
 |some q=>
  obtain⟨j,b⟩:=q
  simp only
  cases fW ops fr j b with
  |none=>exact id
  |some c=>
   simp only
   rw[kN hr,kN hr]
   exact CU hl λ p p' a hp h=>⟨λ hc=>hp (h.1 hc),h.2⟩
theorem rM.later{ops:Array Oper}{o:Oper}{fr:Fr}{x:A}{Z':St}(hl:jF Z Z')(hr:ij o.op=true)(h:rM P G ops o Z fr x):rM P G ops o Z' fr x:=λ k hk=>by
 have h1:=h (λ y _=>k y Z') hk
 have h2:=yo hl hr h1
 obtain⟨y,h3,h4⟩:=kS hr h2
 exact h3 _ h4
theorem opG_wr{e:Operand→A}{op:Op}{c:Bool}{k:A→St→Prop}(hg:zF op=true):qG P G Z e c op k=uU P G Z e c op k:=by
 cases op<;> first|rfl|cases hg
theorem AH{ops:Array Oper}{o:Oper}{k:A→St→Prop}{fr:Fr}(hg:zF o.op=true)(h:fN P G ops o k fr Z):fN P G ops o (λ x s=>(∃l,s=Z++l)∧k x s) fr Z:=by
 revert h
 unfold fN
 cases o.guard with
 |none=>exact zg hg
 |some q=>
  obtain⟨j,b⟩:=q
  simp only
  cases fW ops fr j b with
  |none=>exact id
  |some c=>
   simp only
   rw[opG_wr hg,opG_wr hg]
   exactλ h=>⟨λ hc=>zg hg (h.1 hc),λ hc=>⟨⟨[],by simp⟩,h.2 hc⟩⟩
def lg(P:Program)(G:Glob)(ops:Array Oper)(K:Fr→St→Prop):Nat→Array Bool→Fr→St→Prop
 |0,listed,fr,Z=>Region.ready .any ops listed=[]∧K fr Z
 |fuel+1,listed,fr,Z=>(Region.ready .any ops listed=[]→K fr Z)∧
  ∀i∈Region.ready .any ops listed,∃o,ops[i]? =some o∧jZ P G ops o (lg P G ops K fuel (listed.setIfInBounds i true)) fr Z

theorem ni {bf:Df} {ops:Array Oper} {o:Oper} {i:Nat} (hi:ops[i]? =some o) (hd:mT bf o.dst) {Q:Exit→Act→World→Prop} {K:Fr→St→Prop} {fr:Fr} {a:Act} {K':Act→World→Prop} (hI:Inv G U Z w) (hF:dl bf U w fr a) (h:jZ P G ops o K fr Z)
  (hP:PQ G U w a Q) (hK:∀fr' Z' U' a' w',Ext U w U' w'→Inv G U' Z' w'→dl bf U' w' fr' a'→K fr' Z'→K' a' w'):wpOpIn (RF rn) 0 P ops Q i K' a w:=by
 have fin:∀a' w',oH G U w a o.dst (λ x Z'=>K (kE fr o.dst x) Z') a' w'→K' a' w':=by
  rintro a' w' ⟨x,v,U',Z',rfl,hx,hI',hr,hk⟩
  exact hK _ _ _ _ _ hx hI' ((hF.ext hI hx).put o.dst hd hr) hk
 unfold wpOpIn
 simp only[hi]
 unfold jZ fN at h
 split at h
 ·rename_i hg
  rw[if_pos (by simp [Region.wanted,hg])]
  exact(vQ hI hF h hP fin)
 ·rename_i j b hg
  split at h
  ·rename_i c hc
   have:=vP (rn:=rn) (Q:=Q) (K:=K') hI hF (qk hF hg hc) h hP fin
   split at this
   ·rename_i hw;rw[if_pos hw];exact this
   ·rename_i hw;rw[if_neg hw];exact this
  ·exact h.elim
theorem nL{b:Df}{ops:Array Oper}(hd:∀o∈ops.toList,mT b o.dst){K:Fr→St→Prop}{Q:Exit→Act→World→Prop}:∀(fuel:Nat) (listed:Array Bool) {fr:Fr} {Z:St} {U:gM} {w:World} {a:Act},Inv G U Z w→dl b U w fr a→lg P G ops K fuel listed fr Z→
  (∀U' Z' a' w',Ext U w U' w'→Inv G U' Z' w'→xV b w' a'→PQ G U' w' a' Q)→
  (∀fr' Z' U' a' w',Ext U w U' w'→Inv G U' Z' w'→dl b U' w' fr' a'→K fr' Z'→Q .normal a' w')→wpAnyIn (RF rn) 0 P .any ops Q fuel listed a w
 |0,listed,fr,Z,U,w,a,hI,hF,h,_,hQ=>⟨h.1,hQ fr Z U a w (Ext.refl _ _) hI hF h.2⟩
 |fuel+1,listed,fr,Z,U,w,a,hI,hF,h,hP,hQ=>by
  refine⟨λ h0=>hQ fr Z U a w (Ext.refl _ _) hI hF (h.1 h0),λ i hi=> ?_⟩
  obtain⟨o,ho,hs⟩:=h.2 i hi
  refine ni ho (hd o (by rw[←bP]at ho;exact bh ho)) hI hF hs (hP _ _ _ _ (Ext.refl _ _) hI hF.1) λ fr' Z' U' a' w' h1 h2 h3 h4=> ?_
  exact nL hd fuel _ h2 h3 h4 (λ U'' Z'' a'' w'' k1 k2 k3=>hP _ _ _ _ (h1.trans k1) k2 k3) λ fr'' Z'' U'' a'' w'' k1 k2 k3 k4=>hQ _ _ _ _ _ (h1.trans k1) k2 k3 k4

structure Cert (ops:Array Oper) (i:Nat) (oi:Oper) (listed:Array Bool) (L:Nat→Bool):Prop where
 closed:∀j oj,ops[j]? =some oj→j≠i→(∀e∈oj.after,Region.binds .any e=true→L e.on=true)→L j=true
 calm:∀j oj,ops[j]? =some oj→j≠i→L j=true→listed.getD j true=false→oi.apart ops oj=true∧(ij oj.op=true∨rh oi.op=true∨zF oj.op=true)
def Sub(l:Array Bool)(L:Nat→Bool):Prop:=∀j:Nat,l.getD j false=true→L j=true
theorem Cert.before{ops:Array Oper}{i j:Nat}{oi:Oper}{l0 l:Array Bool}{L:Nat→Bool}(c:Cert ops i oi l0 L)(hs:Sub l L)(hj:j∈Region.ready .any ops l)(hji:j≠i):L j=true:=by
 obtain⟨-,o,ho,hall⟩:=mem_ready.1 hj
 exact c.closed j o ho hji λ e he hb=>hs _ (hall e he hb)

theorem Ao{ops:Array Oper}{K:Fr→St→Prop}{i:Nat}{oi:Oper}{x:A}{l0:Array Bool}{L:Nat→Bool}(hri:ij oi.op=true)(hi:ops[i]? =some oi)(c:Cert ops i oi l0 L):
  ∀(fuel:Nat) (listed:Array Bool) {fr:Fr} {Z:St},Sub listed L→(∀j:Nat,listed.getD j true=false→l0.getD j true=false)→i∈Region.ready .any ops listed→rM P G ops oi Z fr x→
   lg P G ops K fuel (listed.setIfInBounds i true) (kE fr oi.dst x) Z→lg P G ops K (fuel+1) listed fr Z:=by
 intro fuel
 induction fuel with
 |zero=>
  intro listed fr Z hs hl hr hy H
  refine⟨λ h=>(by rw[h]at hr;cases hr),λ j hj=> ?_⟩
  by_cases hji:j=i
  ·subst hji;exact⟨oi,hi,hy _ H⟩
  ·have:=ready_mono hj hji
   rw[H.1]at this
   cases this
 |succ fuel ih=>
  intro listed fr Z hs hl hr hy H
  refine⟨λ h=>(by rw[h]at hr;cases hr),λ j hj=> ?_⟩
  by_cases hji:j=i
  ·subst hji;exact⟨oi,hi,hy _ H⟩
  ·obtain⟨oj,hoj,h1⟩:=H.2 j (ready_mono hj hji)
   have hLj:=c.before hs hj hji
   obtain⟨hun,-⟩:=mem_ready.1 hj
   obtain⟨hap,hor⟩:=c.calm j oj hoj hji hLj (hl j hun)
   obtain⟨a1,a2,a3⟩:=Oper.apart_spec hap
   have next:∀y Z',rM P G ops oi Z' fr x→lg P G ops K fuel ((listed.setIfInBounds i true).setIfInBounds j true) (kE (kE fr oi.dst x) oj.dst y) Z'→lg P G ops K (fuel+1) (listed.setIfInBounds j true) (kE fr oj.dst y) Z':=λ y Z' hyi h2=>by
    refine ih (listed.setIfInBounds j true) ?_ (λ k hk=> ?_) (ready_mono hr (Ne.symm hji)) (λ k hk=>(jM a3).2 (hyi k hk)) ?_
    ·intro k hk
     by_cases hjk:j=k
     ·subst hjk;exact hLj
     ·rw[getD_set_ne false hjk]at hk;exact hs k hk
    ·refine hl k ?_
     by_cases hjk:j=k
     ·subst hjk;exact hun
     ·rw[getD_set_ne true hjk]at hk;exact hk
    ·rw[Array.setIfInBounds_comm _ _ hji,←tJ fr x y a2]
     exact h2
   refine⟨oj,hoj,?_⟩
   rcases hor with hrj|hli|hgj
   ·obtain⟨y,hyj,h2⟩:=kS hrj h1
    exact(jM a1).1 (hyj _ (next y Z hy h2))
   ·exact oZ (λ y Z' h2=>next y Z' (hy.light Z' hli) h2) ((jM a1).1 h1)
   ·refine oZ (λ y Z' h2=> ?_) (AH hgj ((jM a1).1 h1))
    obtain⟨⟨l,rfl⟩,h2⟩:=h2
    exact next y _ (hy.later (vY _ l) hri) h2

structure CertP (ops:Array Oper) (i:Nat) (oi:Oper) (listed:Array Bool) (L:Nat→Bool):Prop where
 closed:∀j oj,ops[j]? =some oj→j≠i→(∀e∈oj.after,Region.binds .any e=true→L e.on=true)→L j=true
 calm:∀j oj,ops[j]? =some oj→j≠i→L j=true→listed.getD j true=false→oi.apart ops oj=true
theorem BH{ops:Array Oper}{K:Fr→St→Prop}{i:Nat}{oi:Oper}{x:A}{l0:Array Bool}{L:Nat→Bool}(hi:ops[i]? =some oi)(c:CertP ops i oi l0 L):
  ∀(fuel:Nat) (listed:Array Bool) {fr:Fr} {Z:St},Sub listed L→(∀j:Nat,listed.getD j true=false→l0.getD j true=false)→i∈Region.ready .any ops listed→(∀Z',rM P G ops oi Z' fr x)→
   lg P G ops K fuel (listed.setIfInBounds i true) (kE fr oi.dst x) Z→lg P G ops K (fuel+1) listed fr Z:=by
 intro fuel
 induction fuel with
 |zero=>
  intro listed fr Z hs hl hr hy H
  refine⟨λ h=>(by rw[h]at hr;cases hr),λ j hj=> ?_⟩
  by_cases hji:j=i
  ·subst hji;exact⟨oi,hi,hy _ _ H⟩
  ·have:=ready_mono hj hji
   rw[H.1]at this
   cases this
 |succ fuel ih=>
  intro listed fr Z hs hl hr hy H
  refine⟨λ h=>(by rw[h]at hr;cases hr),λ j hj=> ?_⟩
  by_cases hji:j=i
  ·subst hji;exact⟨oi,hi,hy _ _ H⟩
  ·obtain⟨oj,hoj,h1⟩:=H.2 j (ready_mono hj hji)
   obtain⟨hun,o',ho',hall⟩:=mem_ready.1 hj
   have hLj:L j=true:=c.closed j o' ho' hji λ e he hb=>hs _ (hall e he hb)
   obtain⟨a1,a2,a3⟩:=Oper.apart_spec (c.calm j oj hoj hji hLj (hl j hun))
   refine⟨oj,hoj,oZ (λ y Z' h2=> ?_) ((jM a1).1 h1)⟩
   refine ih (listed.setIfInBounds j true) ?_ (λ k hk=> ?_) (ready_mono hr (Ne.symm hji)) (λ Z'' k hk=>(jM a3).2 (hy Z'' k hk)) ?_
   ·intro k hk
    by_cases hjk:j=k
    ·subst hjk;exact hLj
    ·rw[getD_set_ne false hjk]at hk;exact hs k hk
   ·refine hl k ?_
    by_cases hjk:j=k
    ·subst hjk;exact hun
    ·rw[getD_set_ne true hjk]at hk;exact hk
   ·rw[Array.setIfInBounds_comm _ _ hji,←tJ fr x y a2]
    exact h2
def yq(P:Program)(G:Glob)(ops:Array Oper)(o:Oper)(K:A→Prop)(fr:Fr):Prop:=match o.op with
 | .call c=>match c.callee with
  | .value f=>match o.guard with
   |none=>∃x,(∀Z',jI P G Z' (ev G fr f) (c.args.toList.map (ev G fr)) λ r s=>r=x∧s=Z')∧K x
   |some (j,b)=>match fW ops fr j b with
    |some g=>∃d,(g=true→((Op.call c).operands.toList.all λ x=>(ev G fr x).cond)=true∧∀Z',jI P G Z' (ev G fr f).strip (c.args.toList.map λ x=>(ev G fr x).strip) λ r s=>r= .d d∧s=Z')∧K (.grd g (.d d))
    |none=>False
  |_=>False
 |_=>False
theorem yp{ops:Array Oper}{o:Oper}{K:A→Prop}{fr:Fr}(h:yq P G ops o K fr):∃x,(∀Z',rM P G ops o Z' fr x)∧K x:=by
 unfold yq at h
 split at h
 ·rename_i c ho
  split at h
  ·rename_i f hf
   split at h
   ·rename_i hg
    obtain⟨x,h1,h2⟩:=h
    refine⟨x,λ Z' k hk=> ?_,h2⟩
    unfold fN
    simp only[hg,ho,iq,hf]
    exact uI (λ r s hrs=>by rw[hrs.1,hrs.2];exact hk) (h1 Z')
   ·rename_i j b hg
    split at h
    ·rename_i g hgb
     obtain⟨d,h1,h2⟩:=h
     refine⟨_,λ Z' k hk=> ?_,h2⟩
     unfold fN
     simp only[hg,hgb]
     unfold qG
     rw[ho]
     simp only[hf]
     exact .inl ⟨d,λ hc=>⟨(h1 hc).1,(h1 hc).2 Z'⟩,hk⟩
    ·exact h.elim
  ·exact h.elim
 ·exact h.elim

structure Inf where
 edges:Nat
 looks:Nat
 dst:Nat
 reads:Bool
 light:Bool
 grow:Bool
def mE:List Nat→Nat
 |[]=>0
 |t::r=>(1 <<< t) ||| mE r
def ir(ops:Array Oper)(o:Oper):Inf:=⟨mE ((o.after.toList.filter (Region.binds .any)).map (·.on)),mE (o.looksAt ops),mE o.dst.toList,ij o.op,rh o.op,zF o.op⟩
theorem fI:∀(l:List Nat) (j:Nat),(mE l).testBit j=decide (j∈l)
 |[],j=>by simp [mE]
 |t::r,j=>by
  rw[mE,fP,fI r j,eS,eo]
  by_cases h:t=j
  ·subst h;simp
  ·simp [h,Ne.symm h]
def jL(a b:Nat):Bool:=a &&& b==a
theorem iJ{a b:Nat}(h:jL a b=true)(j:Nat)(hj:a.testBit j=true):b.testBit j=true:=by
 unfold jL at h
 have:(a &&& b).testBit j=a.testBit j:=by rw[cg.1 h]
 rw[Nat.testBit_and,hj,ca]at this
 exact this
theorem nV{a b:Nat}(h:∀j,a.testBit j=true→b.testBit j=true):jL a b=true:=by
 unfold jL
 rw[cg]
 apply Nat.eq_of_testBit_eq
 intro j
 rw[Nat.testBit_and]
 cases ha:a.testBit j with
 |false=>rfl
 |true=>rw[h j ha];rfl
def lJ(x y:Inf):Bool:=(x.dst &&& y.looks==0)&&(x.dst &&& y.dst==0)&&(y.dst &&& x.looks==0)
theorem nN{a b:Nat}(h:(a &&& b==0)=true)(j:Nat)(hj:a.testBit j=true):b.testBit j=false:=by
 have:(a &&& b).testBit j=false:=by rw[cg.1 h];simp
 rw[Nat.testBit_and,hj,ca]at this
 exact this
theorem nM{ops:Array Oper}{x y:Oper}(h:lJ (ir ops x) (ir ops y)=true):x.apart ops y=true:=by
 simp only[lJ,ir,aB]at h
 obtain⟨⟨h1,h2⟩,h3⟩:=h
 unfold Oper.apart
 rw[aB]
 constructor
 ·cases hx:x.dst with
  |none=>rfl
  |some d=>
   rw[hx]at h1 h2
   have hb:(mE (some d).toList).testBit d=true:=by rw[fI];simp
   have e1:=nN h1 d hb
   have e2:=nN h2 d hb
   rw[fI,ay]at e1 e2
   simp only[aB,bQ,bne_iff_ne,ne_eq]
   refine⟨by simpa using e1,λ hy=>e2 (by rw[hy];simp)⟩
 ·cases hy:y.dst with
  |none=>rfl
  |some d=>
   rw[hy]at h3
   have hb:(mE (some d).toList).testBit d=true:=by rw[fI];simp
   have e1:=nN h3 d hb
   rw[fI,ay]at e1
   simpa using e1
def lw(i:Nat):List Inf→Nat→Nat→Nat
 |[],_,L=>L
 |x::r,j,L=>lw i r (j+1) (bif !(j==i)&&jL x.edges L then L ||| (1 <<< j)else L)
theorem qU(i:Nat):∀(l:List Inf) (j L k:Nat),L.testBit k=true→(lw i l j L).testBit k=true
 |[],_,_,_,h=>h
 |x::r,j,L,k,h=>by
  refine qU i r (j+1) _ k ?_
  cases !(j==i)&&jL x.edges L with
  |false=>exact h
  |true=>rw[cond_true,fP,h,gQ]
def Af(i:Nat)(xi:Inf)(listed L:Nat):List Inf→Nat→Bool
 |[],_=>true
 |x::r,j=>(j==i||(bif L.testBit j then listed.testBit j||lJ xi x&&(x.reads||(xi.light||x.grow))else !jL x.edges L))&&Af i xi listed L r (j+1)
theorem pG{i:Nat}{xi:Inf}{listed L:Nat}:∀{l:List Inf} {j:Nat},Af i xi listed L l j=true→∀(k:Nat) (x:Inf),l[k]? =some x→j+k≠i→
  (L.testBit (j+k)=true→listed.testBit (j+k)=true∨lJ xi x=true∧(x.reads=true∨xi.light=true∨x.grow=true))∧(L.testBit (j+k)=false→jL x.edges L=false)
 |[],_,_,k,x,hk,_=>by simp at hk
 |y::r,j,h,k,x,hk,hne=>by
  simp only[Af,aB,cd,cg]at h
  match k with
  |0=>
   simp only[cA,Option.some.injEq]at hk
   subst hk
   rcases h.1 with h1|h1
   ·exact absurd h1 hne
   ·refine⟨λ hL=> ?_,λ hL=> ?_⟩
    ·rw[dY]at hL ⊢
     rw[hL,cond_true]at h1
     simpa [cd,aB]using h1
    ·rw[dY]at hL
     rw[hL,cond_false]at h1
     simpa using h1
  |k+1=>
   have:=pG h.2 k x (by simpa using hk) (by omega)
   rwa [show j+1+k=j+(k+1)by omega]at this
def Ae(i:Nat)(xi:Inf)(listed L:Nat):List Inf→Nat→Bool
 |[],_=>true
 |x::r,j=>(j==i||(bif L.testBit j then listed.testBit j||lJ xi x else !jL x.edges L))&&Ae i xi listed L r (j+1)
theorem pF{i:Nat}{xi:Inf}{listed L:Nat}:∀{l:List Inf} {j:Nat},Ae i xi listed L l j=true→∀(k:Nat) (x:Inf),l[k]? =some x→j+k≠i→
  (L.testBit (j+k)=true→listed.testBit (j+k)=true∨lJ xi x=true)∧(L.testBit (j+k)=false→jL x.edges L=false)
 |[],_,_,k,x,hk,_=>by simp at hk
 |y::r,j,h,k,x,hk,hne=>by
  simp only[Ae,aB,cd,cg]at h
  match k with
  |0=>
   simp only[cA,Option.some.injEq]at hk
   subst hk
   rcases h.1 with h1|h1
   ·exact absurd h1 hne
   ·refine⟨λ hL=> ?_,λ hL=> ?_⟩
    ·rw[dY]at hL ⊢
     rw[hL,cond_true]at h1
     simpa [cd]using h1
    ·rw[dY]at hL
     rw[hL,cond_false]at h1
     simpa using h1
  |k+1=>
   have:=pF h.2 k x (by simpa using hk) (by omega)
   rwa [show j+1+k=j+(k+1)by omega]at this
def lm(ops:Array Oper)(listed:Array Bool)(m:Nat):Prop:=listed.size=ops.size∧∀j,listed.getD j false=m.testBit j
theorem lm.un{ops:Array Oper}{listed:Array Bool}{m j:Nat}{o:Oper}(h:lm ops listed m)(hj:ops[j]? =some o):listed.getD j true=m.testBit j:=by
 have hlt:=(cL.1 hj).1
 rw[←h.2 j]
 rw[←h.1]at hlt
 rw[fG,fG,Array.getElem?_eq_getElem hlt]
 rfl
theorem lm.next{ops:Array Oper}{listed:Array Bool}{m i:Nat}{o:Oper}(h:lm ops listed m)(hi:ops[i]? =some o):lm ops (listed.setIfInBounds i true) (m ||| (1 <<< i)):=by
 refine⟨by simp [h.1],λ j=> ?_⟩
 have hlt:=(cL.1 hi).1
 rw[←h.1]at hlt
 rw[fP,eS,eo,←h.2 j]
 by_cases hij:i=j
 ·subst hij;simp [hlt]
 ·rw[getD_set_ne false hij];simp [hij]
def eg(ops:Array Oper):List Inf:=ops.toList.map (ir ops)
theorem gE{ops:Array Oper}{j:Nat}{o:Oper}(h:ops[j]? =some o):(eg ops)[j]? =some (ir ops o):=by
 simp only[eg,aN,bP,h,bJ]
theorem rq{ops:Array Oper}{o:Oper}{L:Nat}:jL (ir ops o).edges L=true↔∀e∈o.after,Region.binds .any e=true→L.testBit e.on=true:=by
 constructor
 ·intro h e he hb
  refine iJ h e.on ?_
  simp only[ir,fI,av,aI,eZ]
  exact⟨e,⟨by simpa using he,hb⟩,rfl⟩
 ·intro h
  refine nV λ j hj=> ?_
  simp only[ir,fI,av,aI,eZ]at hj
  obtain⟨e,⟨he,hb⟩,rfl⟩:=hj
  exact h e (by simpa using he) hb
theorem lm.ready{ops:Array Oper}{listed:Array Bool}{m i:Nat}{o:Oper}(h:lm ops listed m)(hi:ops[i]? =some o):i∈Region.ready .any ops listed↔(!m.testBit i&&jL (ir ops o).edges m)=true:=by
 rw[mem_ready,aB,bQ,rq,h.un hi]
 constructor
 ·rintro⟨h1,o',ho,h2⟩
  rw[hi]at ho;injection ho with ho;subst ho
  exact⟨h1,λ e he hb=>by rw[←h.2];exact h2 e he hb⟩
 ·rintro⟨h1,h2⟩
  exact⟨h1,o,hi,λ e he hb=>by rw[h.2];exact h2 e he hb⟩
def lK(is:List Nat)(m:Nat):List Inf→Nat→Bool
 |[],_=>true
 |x::r,j=>(is.contains j||m.testBit j|| !jL x.edges m)&&lK is m r (j+1)
theorem nO{is:List Nat}{m:Nat}:∀{l:List Inf} {j:Nat},lK is m l j=true→∀(k:Nat) (x:Inf),l[k]? =some x→(!m.testBit (j+k)&&jL x.edges m)=true→j+k∈is
 |[],_,_,k,x,hk,_=>by simp at hk
 |y::r,j,h,k,x,hk,hr=>by
  simp only[lK,aB,cd,dv,bQ]at h
  match k with
  |0=>
   simp only[cA,Option.some.injEq]at hk
   subst hk
   rw[dY]at hr ⊢
   rw[aB,bQ]at hr
   rcases h.1 with(h1|h1)|h1
   ·exact h1
   ·rw[hr.1]at h1;cases h1
   ·rw[hr.2]at h1;cases h1
  |k+1=>
   have:=nO h.2 k x (by simpa using hk) (by rwa [show j+1+k=j+(k+1)by omega])
   rwa [show j+1+k=j+(k+1)by omega]at this
theorem lm.alone{ops:Array Oper}{listed:Array Bool}{m:Nat}{is:List Nat}(h:lm ops listed m)(ha:lK is m (eg ops) 0=true):∀j∈Region.ready .any ops listed,j∈is:=λ j hj=>by
 obtain⟨-,o,ho,-⟩:=mem_ready.1 hj
 have:=nO ha j _ (gE ho) (by rw[ci];exact(h.ready ho).1 hj)
 rwa [ci]at this

structure Sp where
 i:Nat
 dst:Tmp
 x:Nat→A
 ob:Ob
def Sp.ok(P:Program)(G:Glob)(ops:Array Oper)(fr:Fr)(q:Sp):Prop:=∃o,ops[q.i]? =some o∧o.dst=some q.dst∧∀(Z:St) (k:A→St→Prop),k (q.x Z.length) (Z++[some q.ob])→fN P G ops o k fr Z
def kT(ids:Nat→Nat)(fr:Fr)(q:Sp):Fr:=kE fr (some q.dst) (q.x (ids q.i))
structure Made (ids:Nat→Nat) (sp:List Sp) (Z Z':St):Prop where
 len:Z'.length=Z.length+sp.length
 old:∀k,k<Z.length→Z'[k]? =Z[k]?
 new:∀q∈sp,Z.length≤ids q.i∧Z'[ids q.i]? =some (some q.ob)
 inj:∀q∈sp,∀r∈sp,ids q.i=ids r.i→q.i=r.i
def kW(is:List Nat)(m:Nat):Nat:=is.foldl (λ m i=>m ||| (1 <<< i)) m
theorem mF:∀(is:List Nat) (m j:Nat),(kW is m).testBit j=(m.testBit j||decide (j∈is))
 |[],m,j=>by simp [kW]
 |i::is,m,j=>by
  have:=mF is (m ||| (1 <<< i)) j
  simp only[kW,cc]at this ⊢
  rw[this,fP,eS,eo]
  by_cases h:i=j
  ·subst h;simp
  ·simp [h,Ne.symm h,Bool.or_assoc]
def fX(is:List Inf)(i:Nat):Inf:=is.getD i ⟨0,0,0,false,false,false⟩
def xQ(is:List Inf):List Nat→Bool
 |[]=>true
 |i::r=>(r.all λ j=> !(i==j)&&lJ (fX is i) (fX is j)&&lJ (fX is j) (fX is i))&&xQ is r
theorem sf{is:List Inf}:∀{l:List Nat},xQ is l=true→l.Nodup∧∀i∈l,∀j∈l,i≠j→lJ (fX is i) (fX is j)=true
 |[],_=>⟨List.nodup_nil,λ i hi=>by cases hi⟩
 |a::r,h=>by
  simp only[xQ,aB,aZ,bQ,ck]at h
  obtain⟨h1,h2⟩:=h
  obtain⟨k1,k2⟩:=sf h2
  refine⟨cR.2 ⟨λ ha=>(h1 a ha).1.1 rfl,k1⟩,λ i hi j hj hij=> ?_⟩
  rcases aV.1 hi with e|hi'
  ·subst e
   rcases aV.1 hj with e|hj'
   ·exact absurd e.symm hij
   ·exact(h1 j hj').1.2
  ·rcases aV.1 hj with e|hj'
   ·subst e
    exact(h1 i hi').2
   ·exact k2 i hi' j hj' hij
def allM(is:List Inf)(l:List Nat)(m:Nat):Bool:=
 (l.all λ i=>decide (i<is.length)&& !m.testBit i&&jL (fX is i).edges m&&lK [i] (kW l m ^^^ (1 <<< i)) is 0)&&xQ is l

inductive Plan where
 |done
 |all (is:List Nat) (p:Plan)
 |take (i:Nat) (p:Plan)
 |pure (i:Nat) (p:Plan)
 |alt (i:Nat) (p q:Plan)
 |stop
def Plan.heads:Plan→List Nat
 | .alt i _ q=>i::q.heads
 |_=>[]
def Plan.depth:Plan→Nat
 | .all is p=>is.length+p.depth
 | .take _ p=>p.depth+1
 | .pure _ p=>p.depth+1
 | .alt _ p q=>max (p.depth+1) q.depth
 |_=>0
def takeM(is:List Inf)(i m:Nat):Bool:=match is[i]? with
 |none=>false
 |some x=> !m.testBit i&&jL x.edges m&&(bif x.reads then Af i x m (lw i is 0 m) is 0 else lK [i] m is 0)
def pureM(is:List Inf)(i m:Nat):Bool:=match is[i]? with
 |none=>false
 |some x=> !m.testBit i&&jL x.edges m&&Ae i x m (lw i is 0 m) is 0
def Plan.check(is:List Inf):Plan→Bool→Nat→Bool
 | .done,b,m=> !b&&lK [] m is 0
 | .all l p,b,m=> !b&&allM is l m&&p.check is false (kW l m)
 | .take i p,b,m=> !b&&takeM is i m&&p.check is false (m ||| (1 <<< i))
 | .pure i p,b,m=> !b&&pureM is i m&&p.check is false (m ||| (1 <<< i))
 | .alt i p q,b,m=>(b||(match is[i]? with|some x=> !m.testBit i&&jL x.edges m|none=>false)&&lK (i::q.heads) m is 0)&&p.check is false (m ||| (1 <<< i))&&q.check is true m
 | .stop,b,_=>b
def dP(P:Program)(G:Glob)(ops:Array Oper)(K:Fr→St→Prop):Plan→Fr→St→Prop
 | .done,fr,Z=>K fr Z
 | .all l p,fr,Z=>∃sp:List Sp,sp.map Sp.i=l∧(∀q∈sp,q.ok P G ops fr)∧∀(ids:Nat→Nat) (Z':St),Made ids sp Z Z'→dP P G ops K p (sp.foldl (kT ids) fr) Z'
 | .take i p,fr,Z=>match ops[i]? with
  |some o=>jZ P G ops o (dP P G ops K p) fr Z
  |none=>False
 | .pure i p,fr,Z=>match ops[i]? with
  |some o=>yq P G ops o (λ x=>dP P G ops K p (kE fr o.dst x) Z) fr
  |none=>False
 | .alt i p q,fr,Z=>(match ops[i]? with
  |some o=>jZ P G ops o (dP P G ops K p) fr Z
  |none=>False)∧dP P G ops K q fr Z
 | .stop,_,_=>True

theorem cert_of{ops:Array Oper}{i:Nat}{oi:Oper}{listed:Array Bool}{m:Nat}(ht:lm ops listed m)(h:Af i (ir ops oi) m (lw i (eg ops) 0 m) (eg ops) 0=true):
  Cert ops i oi listed λ j=>(lw i (eg ops) 0 m).testBit j:=by
 refine⟨λ j oj hj hji hall=> ?_,λ j oj hj hji hL hl=> ?_⟩
 ·have:=pG h j _ (gE hj) (by omega)
  rw[ci]at this
  cases hb:(lw i (eg ops) 0 m).testBit j with
  |true=>rfl
  |false=>
   have h1:=this.2 hb
   rw[rq.2 hall]at h1
   cases h1
 ·have:=pG h j _ (gE hj) (by omega)
  rw[ci]at this
  rcases this.1 hL with h1|h1
  ·rw[ht.un hj,h1]at hl;cases hl
  ·exact⟨nM h1.1,h1.2⟩
theorem certP_of{ops:Array Oper}{i:Nat}{oi:Oper}{listed:Array Bool}{m:Nat}(ht:lm ops listed m)(h:Ae i (ir ops oi) m (lw i (eg ops) 0 m) (eg ops) 0=true):
  CertP ops i oi listed λ j=>(lw i (eg ops) 0 m).testBit j:=by
 refine⟨λ j oj hj hji hall=> ?_,λ j oj hj hji hL hl=> ?_⟩
 ·have:=pF h j _ (gE hj) (by omega)
  rw[ci]at this
  cases hb:(lw i (eg ops) 0 m).testBit j with
  |true=>rfl
  |false=>
   have h1:=this.2 hb
   rw[rq.2 hall]at h1
   cases h1
 ·have:=pF h j _ (gE hj) (by omega)
  rw[ci]at this
  rcases this.1 hL with h1|h1
  ·rw[ht.un hj,h1]at hl;cases hl
  ·exact nM h1
theorem wG {ops:Array Oper} {K C:Fr→St→Prop} {Mf d:Nat} (is:List Nat) (hal:∀i∈is,lK [i] (Mf ^^^ (1 <<< i)) (eg ops) 0=true) (hapt:∀i∈is,∀j∈is,i≠j→lJ (fX (eg ops) i) (fX (eg ops) j)=true)
  (hend:∀(fuel:Nat) (listed:Array Bool) (fr:Fr) (Z:St),d≤fuel→lm ops listed Mf→C fr Z→lg P G ops K fuel listed fr Z):
  ∀(n:Nat) (sp:List Sp),sp.length=n→(sp.map Sp.i).Nodup→(∀q∈sp,q.i∈is)→∀(fuel m:Nat) (listed:Array Bool) {fr:Fr} {Z:St},n+d≤fuel→lm ops listed m→(∀j,Mf.testBit j=(m.testBit j||decide (j∈sp.map Sp.i)))→(∀q∈sp,m.testBit q.i=false∧jL (fX (eg ops) q.i).edges m=true)→
   (∀q∈sp,q.ok P G ops fr)→(∀(ids:Nat→Nat) (Z':St),Made ids sp Z Z'→C (sp.foldl (kT ids) fr) Z')→lg P G ops K fuel listed fr Z
 |0,sp,hn,hnd,hsub,fuel,m,listed,fr,Z,hf,ht,hM,hr,hok,H=>by
  obtain rfl:=bz hn
  have hm:Mf=m:=Nat.eq_of_testBit_eq λ j=>by rw[hM];simp
  subst hm
  exact hend fuel listed fr Z (by omega) ht (H (λ _=>0) Z ⟨rfl,λ _ _=>rfl,λ q hq=>(by cases hq),λ q hq=>(by cases hq)⟩)
 |n+1,sp,hn,hnd,hsub,fuel,m,listed,fr,Z,hf,ht,hM,hr,hok,H=>by
  obtain⟨f,rfl⟩:∃f,fuel=f+1:=⟨fuel - 1,by omega⟩
  have hinf:∀q∈sp,∀o,ops[q.i]? =some o→fX (eg ops) q.i=ir ops o:=λ q hq o ho=>by
   unfold fX
   rw[au,gE ho];rfl
  obtain⟨q0,hq0⟩:∃q0,q0∈sp:=by
   cases sp with
   |nil=>simp at hn
   |cons q _=>exact⟨q,cy⟩
  have hrd:∀q∈sp,q.i∈Region.ready .any ops listed:=λ q hq=>by
   obtain⟨o,ho,-⟩:=hok q hq
   rw[ht.ready ho,←hinf q hq o ho,(hr q hq).1,(hr q hq).2];rfl
  refine⟨λ h0=>(by have:=hrd q0 hq0;rw[h0]at this;cases this),λ j hj=> ?_⟩
  obtain⟨-,oj,hoj,-⟩:=mem_ready.1 hj
  have hrj:=(ht.ready hoj).1 hj
  rw[aB,bQ]at hrj
  have hjs:j∈sp.map Sp.i:=by
   by_cases hMj:Mf.testBit j=true
   ·rw[hM,hrj.1,fj,av]at hMj;exact hMj
   ·exfalso
    have hMj:Mf.testBit j=false:=by simpa using hMj
    have hne:j≠q0.i:=λ e=>by
     rw[hM,e,dU (aI.2 ⟨q0,hq0,rfl⟩)]at hMj;simp at hMj
    have hxb:∀b,(Mf ^^^ (1 <<< q0.i)).testBit b=(Mf.testBit b ^^ decide (q0.i=b)):=λ b=>by rw[Nat.testBit_xor,eS,eo]
    have hb:=nO (hal q0.i (hsub q0 hq0)) j _ (gE hoj) (by
     rw[ci,aB,bQ,hxb,hMj,decide_eq_false (Ne.symm hne)]
     refine⟨rfl,nV λ b hb=> ?_⟩
     have hmb:=iJ hrj.2 b hb
     rw[hxb,hM,hmb,gQ]
     have:q0.i≠b:=λ e=>by rw[←e,(hr q0 hq0).1]at hmb;cases hmb
     rw[decide_eq_false this];rfl)
    rw[ci]at hb
    exact hne (by simpa using hb)
  obtain⟨q,hq,rfl⟩:=aI.1 hjs
  obtain⟨o,ho,hdst,hst⟩:=hok q hq
  obtain⟨s,t,rfl⟩:=List.append_of_mem hq
  have hnd':((s++t).map Sp.i).Nodup∧q.i∉(s++t).map Sp.i:=by
   simp only[aJ,aM]at hnd ⊢
   have:=(List.perm_middle (a:=q.i) (l₁:=s.map Sp.i) (l₂:=t.map Sp.i)).nodup_iff.1 hnd
   rw[cR]at this
   exact⟨this.2,this.1⟩
  have hmem:∀r∈s++t,r∈s++q::t:=λ r hr=>by
   rcases aW.1 hr with h|h
   ·exact cV _ h
   ·exact dS _ (bR _ h)
  have hne:∀r∈s++t,r.i≠q.i:=λ r hr e=>hnd'.2 (by rw[←e];exact aI.2 ⟨r,hr,rfl⟩)
  have hap:∀r∈s++q::t,∀u∈s++q::t,r.i≠u.i→∀o o',ops[r.i]? =some o→ops[u.i]? =some o'→o.apart ops o'=true:=λ r hr u hu hru o o' h1 h2=>by
   have:=hapt _ (hsub r hr) _ (hsub u hu) hru
   rw[hinf r hr o h1,hinf u hu o' h2]at this
   exact nM this
  refine⟨o,ho,?_⟩
  unfold jZ
  refine hst Z _ ?_
  rw[hdst]
  have ht':=ht.next ho
  have hb1:∀j,(m ||| (1 <<< q.i)).testBit j=(m.testBit j||decide (q.i=j)):=λ j=>by rw[fP,eS,eo]
  refine wG is hal hapt hend n (s++t) (by simp at hn ⊢;omega) hnd'.1 (λ r hr=>hsub r (hmem r hr)) f _ _ (by omega) ht' (λ j=> ?_) (λ r hr'=> ?_) (λ r hr'=> ?_) λ ids Z' hm=> ?_
  ·rw[hM,hb1,Bool.or_assoc]
   congr 1
   rw[dD]
   simp only[av,cd,aJ,aM,aW,aV]
   constructor
   ·rintro(h|h|h)
    ·exact .inr (.inl h)
    ·exact .inl h.symm
    ·exact .inr (.inr h)
   ·rintro(h|h|h)
    ·exact .inr (.inl h.symm)
    ·exact .inl h
    ·exact .inr (.inr h)
  ·have h1:=hr r (hmem r hr')
   refine⟨by rw[hb1,h1.1,decide_eq_false (λ e=>hne r hr' e.symm)];rfl,nV λ b hb=> ?_⟩
   rw[hb1,iJ h1.2 b hb];rfl
  ·obtain⟨o',ho',hd',hst'⟩:=hok r (hmem r hr')
   refine⟨o',ho',hd',λ Z k hk=> ?_⟩
   obtain⟨a1,-,-⟩:=Oper.apart_spec (hap q hq r (hmem r hr') (λ e=>hne r hr' e.symm) o o' ho ho')
   exact(jM (by rw[←hdst];exact a1)).2 (hst' Z k hk)
  ·let ids':Nat→Nat:=λ j=>if j=q.i then Z.length else ids j
   have e1:∀r∈s++t,ids' r.i=ids r.i:=λ r hr=>if_neg (hne r hr)
   have e2:ids' q.i=Z.length:=if_pos rfl
   have hlen:=hm.len
   rw[aF,List.length_singleton]at hlen
   have hcase:∀r∈s++q::t,r=q∨r∈s++t:=λ r hr=>by
    rcases aW.1 hr with h|h
    ·exact .inr (cV _ h)
    ·rcases aV.1 h with h|h
     ·exact .inl h
     ·exact .inr (dS _ h)
   have hmade:Made ids' (s++q::t) Z Z':=by
    refine⟨by rw[hlen];simp;omega,λ k hk=> ?_,λ r hr=> ?_,λ r hr u hu hru=> ?_⟩
    ·rw[hm.old k (by simp;omega),aq hk]
    ·rcases hcase r hr with rfl|h
     ·refine⟨by rw[e2];exact aE _,?_⟩
      rw[e2,hm.old _ (by simp),az (aE _),Et];rfl
     ·have:=hm.new r h
      rw[e1 r h]
      rw[aF]at this
      exact⟨by omega,this.2⟩
    ·rcases hcase r hr with rfl|h<;> rcases hcase u hu with rfl|h'
     ·rfl
     ·have:=(hm.new u h').1
      rw[e2,e1 u h']at hru
      simp at this;omega
     ·have:=(hm.new r h).1
      rw[e2,e1 r h]at hru
      simp at this;omega
     ·rw[e1 r h,e1 u h']at hru
      exact hm.inj r h u h' hru
   have:=H ids' Z' hmade
   have hperm:(s++q::t).foldl (kT ids') fr=(q::(s++t)).foldl (kT ids') fr:=by
    refine List.Perm.foldl_eq' List.perm_middle (λ r hr u hu z=> ?_) fr
    by_cases hru:r.i=u.i
    ·have:r=u:=by
      rcases hcase r hr with h|h<;> rcases hcase u hu with h'|h'
      ·rw[h,h']
      ·exact absurd (by rw[←hru,h]) (hne u h')
      ·exact absurd (by rw[hru,h']) (hne r h)
      ·have hp:=List.pairwise_map.1 hnd'.1
       obtain⟨i,hi,rfl⟩:=dm.1 h
       obtain⟨j,hj,rfl⟩:=dm.1 h'
       rw[dO]at hp
       rcases go i j with hij|hij|hij
       ·exact absurd hru (hp i j hi hj hij)
       ·subst hij;rfl
       ·exact absurd hru.symm (hp j i hj hi hij)
     rw[this]
    ·unfold kT
     refine tJ _ _ _ λ t ht e=> ?_
     obtain⟨o1,ho1,hd1,-⟩:=hok r hr
     obtain⟨o2,ho2,hd2,-⟩:=hok u hu
     obtain⟨-,a2,-⟩:=Oper.apart_spec (hap r hr u hu hru o1 o2 ho1 ho2)
     rw[hd1,hd2]at a2
     exact a2 t ht e
   rw[hperm,cc]at this
   have e3:(s++t).foldl (kT ids') (kT ids' fr q)=(s++t).foldl (kT ids) (kE fr (some q.dst) (q.x Z.length)):=by
    have h0:kT ids' fr q=kE fr (some q.dst) (q.x Z.length):=by unfold kT;rw[e2]
    rw[h0]
    have:∀(l:List Sp) (g:Fr),(∀r∈l,ids' r.i=ids r.i)→l.foldl (kT ids') g=l.foldl (kT ids) g:=by
     intro l
     induction l with
     |nil=>intro g _;rfl
     |cons r l ih=>
      intro g h
      rw[cc,cc]
      have:kT ids' g r=kT ids g r:=by unfold kT;rw[h r cy]
      rw[this]
      exact ih _ λ u hu=>h u (bR _ hu)
    exact this _ _ e1
   rw[e3]at this
   exact this
theorem ji{ops:Array Oper}{K:Fr→St→Prop}:∀(p:Plan) (fuel m:Nat) (listed:Array Bool) {fr:Fr} {Z:St},p.depth≤fuel→lm ops listed m→
  (p.check (eg ops) false m=true→dP P G ops K p fr Z→lg P G ops K fuel listed fr Z)∧
  (p.check (eg ops) true m=true→dP P G ops K p fr Z→∀i∈p.heads,∃f,fuel=f+1∧∃o,ops[i]? =some o∧jZ P G ops o (lg P G ops K f (listed.setIfInBounds i true)) fr Z)
 | .done,fuel,m,listed,fr,Z,_,ht=>⟨λ hc h=>by
   simp only[Plan.check,eC,ca]at hc
   have hr:Region.ready .any ops listed=[]:=List.eq_nil_iff_forall_not_mem.2 λ j hj=>by simpa using ht.alone hc j hj
   cases fuel with
   |zero=>exact⟨hr,h⟩
   |succ f=>exact⟨λ _=>h,λ i hi=>by rw[hr]at hi;cases hi⟩,λ hc=>by simp [Plan.check]at hc⟩
 | .stop,fuel,m,listed,fr,Z,_,_=>⟨λ hc=>by simp [Plan.check]at hc,λ _ _ i hi=>by simp [Plan.heads]at hi⟩
 | .all l p,fuel,m,listed,fr,Z,hd,ht=>by
  simp only[Plan.depth]at hd
  refine⟨λ hc h=> ?_,λ hc=>by simp [Plan.check]at hc⟩
  simp only[Plan.check,eC,ca,aB]at hc
  obtain⟨hall,hc⟩:=hc
  simp only[allM,aB,aZ,bQ,av]at hall
  obtain⟨h1,h2⟩:=hall
  obtain⟨hnd,hapt⟩:=sf h2
  simp only[dP]at h
  obtain⟨sp,rfl,hok,H⟩:=h
  exact wG (Mf:=kW (sp.map Sp.i) m) (d:=p.depth) (sp.map Sp.i) (λ i hi=>(h1 i hi).2) hapt (λ fuel listed fr Z hf ht' hC=>(ji p fuel _ listed hf ht').1 hc hC) sp.length sp rfl hnd (λ q hq=>aI.2 ⟨q,hq,rfl⟩) fuel m listed (by simpa using hd) ht (λ j=>mF _ _ _) (λ q hq=>by
   have:=h1 q.i (aI.2 ⟨q,hq,rfl⟩)
   exact⟨this.1.1.2,this.1.2⟩) hok H
 | .take i p,fuel,m,listed,fr,Z,hd,ht=>by
  simp only[Plan.depth]at hd
  obtain⟨f,rfl⟩:∃f,fuel=f+1:=⟨fuel - 1,by omega⟩
  refine⟨λ hc h=> ?_,λ hc=>by simp [Plan.check]at hc⟩
  simp only[Plan.check,eC,ca,aB]at hc
  obtain⟨htk,hc⟩:=hc
  simp only[dP]at h
  split at h
  ·rename_i o ho
   have next:∀{fr Z},dP P G ops K p fr Z→lg P G ops K f (listed.setIfInBounds i true) fr Z:=λ h=>(ji p f _ _ (by omega) (ht.next ho)).1 hc h
   unfold takeM at htk
   rw[gE ho]at htk
   simp only at htk
   rw[aB,←ht.ready ho]at htk
   obtain⟨hr,htk⟩:=htk
   have hre:(ir ops o).reads=ij o.op:=rfl
   rw[hre]at htk
   cases hrd:ij o.op with
   |true=>
    rw[hrd,cond_true]at htk
    obtain⟨x,h1,h2⟩:=kS hrd h
    exact Ao hrd ho (cert_of ht htk) f listed (λ j hj=>qU i _ 0 m j (by rw[←ht.2];exact hj)) (λ j h=>h) hr h1 (next h2)
   |false=>
    rw[hrd,cond_false]at htk
    refine⟨λ h0=>(by rw[h0]at hr;cases hr),λ j hj=> ?_⟩
    have:=ht.alone htk j hj
    obtain rfl:j=i:=by simpa using this
    exact⟨o,ho,pa (λ fr s h=>next h) h⟩
  ·exact h.elim
 | .pure i p,fuel,m,listed,fr,Z,hd,ht=>by
  simp only[Plan.depth]at hd
  obtain⟨f,rfl⟩:∃f,fuel=f+1:=⟨fuel - 1,by omega⟩
  refine⟨λ hc h=> ?_,λ hc=>by simp [Plan.check]at hc⟩
  simp only[Plan.check,eC,ca,aB]at hc
  obtain⟨htk,hc⟩:=hc
  simp only[dP]at h
  split at h
  ·rename_i o ho
   have next:∀{fr Z},dP P G ops K p fr Z→lg P G ops K f (listed.setIfInBounds i true) fr Z:=λ h=>(ji p f _ _ (by omega) (ht.next ho)).1 hc h
   unfold pureM at htk
   rw[gE ho]at htk
   simp only at htk
   rw[aB,←ht.ready ho]at htk
   obtain⟨hr,htk⟩:=htk
   obtain⟨x,h1,h2⟩:=yp h
   exact BH ho (certP_of ht htk) f listed (λ j hj=>qU i _ 0 m j (by rw[←ht.2];exact hj)) (λ j h=>h) hr h1 (next h2)
  ·exact h.elim
 | .alt i p q,fuel,m,listed,fr,Z,hd,ht=>by
  simp only[Plan.depth]at hd
  have main:∀b,(Plan.alt i p q).check (eg ops) b m=true→dP P G ops K (.alt i p q) fr Z→∀j∈(Plan.alt i p q).heads,∃f,fuel=f+1∧∃o,ops[j]? =some o∧jZ P G ops o (lg P G ops K f (listed.setIfInBounds j true)) fr Z:=λ b hc h j hj=>by
   obtain⟨f,rfl⟩:∃f,fuel=f+1:=⟨fuel - 1,by omega⟩
   simp only[Plan.check,aB]at hc
   simp only[dP]at h
   rcases aV.1 hj with rfl|hj
   ·refine⟨f,rfl,?_⟩
    have h1:=h.1
    split at h1
    ·rename_i o ho
     exact⟨o,ho,pa (λ fr s h=>(ji p f _ _ (by omega) (ht.next ho)).1 hc.1.2 h) h1⟩
    ·exact h1.elim
   ·exact(ji q (f+1) m listed (by omega) ht).2 hc.2 h.2 j hj
  refine⟨λ hc h=> ?_,main true⟩
  have hm:=main false hc h
  obtain⟨f,rfl,o,ho,-⟩:=hm i (by simp [Plan.heads])
  simp only[Plan.check,fj,aB]at hc
  obtain⟨⟨⟨hne,hall⟩,hc1⟩,-⟩:=hc
  rw[gE ho]at hne
  simp only at hne
  rw[←ht.ready ho]at hne
  refine⟨λ h0=>(by rw[h0]at hne;cases hne),λ j hj=> ?_⟩
  obtain⟨f',e,h'⟩:=hm j (ht.alone hall j hj)
  obtain rfl:f'=f:=by omega
  exact h'
theorem te(ops:Array Oper):lm ops (Array.replicate ops.size false) 0:=by
 refine⟨by simp,λ j=> ?_⟩
 simp only[Nat.zero_testBit,fG,Array.getElem?_replicate]
 split<;> rfl

def Plan.text:Nat→Nat→Plan
 |0,_=> .done
 |n+1,k=> .take k (Plan.text n (k+1))
theorem tf:∀n k,(Plan.text n k).depth=n
 |0,_=>rfl
 |n+1,k=>by simp only[Plan.text,Plan.depth,tf n]
theorem vu{ops:Array Oper}{K:Fr→St→Prop}:∀(l:List Oper) (k:Nat) (_:∀j:Nat,l[j]? =ops[k+j]?) {fr:Fr} {Z:St},gX P G ops l K fr Z→dP P G ops K (Plan.text l.length k) fr Z
 |[],_,_,_,_,h=>h
 |o::l,k,hl,fr,Z,h=>by
  have h0:ops[k]? =some o:=by simpa using (hl 0).symm
  simp only[ae,Plan.text,dP,h0]
  rw[pL]at h
  exact pa (λ fr s h=>vu l (k+1) (λ j=>by have:=hl (j+1);simpa [cf,Nat.add_comm 1 j]using this) h) h
def textM(is:List Inf):Bool:=(Plan.text is.length 0).check is false 0
def textB(ops:Array Oper):Bool:=textM (eg ops)
def dX:Code→Bool
 | .region _ ops true=>textB ops
 | .seq a b=>dX a&&dX b
 | .cond _ a b=>dX a&&dX b
 | .block _ c=>dX c
 | .loop c=>dX c
 | .scope c=>dX c
 | .rangeFunc _ _ a b=>dX a&&dX b
 |_=>true
theorem Bp {b:Df} (hm:P.follows .mixedOrders=true) {id:Nat} {ops:Array Oper} (ho:∀o∈ops.toList,mT b o.dst) (p:Plan) (hd:p.depth≤ops.size) (hc:p.check (eg ops) false 0=true) {K:Fr→St→Prop} {Q:Exit→Act→World→Prop} {fr:Fr} {a:Act}
  (hI:Inv G U Z w) (hF:dl b U w fr a) (h:dP P G ops K p fr Z) (hP:∀U' Z' a' w',Ext U w U' w'→Inv G U' Z' w'→xV b w' a'→PQ G U' w' a' Q) (hQ:∀fr' Z' U' a' w',Ext U w U' w'→Inv G U' Z' w'→dl b U' w' fr' a'→K fr' Z'→Q .normal a' w'):(Code.region id ops true).wpIn (RF rn) 0 P Q a w:=by
 have hd':=Ext.drew U w
 exact wpIn_region_any hm (nL ho (w:=w.drew) ops.size _ (hI.ext_same hd' rfl) (hF.ext hI hd') ((ji p ops.size 0 _ hd (te ops)).1 hc h) (λ U' Z' a' w' h1 h2 h3=>hP _ _ _ _ (hd'.trans h1) h2 h3) λ fr' Z' U' a' w' h1 h2 h3 h4=>hQ _ _ _ _ _ (hd'.trans h1) h2 h3 h4)
end
end Go.Ab
