import Derived.Test.YtdpdbokicanpoaaGreatDoorAbK
import Derived.Test.YtdpdbokicanpoaaGreatDoorAbWp
set_option linter.unusedSimpArgs false
set_option linter.unusedVariables false
set_option maxHeartbeats 64000000
namespace Go.Ab
open Go Go.RowKit

inductive Ex where
 |normal
 |exit (id:Nat)
 |ret
abbrev wJ:=Ex→Fr→St→Prop

section
variable {P:Program} {U U':gM} {w w':World} {Z:St} {G:Glob} {rn:Option Nat}

theorem yO{e e':Operand→A}{op:Op}{k:Prop→A→Prop}(h:∀x∈op.operands.toList,e x=e' x)(hr:rd P Z e op k):rd P Z e' op k:=by
 cases op with
 |move x=>simp only[rd]at hr ⊢;rw[←h x (by simp [Op.operands])];exact hr
 |assign x=>simp only[rd]at hr ⊢;rw[←h x (by simp [Op.operands])];exact hr
 |pick a b c=>simp only[rd]at hr ⊢;rw[←h a (by simp [Op.operands]),←h b (by simp [Op.operands]),←h c (by simp [Op.operands])];exact hr
 |load t a=>simp only[rd]at hr ⊢;rw[←h a (by simp [Op.operands])];exact hr
 |fieldAddr t a f=>simp only[rd]at hr ⊢;rw[←h a (by simp [Op.operands])];exact hr
 |field t a f=>simp only[rd]at hr ⊢;rw[←h a (by simp [Op.operands])];exact hr
 |indexAddr t a b=>simp only[rd]at hr ⊢;rw[←h a (by simp [Op.operands]),←h b (by simp [Op.operands])];exact hr
 |index t a b=>simp only[rd]at hr ⊢;rw[←h a (by simp [Op.operands]),←h b (by simp [Op.operands])];exact hr
 |binOp o t a b t'=>simp only[rd]at hr ⊢;rw[←h a (by simp [Op.operands]),←h b (by simp [Op.operands])];exact hr
 |unOp o t a=>simp only[rd]at hr ⊢;rw[←h a (by simp [Op.operands])];exact hr
 |convert s t a=>simp only[rd]at hr ⊢;rw[←h a (by simp [Op.operands])];exact hr
 |slice t x lo hi mx=>
  cases mx with
  |some m=>exact hr.elim
  |none=>
   simp only[rd]at hr ⊢
   have e1:lo.map e=lo.map e':=by
    cases lo with
    |none=>rfl
    |some o=>simp only[bJ];rw[h o (by simp [Op.operands])]
   have e2:hi.map e=hi.map e':=by
    cases hi with
    |none=>rfl
    |some o=>simp only[bJ];rw[h o (by simp [Op.operands])]
   rw[←h x (by simp [Op.operands]),←e1,←e2];exact hr
 |extract a i=>simp only[rd]at hr ⊢;rw[←h a (by simp [Op.operands])];exact hr
 |makeInterface t a=>simp only[rd]at hr ⊢;rw[←h a (by simp [Op.operands])];exact hr
 |makeFunc f a b=>
  simp only[rd]at hr ⊢
  have e1:a.toList.map e=a.toList.map e':=dz λ x hx=>h x (by simp only[Op.operands,dC,aW];exact .inl hx)
  have e2:b.toList.map e=b.toList.map e':=dz λ x hx=>h x (by simp only[Op.operands,dC,aW];exact .inr hx)
  rw[←e1,←e2];exact hr
 |typeAssert a t u b=>simp only[rd]at hr ⊢;rw[←h a (by simp [Op.operands])];exact hr
 |lookup t a b ok=>simp only[rd]at hr ⊢;rw[←h a (by simp [Op.operands]),←h b (by simp [Op.operands])];exact hr
 |nilCheck a=>simp only[rd]at hr ⊢;rw[←h a (by simp [Op.operands])];exact hr
 |build t ps=>
  simp only[rd]at hr ⊢
  have e1:(ps.toList.map λ p=>(p.1,e p.2))=ps.toList.map λ p=>(p.1,e' p.2):=dz λ p hp=>by
   rw[h p.2 (by simp only[Op.operands];exact aI.2 ⟨p,hp,rfl⟩)]
  rw[←e1];exact hr
 |call c=>
  simp only[rd]at hr ⊢
  split at hr
  ·have e1:c.args.toList.map e=c.args.toList.map e':=dz λ x hx=>h x (by simp only[Op.operands,Call.operands,dC,aW];exact .inr hx)
   rw[←e1];exact hr
  ·exact hr.elim
 |_=>exact hr.elim

theorem CC{t:TypeId}{k:Prop→A→Prop}{a:A}(h:fa P Z t k a):∃p x,k p x:=by
 unfold fa at h;repeat' split at h
 all_goals first|exact h.elim|exact⟨_,_,h⟩
theorem qQ{t o:Nat}{k:Prop→A→Prop}{a:A}(h:gy P t o k a):∃p x,k p x:=by
 unfold gy at h;repeat' split at h
 all_goals first|exact h.elim|exact⟨_,_,h⟩
theorem tq{t f:Nat}{k:Prop→A→Prop}{a:A}(h:cK P Z t f k a):∃p x,k p x:=by
 unfold cK at h;repeat' split at h
 all_goals first|exact h.elim|exact⟨_,_,h⟩
theorem AL{t f:Nat}{k:Prop→A→Prop}{a:A}(h:iK P t f k a):∃p x,k p x:=by
 unfold iK at h;split at h
 ·exact qQ h
 ·exact h.elim
theorem tn{t:TypeId}{k:Prop→A→Prop}{a b:A}(h:cH P Z t k a b):∃p x,k p x:=by
 unfold cH at h;repeat' split at h
 all_goals first|exact h.elim|exact⟨_,_,h⟩
theorem AK{t:TypeId}{k:Prop→A→Prop}{a b:A}(h:gf P t k a b):∃p x,k p x:=by
 unfold gf at h;split at h
 ·exact⟨_,_,h⟩
 ·split at h
  ·obtain⟨p,x,h⟩:=qQ h;exact⟨_,_,h⟩
  ·exact h.elim
 ·split at h
  ·obtain⟨p,x,h⟩:=qQ h;exact⟨_,_,h⟩
  ·exact h.elim
 ·exact h.elim
theorem AO{op:BinOp}{k:Prop→A→Prop}{ik:IntKind}{a b:Int}(h:fc op k ik a b):∃p x,k p x:=by
 unfold fc at h;split at h
 all_goals first|exact h.elim|exact⟨_,_,h⟩
theorem some_str{op:BinOp}{k:Prop→A→Prop}{a b:List UInt8}(h:lT op k a b):∃p x,k p x:=by
 unfold lT at h;split at h
 all_goals first|exact h.elim|exact⟨_,_,h⟩
theorem yv{op:BinOp}{t:TypeId}{k:Prop→A→Prop}{a b:A}(h:dE P op t k a b):∃p x,k p x:=by
 unfold dE at h
 split at h
 ·split at h
  ·exact⟨_,_,h⟩
  ·exact⟨_,_,h⟩
  ·split at h
   ·exact AO h
   ·exact h.elim
 ·exact some_str h
 all_goals
  repeat' split at h
  all_goals first|exact h.elim|exact⟨_,_,h⟩
theorem some_un{op:UnOp}{k:Prop→A→Prop}{a:A}(h:pi op k a):∃p x,k p x:=by
 unfold pi at h;repeat' split at h
 all_goals first|exact h.elim|exact⟨_,_,h⟩
theorem w6{s t:TypeId}{k:Prop→A→Prop}{a:A}(h:ew P Z s t k a):∃p x,k p x:=by
 unfold ew at h;repeat' split at h
 all_goals first|exact h.elim|exact⟨_,_,h⟩
theorem some_len{t:TypeId}{k:Prop→A→Prop}{a:A}(h:jH P Z t k a):∃p x,k p x:=by
 unfold jH at h;split at h
 all_goals first|exact h.elim|exact⟨_,_,h⟩
theorem qP{k:Prop→A→Prop}{a b c:A}(h:gu k a b c):∃p x,k p x:=by
 unfold gu at h;split at h
 all_goals first|exact h.elim|exact⟨_,_,h⟩
theorem AJ{t:TypeId}{k:Prop→A→Prop}{x:A}{lo hi:Option A}(h:gd P Z t k x lo hi):∃p x,k p x:=by
 unfold gd at h;repeat' split at h
 all_goals first|exact h.elim|exact⟨_,_,h⟩
theorem w5{i:Nat}{k:Prop→A→Prop}{a:A}(h:f7 k i a):∃p x,k p x:=by
 unfold f7 at h;split at h
 all_goals first|exact h.elim|exact⟨_,_,h⟩
theorem yw{t:TypeId}{ok:Bool}{k:Prop→A→Prop}{a:A}(h:iU P t ok k a):∃p x,k p x:=by
 unfold iU at h
 split at h
 ·split at h
  ·exact⟨_,_,h⟩
  ·split at h
   ·exact⟨_,_,h⟩
   ·exact h.elim
 ·split at h
  ·exact⟨_,_,h⟩
  ·exact h.elim
 ·exact h.elim
theorem yu{t:TypeId}{ok:Bool}{k:Prop→A→Prop}{a b:A}(h:fz P Z t ok k a b):∃p x,k p x:=by
 unfold fz at h;repeat' split at h
 all_goals first|exact h.elim|exact⟨_,_,h⟩
theorem some_nil{k:Prop→A→Prop}{a:A}(h:kf Z k a):∃p x,k p x:=by
 unfold kf at h;repeat' split at h
 all_goals first|exact h.elim|exact⟨_,_,h⟩
theorem AM{t:TypeId}{ps:List (Nat×A)}{k:Prop→A→Prop}(h:gh P Z t ps k):∃p x,k p x:=by
 unfold gh at h;repeat' split at h
 all_goals first|exact h.elim|exact⟨_,_,h⟩
theorem w7{b:Builtin}{as:List A}{ts:List TypeId}{k:Prop→A→Prop}(h:f8 P Z b k as ts):∃p x,k p x:=by
 unfold f8 at h
 split at h
 ·split at h
  ·exact some_len h
  ·unfold B4 at h
   split at h
   ·exact⟨_,_,h⟩
   ·exact h.elim
  ·exact h.elim
 ·unfold kg at h
  repeat' split at h
  all_goals first|exact h.elim|exact⟨_,_,h⟩
 ·exact h.elim
theorem rd_some{e:Operand→A}{op:Op}{k:Prop→A→Prop}(h:rd P Z e op k):∃p x,k p x:=by
 cases op with
 |move x=>exact⟨_,_,h⟩
 |assign x=>exact⟨_,_,h⟩
 |pick a b c=>exact qP h
 |load t a=>exact CC h
 |fieldAddr t a f=>exact tq h
 |field t a f=>exact AL h
 |indexAddr t a b=>exact tn h
 |index t a b=>exact AK h
 |binOp o t a b t'=>exact yv h
 |unOp o t a=>exact some_un h
 |convert s t a=>exact w6 h
 |slice t x lo hi mx=>
  cases mx with
  |some m=>exact h.elim
  |none=>exact AJ h
 |extract a i=>exact w5 h
 |makeInterface t a=>exact⟨_,_,h⟩
 |makeFunc f a b=>exact⟨_,_,h⟩
 |typeAssert a t u b=>exact yw h
 |build t ps=>exact AM h
 |lookup t a b ok=>exact yu h
 |nilCheck a=>exact some_nil h
 |call c=>
  simp only[rd]at h
  split at h
  ·exact w7 h
  ·exact h.elim
 |_=>exact h.elim

theorem some_cmp{o:BinOp}{t:TypeId}{k:Prop→A→Prop}{a b:A}(h:iT P o t k a b):∃p x,k p x:=by
 unfold iT at h
 split at h
 ·exact⟨_,_,h⟩
 ·exact yv h
theorem yS{e:Operand→A}{op:Op}{k:Prop→A→Prop}(h:At P Z e op k):∃p x,k p x:=by
 unfold At at h
 split at h
 ·split at h
  ·obtain⟨p,x,h,_⟩:=rW h;exact⟨p,x,h⟩
  ·exact some_cmp h
 ·exact rd_some h
theorem vK{e e':Operand→A}{op:Op}{k:Prop→A→Prop}(h:∀x∈op.operands.toList,e x=e' x)(hr:At P Z e op k):At P Z e' op k:=by
 unfold At at hr ⊢
 split at hr
 ·rename_i o t a b t'
  rw[←h a (by simp [Op.operands]),←h b (by simp [Op.operands])];exact hr
 ·exact yO h hr
theorem CV{o:Oper}{e:Operand→A}{ve:Operand→Value}{k:Prop→A→Prop}(hI:Inv G U Z w)(hev:∀x,RepA U w (e x) (ve x))(h:At P Z e o.op k):BJ P U w (execOp ve o) k:=by
 unfold At at h
 split at h
 ·rename_i b t x y t' ho
  by_cases hn:Dc y=true
  ·rw[if_pos hn]at h
   have:=(xh x hn hI (hev x) (hev y) h).next
   rw[show execOp ve o=(do pure (.value (←(do eqGuard b t x y (ve x) (ve y);binOp b t (ve x) (ve y):Sem Value))))by simp only[execOp,ho]]
   exact this
  rw[if_neg hn]at h
  have old:∀k:Prop→A→Prop,dE P b t k (e x) (e y)→BJ P U w (execOp ve o) k:=λ k hk=>tF hI hev (by rw[ho];exact hk)
  unfold iT at h
  split at h
  ·rename_i a c _ ha hb
   refine⟨_,_,h,λ q=> ?_⟩
   obtain⟨r,hr⟩:=bV.1 q
   obtain⟨p,z,⟨hp,rfl⟩,hs⟩:=old _ (by rw[ha,hb];exact cmpD_rd hr)
   rw[hr]
   exact hs hp
  ·exact old _ h
 ·exact tF hI hev h

theorem uZ{a:A}{v:Value}(h:RepA U w a v)(x:A)(hx:x=if a.cond then a.strip else .o):RepA U w x v:=by
 subst hx
 split
 ·rename_i hc;exact jq h hc
 ·exact .o _

theorem rdG_some{e:Operand→A}{op:Op}{k:Prop→A→Prop}(h:kI P Z e op k):∃p z,k p z:=by
 unfold kI at h
 split at h
 ·obtain⟨p,z,h⟩:=qP h;exact⟨_,_,h⟩
 ·obtain⟨p,z,h⟩:=yS h;exact⟨_,_,h⟩
theorem CT{o:Oper}{e:Operand→A}{ve:Operand→Value}{k:Prop→A→Prop}(hI:Inv G U Z w)(hev:∀x,RepA U w (e x) (ve x))(h:kI P Z e o.op k):BJ P U w (execOp ve o) k:=by
 unfold kI at h
 split at h
 ·rename_i x a b ho
  obtain⟨p,z,hk⟩:=qP h
  by_cases hc:(e x).cond=true
  ·obtain⟨p,z,hk,hs⟩:=pY (P:=P) (jq (hev x) hc) (hev a) (hev b) h
   refine⟨_,z,hk,λ q=>let ⟨v,h1,h2⟩:=hs q.2;⟨v,?_,h2⟩⟩
   simp only[execOp,ho]
   simp only[Sem.run_bind]at h1 ⊢
   cases hr:(asBool (ve x)).run P w with
   |halt y w'=>rw[hr]at h1;simp at h1
   |ok b w'=>
    rw[hr]at h1
    simp only[Result.andThen_ok,Sem.run_pure,Result.ok.injEq]at h1 ⊢
    exact⟨by rw[h1.1],h1.2⟩
  ·exact⟨_,z,hk,λ q=>absurd q.1 hc⟩
 ·obtain⟨p,z,hk⟩:=yS h
  by_cases hall:(o.op.operands.toList.all λ x=>(e x).cond)=true
  ·have h':=vK (e':=λ x=>if(e x).cond then(e x).strip else .o) (λ x hx=>by
    have:=aZ.1 hall x hx
    simp only[this,if_true]) h
   obtain⟨p,z,hk,hs⟩:=CV hI (λ x=>uZ (hev x) _ rfl) h'
   exact⟨_,z,hk,λ q=>hs q.2⟩
  ·exact⟨_,z,hk,λ q=>absurd q.1 hall⟩

theorem vP {b:Df} {ops:Array Oper} {o:Oper} {fr:Fr} {a:Act} {c:Bool} {k:A→St→Prop} {K:Act→World→Prop} {Q:Exit→Act→World→Prop} (hI:Inv G U Z w) (hF:dl b U w fr a)
  (hc:Region.wanted o (yielded ops a.tmps)=c) (h:qG P G Z (ev G fr) c o.op k) (hP:PQ G U w a Q) (hK:∀a' w',oH G U w a o.dst k a' w'→K a' w'):
  if Region.wanted o (yielded ops a.tmps)then o.wpIn (RF rn) 0 P a w K Q else(∀f,o.about P w a.eval=some f→(RF rn).fn f)∧K (a.put o.dst undef) w:=by
 have hev:=xH hI hF
 have no:∀x,k (.grd false x) Z→(∀f,o.about P w a.eval=some f→(RF rn).fn f)∧K (a.put o.dst undef) w:=λ x hk=>⟨λ _ _=>trivial,hK _ _ ⟨.grd false x,undef,U,Z,rfl,Ext.refl _ _,hI,.grd _ (λ h=>by cases h) (λ _=>rfl),hk⟩⟩
 have reads:kI P Z (ev G fr) o.op (λ p x=>(c=true→p)∧k (.grd c x) Z)→
   if Region.wanted o (yielded ops a.tmps)then o.wpIn (RF rn) 0 P a w K Q else(∀f,o.about P w a.eval=some f→(RF rn).fn f)∧K (a.put o.dst undef) w:=λ h=>by
  rw[hc]
  cases c with
  |true=>
   rw[if_pos rfl]
   obtain⟨p,x,⟨hp,hk⟩,hs⟩:=CT hI hev h
   obtain⟨v,h1,h2⟩:=hs (hp rfl)
   exact lr h1 (hK _ _ ⟨.grd true x,v,U,Z,rfl,Ext.refl _ _,hI,.grd _ (λ _=>h2) (λ h=>by cases h),hk⟩)
  |false=>
   rw[if_neg (by simp)]
   obtain⟨p,x,_,hk⟩:=rdG_some h
   exact no x hk
 have writes:uU P G Z (ev G fr) c o.op k→if Region.wanted o (yielded ops a.tmps)then o.wpIn (RF rn) 0 P a w K Q else(∀f,o.about P w a.eval=some f→(RF rn).fn f)∧K (a.put o.dst undef) w:=λ h=>by
  rw[hc]
  cases c with
  |true=>rw[if_pos rfl];exact tP hI (λ x=>CA (hev x)) (h.1 rfl) hP hK
  |false=>rw[if_neg (by simp)];exact⟨λ _ _=>trivial,hK _ _ ⟨.o,undef,U,Z,rfl,Ext.refl _ _,hI,.o _,h.2 rfl⟩⟩
 unfold qG at h
 split at h
 ·rename_i cl ho
  split at h
  ·rename_i f hcl
   rcases h with⟨d,hp,hk⟩|h
   ·rw[hc]
    cases c with
    |true=>
     rw[if_pos rfl]
     obtain⟨hall,hcall⟩:=hp rfl
     have hst:∀x∈o.op.operands.toList,RepA U w (ev G fr x).strip (a.eval x):=λ x hx=>jq (hev x) (aZ.1 hall x hx)
     refine Ag hI ho hcl (hst f (by rw[ho];simp [Op.operands,Call.operands,hcl])) (args:=cl.args.toList.map λ x=>(ev G fr x).strip) ⟨by simp,λ i x v hx hv=>by
      simp only[aN,bj]at hx hv
      obtain⟨y,e1,rfl⟩:=hx
      obtain⟨z,e2,rfl⟩:=hv
      rw[e1]at e2;injection e2 with e2;subst e2
      exact hst y (by rw[ho];simp only[Op.operands,Call.operands,dC,aW];exact .inr (bh e1))⟩ hcall hP ?_
     rintro a' w' ⟨x,v,U',Z',rfl,a1,a2,a3,rfl,rfl⟩
     exact hK _ _ ⟨.grd true (.d d),v,U',_,rfl,a1,a2,.grd _ (λ _=>a3) (λ h=>by cases h),hk⟩
    |false=>
     rw[if_neg (by simp)]
     exact no _ hk
   ·exact writes h
  ·exact writes h
  ·exact writes h
  ·exact writes h
  ·exact writes h
  ·rename_i r name hcl
   rcases h with⟨d,hp,hk⟩|h
   ·rw[hc]
    cases c with
    |true=>
     rw[if_pos rfl]
     obtain⟨hall,hcall⟩:=hp rfl
     have hst:∀x∈o.op.operands.toList,RepA U w (ev G fr x).strip (a.eval x):=λ x hx=>jq (hev x) (aZ.1 hall x hx)
     refine Ah hI ho hcl (hst r (by rw[ho];simp [Op.operands,Call.operands,hcl])) (args:=cl.args.toList.map λ x=>(ev G fr x).strip) ⟨by simp,λ i x v hx hv=>by
      simp only[aN,bj]at hx hv
      obtain⟨y,e1,rfl⟩:=hx
      obtain⟨z,e2,rfl⟩:=hv
      rw[e1]at e2;injection e2 with e2;subst e2
      exact hst y (by rw[ho];simp only[Op.operands,Call.operands,dC,aW];exact .inr (bh e1))⟩ hcall hP ?_
     rintro a' w' ⟨x,v,U',Z',rfl,a1,a2,a3,rfl,rfl⟩
     exact hK _ _ ⟨.grd true (.d d),v,U',_,rfl,a1,a2,.grd _ (λ _=>a3) (λ h=>by cases h),hk⟩
    |false=>
     rw[if_neg (by simp)]
     exact no _ hk
   ·exact writes h
  ·exact reads h
 ·exact writes h
 ·exact writes h
 ·exact writes h
 ·exact writes h
 ·exact writes h
 ·exact writes h
 ·exact writes h
 ·exact writes h
 ·exact reads h

theorem qk{bf:Df}{ops:Array Oper}{o:Oper}{fr:Fr}{a:Act}{j:Nat}{b c:Bool}(hF:dl bf U w fr a)(hg:o.guard=some (j,b))(h:fW ops fr j b=some c):
  Region.wanted o (yielded ops a.tmps)=c:=by
 unfold fW at h
 split at h
 ·rename_i d hd
  have hs:=hF.slot d
  have hy:yielded ops a.tmps j=(match a.tmps.getD d undef with| .bool b=>some b|_=>none):=by
   unfold yielded
   rw[hd]
   simp only[Option.bind_some,fG]
   cases a.tmps[d]? with
   |none=>rfl
   |some v=>cases v<;> rfl
  simp only[Region.wanted,hg,hy]
  split at h
  ·rename_i x hx
   rw[hx]at hs
   injection h with h
   rw[g8 hs,←h]
   cases x<;> cases b<;> rfl
  ·rename_i c' x hx
   rw[hx]at hs
   injection h with h;subst h
   cases hs with
   |grd _ h1 h2=>
    cases c' with
    |true=>rw[g8 (h1 rfl)];cases x<;> cases b<;> rfl
    |false=>rw[h2 rfl];cases b<;> rfl
  ·rename_i x _ hx
   rw[hx]at hs
   injection h with h;subst h
   cases hs with
   |grd _ h1 h2=>rw[h2 rfl];cases b<;> rfl
  ·cases h
 ·cases h

theorem nK{b:Df}{ops:Array Oper}{Q:Exit→Act→World→Prop}:∀(l:List Oper) {K:Fr→St→Prop} {fr:Fr} {Z:St} {U:gM} {w:World} {a:Act},(∀o∈l,mT b o.dst)→Inv G U Z w→dl b U w fr a→gX P G ops l K fr Z→
  (∀U' Z' a' w',Ext U w U' w'→Inv G U' Z' w'→xV b w' a'→PQ G U' w' a' Q)→
  (∀fr' Z' U' a' w',Ext U w U' w'→Inv G U' Z' w'→dl b U' w' fr' a'→K fr' Z'→Q .normal a' w')→wpListIn (RF rn) 0 P ops Q l a w
 |[],K,fr,Z,U,w,a,_,hI,hF,h,_,hQ=>hQ fr Z U a w (Ext.refl _ _) hI hF h
 |o::rest,K,fr,Z,U,w,a,hd,hI,hF,h,hP,hQ=>by
  simp only[gX]at h
  split at h
  ·rename_i hg
   refine wpListIn_plain hg λ K' hK'=> ?_
   refine vQ hI hF h (hP _ _ _ _ (Ext.refl _ _) hI hF.1) λ a' w' ⟨x,v,U',Z',e,hx,hI',hr,hk⟩=>hK' _ _ ?_
   subst e
   exact nK rest (λ o ho=>hd o (bR _ ho)) hI' ((hF.ext hI hx).put o.dst (hd o (cy ..)) hr) hk (λ U'' Z'' a'' w'' h1 h2 h3=>hP _ _ _ _ (hx.trans h1) h2 h3) λ fr' Z'' U'' a'' w'' h1 h2 h3 h4=>hQ _ _ _ _ _ (hx.trans h1) h2 h3 h4
  ·rename_i j b hg
   split at h
   ·rename_i c hc
    refine wpListIn_step λ K' hK'=> ?_
    refine vP hI hF (qk hF hg hc) h (hP _ _ _ _ (Ext.refl _ _) hI hF.1) λ a' w' ⟨x,v,U',Z',e,hx,hI',hr,hk⟩=>hK' _ _ ?_
    subst e
    exact nK rest (λ o ho=>hd o (bR _ ho)) hI' ((hF.ext hI hx).put o.dst (hd o (cy ..)) hr) hk (λ U'' Z'' a'' w'' h1 h2 h3=>hP _ _ _ _ (hx.trans h1) h2 h3) λ fr' Z'' U'' a'' w'' h1 h2 h3 h4=>hQ _ _ _ _ _ (hx.trans h1) h2 h3 h4
   ·exact h.elim
end
end Go.Ab
