import Derived.Test.YtdpdbokicanpoaaGreatDoorAbK
import Derived.Test.YtdpdbokicanpoaaGreatDoorAbClear
set_option linter.unusedSimpArgs false
set_option linter.unusedVariables false
set_option maxHeartbeats 64000000
namespace Go.Ab
open Go Go.RowKit
def vf:BinOp→Operand→Option (Bool×Bool)
 | .eql,.const (.pointer none)=>some (true,true)
 | .neq,.const (.pointer none)=>some (true,false)
 | .eql,.const (.slice none 0 0)=>some (false,true)
 | .neq,.const (.slice none 0 0)=>some (false,false)
 |_,_=>none
section
variable (P:Program) (Z:St)
def mR(q:Bool×Bool)(t:TypeId)(k:A→St→Prop)(a:A):Prop:=match q.1,a with
 |true,.ref id _=>(dr Z id=true∧yW P t=true)∧k (.d (.bool (!q.2))) Z
 |true,.d .nilp=>yW P t=true∧k (.d (.bool q.2)) Z
 |false,.d .nils=>lB P t=true∧k (.d (.bool q.2)) Z
 |false,.d (.sl _ xs)=>lB P t=true∧∀b:Bool,(b=true→xs=[])→k (.d (.bool (b==q.2))) Z
 |false,.rs id _ _ len _=>(dr Z id=true∧lB P t=true)∧∀b:Bool,(b=true→len=0)→k (.d (.bool (b==q.2))) Z
 |_,_=>False
def ko(t tx:TypeId)(a x:A)(k:Prop→A→St→Prop):Prop:=match pp P t with
 |some (_,s,_,_)=>match u1 P Z s tx x with
  |some (p,m,news)=>match a with
   | .rs id sz off len _=>match Z[id]? with
    |some (some (.cells cs))=>k (p∧sz=s∧len=m∧off+len*s≤cs.length) (.d (.int .i64 len)) (Z.set id (some (.cells (cs.take off++news++cs.drop (off+len*s)))))
    |_=>False
   |_=>False
  |none=>False
 |none=>False
end
section
variable {P:Program} {U U':gM} {w w':World} {Z:St} {G:Glob}
theorem Dd{o:BinOp}{y:Operand}{q:Bool×Bool}(h:vf o y=some q):(o= .eql∧q.2=true∨o= .neq∧q.2=false)∧(q.1=true∧y= .const (.pointer none)∨q.1=false∧y= .const (.slice none 0 0)):=by
 unfold vf at h
 split at h<;> first|(injection h with h;subst h;simp;done)|cases h
theorem nb{o:BinOp}{y:Operand}{q:Bool×Bool}{t:TypeId}{k:A→St→Prop}{a:A}{u:Value}(x:Operand)(ve:Operand→Value)(hc:∀v,ve (.const v)=v)(hq:vf o y=some q)(hI:Inv G U Z w)(ha:RepA U w a u)(h:mR P Z q t k a):
  ∃b:Bool,(do eqGuard o t x y u (ve y);binOp o t u (ve y):Sem Value).run P w= .ok (.bool b) w∧k (.d (.bool b)) Z:=by
 obtain⟨ho,hy⟩:=Dd hq
 have ptr:∀p:Option Addr,q.1=true→yW P t=true→(do eqGuard o t x y (.pointer p) (ve y);binOp o t (.pointer p) (ve y):Sem Value).run P w= .ok (.bool (p.isNone==q.2)) w:=λ p h1 hp=>by
  rcases hy with⟨_,rfl⟩|⟨h2,_⟩
  ·obtain⟨hg,he⟩:=zk (P:=P) (t:=t) p x (.const (.pointer none)) w
   rw[hc]
   rcases ho with⟨rfl,h3⟩|⟨rfl,h3⟩<;> simp [hg,binOp,he hp,h3]
  ·rw[h1]at h2;cases h2
 have slc:∀(p:Option Addr) (n c:Nat),q.1=false→lB P t=true→(do eqGuard o t x y (.slice p n c) (ve y);binOp o t (.slice p n c) (ve y):Sem Value).run P w= .ok (.bool (p.isNone==q.2)) w:=λ p n c h1 hp=>by
  rcases hy with⟨h2,_⟩|⟨_,rfl⟩
  ·rw[h1]at h2;cases h2
  ·obtain⟨hg,he⟩:=nils_run (P:=P) (t:=t) p n c x (.const (.slice none 0 0)) w
   rw[hc]
   rcases ho with⟨rfl,h3⟩|⟨rfl,h3⟩<;> simp [hg,binOp,he hp,h3]
 unfold mR at h
 split at h
 ·rename_i id off h1
  obtain⟨⟨hl,hp⟩,hk⟩:=h
  obtain⟨b,hb,rfl⟩:=pg hI hl ha
  refine⟨_,ptr _ h1 hp,?_⟩
  simpa using hk
 ·rename_i h1
  cases ha with|d ha=>cases ha with|nilp=>
  refine⟨_,ptr _ h1 h.1,?_⟩
  simpa using h.2
 ·rename_i h1
  cases ha with|d ha=>cases ha with|nils=>
  refine⟨_,slc _ _ _ h1 h.1,?_⟩
  simpa using h.2
 ·rename_i xs h1
  cases ha with
  |d ha=>
   cases ha with
   |sl0 _ a c=>exact⟨_,slc _ _ _ h1 h.1,h.2 _ λ _=>rfl⟩
   |sl=>exact⟨_,slc _ _ _ h1 h.1,h.2 _ λ h=>by cases h⟩
 ·rename_i id sz off len ow h1
  obtain⟨⟨hl,hp⟩,hk⟩:=h
  rcases kB hI hl ha with⟨b,cap,us,e,z,h1',rfl,-⟩|⟨h1',h2,h3,rfl⟩
  ·exact⟨_,slc _ _ _ h1 hp,hk _ λ h=>by cases h⟩
  ·exact⟨_,slc _ _ _ h1 hp,hk _ λ _=>h3⟩
 ·exact h.elim
theorem wN{t tx ty:TypeId}{a x:A}{u v:Value}{k:Prop→A→St→Prop}(hI:Inv G U Z w)(ha:RepA U w a u)(hx:RepA U w x v)(h:ko P Z t tx a x k):
  qF P G U w (Builtin.copy_ #[t,tx] ty #[u,v]) k:=by
 unfold ko at h
 split at h
 ·rename_i e s bytes zs hmk
  obtain⟨i,z,hu,hs,hi,hz,rfl,hzl,p0,hall,_⟩:=l8 hmk
  split at h
  ·rename_i p m news hsrc
   split at h
   ·rename_i id sz off len ow
    split at h
    ·rename_i cs hσ
     refine⟨_,_,_,h,λ ⟨p1,p2,p3,p4⟩=> ?_⟩
     subst p2
     subst p3
     obtain⟨us,hS,hL⟩:=pd hI hx hsrc p1
     have hul:us.length=len*sz:=hS.size
     have hsz:i.size=sz:=by rw[←hs];simp [Program.cellsOf,hi]
     have hnl:news.length=len*sz:=by rw[hL.1,hul]
     rcases kB hI (aO hσ) ha with⟨b,cap,vs,e',z',hb,rfl,hh,hcap,hfit,_⟩|⟨he,h0,h3,rfl⟩
     ·rcases lW hI hσ with⟨b',vs',et,hb',hh',hlen,hcs⟩|⟨he',_⟩
      case inr=>rw[hb]at he';injection he' with he';cases he'
      rw[hb]at hb';injection hb' with hb';injection hb' with hb';subst hb'
      rw[hh]at hh';injection hh' with hh';injection hh' with e1 e2 e3;subst e1;subst e2;subst e3
      have h1:∀u∈us,u.oneCell'=true:=hL.2.1
      have hw:=hI.write (vs':=(vs.toList.take off++us++vs.toList.drop (off+us.length)).toArray) (cs:=cs.take off++news++cs.drop (off+len*sz)) hb hh rfl (by simp;omega) (gI λ y hy=>by
        have hold:jo Z.length cs=true:=hI.bd id _ hσ
        simp only[aW]at hy
        rcases hy with(hy|hy)|hy
        ·exact gD hold y (dW hy)
        ·exact gD (wZ hI hsrc) y hy
        ·exact gD hold y (gq hy)) (by simp;omega)
       (λ i y hy=>by
        have:=lu (U:=U) (w:=w) (cs:=cs) (new:=news) (vs:=vs.toList) (us:=us) (off:=off) (by omega) (by omega) (by simpa using hlen) h1 hL.2.2 (λ i x hx=>by simpa using hcs i x hx) i y (by simpa [hnl]using hy)
        simpa using this)
      have hst:=run_storeCells_at P b off _ us 0 vs w hh (by omega) h1
      simp only[dY]at hst
      have hfc:=hS.cells w rfl
      refine⟨goInt len,_,_,?_,hw.1,hw.2,.d (.int _ _)⟩
      simp [Builtin.copy_,run_underlying hu,hS.len,sizeOf,typeInfo,hi,hsz,hfc,hst]
     ·subst h3
      have hu0:us=[]:=bz (by omega)
      have hn0:news=[]:=bz (by omega)
      subst hu0;subst hn0
      have hfc:=hS.cells w rfl
      have hse:Z.set id (some (.cells (cs.take off++[]++cs.drop (off+0*sz))))=Z:=by
       simp only[bt,Nat.zero_mul,dY,ct]
       apply cz 
       intro n
       rw[aR]
       split
       ·rename_i e;subst e
        rw[hσ,if_pos (aA.1 hσ).1]
       ·rfl
      refine⟨goInt 0,U,w,?_,Ext.refl _ _,by rw[hse];exact hI,.d (.int _ _)⟩
      simp [Builtin.copy_,run_underlying hu,hS.len,sizeOf,typeInfo,hi,hsz,hfc]
    ·exact h.elim
   ·exact h.elim
  ·exact h.elim
 ·exact h.elim
end
end Go.Ab
