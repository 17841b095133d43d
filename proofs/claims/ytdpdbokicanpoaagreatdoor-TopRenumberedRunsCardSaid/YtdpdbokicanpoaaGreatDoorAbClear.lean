import Derived.Test.YtdpdbokicanpoaaGreatDoorAbK
import Derived.Test.YtdpdbokicanpoaaGreatDoorAbMap
set_option linter.unusedSimpArgs false
set_option linter.unusedVariables false
set_option maxHeartbeats 64000000
namespace Go.Ab
open Go Go.RowKit
section
variable (P:Program) (Z:St)
def kG(t:TypeId)(a:A)(k:Prop→A→St→Prop):Prop:=match a with
 | .rs id sz off len _=>match pp P t with
  |some (_,s,_,_)=>match Z[id]? with
   |some (some (.cells cs))=>k (sz=s∧0<len∧off+len*s≤cs.length) .o (Z.set id (some (.cells (cs.take off++List.replicate (len*s) .o++cs.drop (off+len*s)))))
   |_=>False
  |none=>False
 |_=>False
end
section
variable {P:Program} {U U':gM} {w w':World} {Z:St} {G:Glob}
theorem oQ{z:Array Value}{n:Nat}{u:Value}(h:u∈(Builtin.zeroCells z n).toList):u∈z.toList:=by
 simp only[Builtin.zeroCells,Array.toList_map,Array.toList_range,aI,eT]at h
 obtain⟨i,hi,rfl⟩:=h
 have hz:0<z.size:=by
  rcases cv z.size with e|e
  ·rw[e]at hi;omega
  ·exact e
 have hlt:i % z.size<z.size:=Nat.mod_lt _ hz
 rw[getElem!_pos z _ hlt]
 exact Array.mem_toList_iff.2 (Array.getElem_mem hlt)
theorem uW{t ty:TypeId}{a:A}{u:Value}{k:Prop→A→St→Prop}(hI:Inv G U Z w)(ha:RepA U w a u)(h:kG P Z t a k):
  qF P G U w (Builtin.clear_ #[t] ty #[u]) k:=by
 unfold kG at h
 split at h
 ·rename_i id sz off len ow
  split at h
  ·rename_i e s bytes zs hmk
   obtain⟨i,z,hu,hs,hi,hz,rfl,hzl,p0,hall,_⟩:=l8 hmk
   split at h
   ·rename_i cs hσ
    refine⟨_,_,_,h,λ ⟨p1,p2,p3⟩=> ?_⟩
    subst p1
    rcases kB hI (aO hσ) ha with⟨b,cap,vs,e',z',hb,rfl,hh,hcap,hfit,_⟩|⟨_,_,rfl,_⟩
    case inr=>omega
    rcases lW hI hσ with⟨b',vs',et,hb',hh',hlen,hcs⟩|⟨he',_⟩
    case inr=>rw[hb]at he';injection he' with he';cases he'
    rw[hb]at hb';injection hb' with hb';injection hb' with hb';subst hb'
    rw[hh]at hh';injection hh' with hh';injection hh' with e1 e2 e3;subst e1;subst e2;subst e3
    have hzsz:z.cells.size=sz:=by simpa using hzl
    obtain⟨us,hus⟩:∃us,us=(Builtin.zeroCells z.cells len).toList:=⟨_,rfl⟩
    have hul:us.length=len*sz:=by rw[hus,Array.length_toList,size_zeroCells,hzsz]
    have h1:∀u∈us,u.oneCell'=true:=λ u hu=>(lM (U:=U) (w:=w) hall).1 u (oQ (hus▸hu))
    have hw:=hI.write (vs':=(vs.toList.take off++us++vs.toList.drop (off+us.length)).toArray) (cs:=cs.take off++List.replicate (len*sz) .o++cs.drop (off+len*sz)) hb hh rfl (by simp;omega) (gI λ y hy=>by
      have hold:jo Z.length cs=true:=hI.bd id _ hσ
      simp only[aW]at hy
      rcases hy with(hy|hy)|hy
      ·exact gD hold y (dW hy)
      ·rw[(fR.1 hy).2];rfl
      ·exact gD hold y (gq hy)) (by simp;omega)
     (λ i y hy=>by
      have:=lu (U:=U) (w:=w) (cs:=cs) (new:=List.replicate (len*sz) .o) (vs:=vs.toList) (us:=us) (off:=off) (by simp [hul]) (by simpa using p3) (by simpa using hlen) h1 (λ i x u hx hu=>by
       rw[(fR.1 (bh hx)).2];exact .o _) (λ i x hx=>by simpa using hcs i x hx) i y (by simpa using hy)
      simpa using this)
    have hst:=run_storeCells_at P b off _ us 0 vs w hh (by omega) h1
    simp only[dY]at hst
    have hzv:(zeroValue e).run P w= .ok z w:=by simp [zeroValue,typeInfo,hi,hz]
    refine⟨.tuple #[],_,_,?_,hw.1,hw.2,.o _⟩
    obtain⟨n,rfl⟩:∃n,len=n+1:=⟨len - 1,by omega⟩
    simp [Builtin.clear_,run_underlying hu,hzv,←hus,hst]
   ·exact h.elim
  ·exact h.elim
 ·exact h.elim
end
end Go.Ab
