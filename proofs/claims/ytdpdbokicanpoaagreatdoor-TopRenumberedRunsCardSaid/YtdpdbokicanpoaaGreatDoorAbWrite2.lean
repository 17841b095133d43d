import Derived.Test.YtdpdbokicanpoaaGreatDoorAbK
import Derived.Test.YtdpdbokicanpoaaGreatDoorAbWrite
set_option linter.unusedSimpArgs false
set_option linter.unusedVariables false
set_option maxHeartbeats 64000000
namespace Go.Ab
open Go Go.RowKit

def qF(P:Program)(G:Glob)(U:gM)(w:World)(s:Sem Value)(k:Prop→A→St→Prop):Prop:=
 ∃p a Z',k p a Z'∧(p→∃v U' w',s.run P w= .ok v w'∧Ext U w U' w'∧Inv G U' Z' w'∧RepA U' w' a v)

section
variable {P:Program} {U U':gM} {w w':World} {Z:St} {G:Glob}

theorem xe(U:gM)(w:World)(u:Value):RepA U w (uR u) u:=by
 unfold uR
 split<;> first|exact .d (by constructor)|exact .o _
theorem tB(U:gM)(w:World)(u:Value):RepA U w (xO u) u:=by
 unfold xO
 split
 ·rename_i cs
  split
  ·rename_i ds hds
   split
   ·rename_i hone
    have e:=qL hds
    have hlen:ds.length=cs.toList.length:=by
     have:=congrArg List.length e
     simpa using this.symm
    have h:=RepD.agg (w:=w) (m:=M U) ds cs.toList hlen (λ i x hx=>aZ.1 hone x (bh hx)) λ i x v hx hv=>by
     have h1:(cs.toList.map uR)[i]? =some (.d x):=by rw[e,aN,hx];rfl
     rw[aN,hv]at h1
     have h2:=xe U w v
     have h3:uR v= .d x:=by simpa using h1
     rw[h3]at h2
     cases h2 with
     |d h2=>exact h2
    rw[Array.toArray_toList]at h
    exact .d h
   ·exact .o _
  ·exact .o _
 ·exact xe _ _ _
theorem one_ofV{u:Value}(h:lk [] (uR u)=true):u.oneCell'=true:=by
 unfold uR at h
 split at h<;> first|rfl|simp [lk]at h
theorem tv(t:TypeId)(v:Value)(vs:List Value)(h:v.cells=vs.toArray):
  (newVar t v).run P w= .ok ⟨w.heap.size,0,none⟩ (w.alloc (.cells vs.toArray t)):=by
 simp [newVar,newRow,h]
theorem nv (hI:Inv G U Z w) {cs:List A} {vs:List Value} (e:TypeId) (hbd:jo Z.length cs=true) (hl:cs.length≤vs.length) (h1:∀u∈vs,u.oneCell'=true)
  (hr:∀(i:Nat) (x:A) (u:Value),cs[i]? =some x→vs[i]? =some u→RepA U w x u):
  Ext U w (U++[.live w.heap.size]) (w.alloc (.cells vs.toArray e))∧Inv G (U++[.live w.heap.size]) (Z++[some (.cells cs)]) (w.alloc (.cells vs.toArray e)):=
 hI.push (gW (Nat.le_succ _) cs hbd) (λ U' w' hx hb=>⟨vs.toArray,e,hb,by simpa using hl,λ i x hx'=>by
  have hi:i<vs.length:=by have:=(aA.1 hx').1;omega
  exact⟨vs[i],by simp [hi],h1 _ (bI hi),(hr i x _ hx' (ap hi)).ext hx⟩⟩) (λ ds h=>by cases h)
theorem oW{t:TypeId}{zs:List A}(h:eO P t=some zs):∃i z,P.info? t=some i∧i.zero=some z∧zs=z.cells.toList.map uR:=by
 unfold eO at h
 split at h
 ·rename_i i hi
  split at h
  ·rename_i z hz;injection h with h;exact⟨i,z,hi,hz,h.symm⟩
  ·cases h
 ·cases h
theorem lM{z:Value}(h:(z.cells.toList.map uR).all (lk [])=true):(∀u∈z.cells.toList,u.oneCell'=true)∧
  ∀(i:Nat) (x:A) (u:Value),(z.cells.toList.map uR)[i]? =some x→z.cells.toList[i]? =some u→RepA U w x u:=by
 refine⟨λ u hu=>one_ofV ?_,λ i x u hx hu=> ?_⟩
 ·simp only[List.all_map,aZ,Function.comp]at h
  exact h u hu
 ·simp only[aN,hu,bJ,Option.some.injEq]at hx
  subst hx
  exact xe _ _ _
theorem ofV_bd(n:Nat)(u:Value):(uR u).bd n=true:=by
 unfold uR
 split<;> rfl
theorem tZ(n:Nat)(l:List Value):jo n (l.map uR)=true:=gI λ x hx=>by
 obtain⟨u,_,rfl⟩:=aI.1 hx
 exact ofV_bd n u
theorem mf(hI:Inv G U Z w)(b:Nat):(U++[Rs.live b])[Z.length]? =some (.live b):=by rw[←hI.len];exact dF

theorem uY{t:TypeId}{k:Prop→A→St→Prop}(hI:Inv G U Z w)(h:jS P Z t k):qF P G U w (Instr.alloc t true (.tuple #[])) k:=by
 unfold jS at h
 split at h
 ·rename_i zs hz
  obtain⟨i,z,hi,hz',rfl⟩:=oW hz
  refine⟨_,_,_,h,λ hp=> ?_⟩
  obtain⟨h1,h2⟩:=lM (U:=U) (w:=w) hp
  obtain⟨hx,hI'⟩:=nv hI (cs:=z.cells.toList.map uR) (vs:=z.cells.toList) t (tZ _ _) (by simp) h1 h2
  refine⟨.pointer (some ⟨w.heap.size,0,none⟩),_,_,?_,hx,hI',.ref 0 (mf hI _)⟩
  simp [Instr.alloc,zeroValue,typeInfo,hi,hz',tv (P:=P) (w:=w) t z z.cells.toList (by simp)]
 ·exact h.elim
theorem yd{t:TypeId}{a:A}{v:Value}{k:Prop→A→St→Prop}(hI:Inv G U Z w)(ha:RepA U w a v)(h:rP Z a k):qF P G U w (Instr.box t v) k:=by
 refine⟨_,_,_,h,λ hp=> ?_⟩
 obtain⟨vs,e,hl,h1,h2⟩:=rE hI ha hp
 obtain⟨hx,hI'⟩:=nv hI (cs:=a.cells) (vs:=vs) t (uM hp) (by omega) h1 h2
 refine⟨.pointer (some ⟨w.heap.size,0,none⟩),_,_,?_,hx,hI',.ref 0 (mf hI _)⟩
 simp [Instr.box,tv (P:=P) (w:=w) t v vs e]

theorem lW(hI:Inv G U Z w){id:Nat}{cs:List A}(h:Z[id]? =some (some (.cells cs))):
  (∃b vs e,U[id]? =some (.live b)∧w.heap[b]? =some (.cells vs e (0,0))∧cs.length≤vs.size∧∀(i:Nat) (x:A),cs[i]? =some x→∃v,vs[i]? =some v∧v.oneCell'=true∧RepA U w x v)∨
  (U[id]? =some .empty∧cs=[]):=by
 rcases hI.obj _ _ h with⟨b,h1,vs,e,h2,h3,h4⟩|⟨h1,h2⟩
 ·exact .inl ⟨b,vs,e,h1,h2,h3,h4⟩
 ·injection h2 with h2;exact .inr ⟨h1,h2⟩
theorem aO{id:Nat}{o:Ob}(h:Z[id]? =some (some o)):dr Z id=true:=by simp [dr,h]

theorem lu {cs new:List A} {vs us:List Value} {off:Nat} (hl:new.length=us.length) (hoff:off+new.length≤cs.length) (hv:cs.length≤vs.length)
  (h1:∀u∈us,u.oneCell'=true) (hn:∀(i:Nat) (x:A) (u:Value),new[i]? =some x→us[i]? =some u→RepA U w x u)
  (hc:∀(i:Nat) (x:A),cs[i]? =some x→∃v,vs[i]? =some v∧v.oneCell'=true∧RepA U w x v):
  ∀(i:Nat) (x:A),(cs.take off++new++cs.drop (off+new.length))[i]? =some x→∃v,(vs.take off++us++vs.drop (off+us.length))[i]? =some v∧v.oneCell'=true∧RepA U w x v:=by
 intro i x hx
 by_cases c1:i<off
 ·rw[aU,aq (by simp;omega),bL c1]at hx
  rw[aU,aq (by simp;omega),bL c1]
  exact hc i x hx
 ·by_cases c2:i<off+new.length
  ·rw[aU,az (by simp;omega),aq (by simp;omega)]at hx
   rw[aU,az (by simp;omega),aq (by simp;omega)]
   have e1:i - (cs.take off).length=i - off:=by simp;omega
   have e2:i - (vs.take off).length=i - off:=by simp;omega
   rw[e1]at hx;rw[e2]
   have hlt:i - off<us.length:=by omega
   exact⟨us[i - off],ap hlt,h1 _ (bI hlt),hn _ x _ hx (ap hlt)⟩
  ·rw[aU,az (by simp;omega),az (by simp;omega),bE]at hx
   rw[aU,az (by simp;omega),az (by simp;omega),bE]
   have e1:off+new.length+(i - (cs.take off).length - new.length)=i:=by simp;omega
   have e2:off+us.length+(i - (vs.take off).length - us.length)=i:=by simp;omega
   rw[e1]at hx;rw[e2]
   exact hc i x hx

theorem uT{t:TypeId}{a x:A}{u v:Value}{k:Prop→A→St→Prop}(hI:Inv G U Z w)(ha:RepA U w a u)(hx:RepA U w x v)(h:je P Z t a x k):
  qF P G U w (do Instr.storeAt t u v;pure undef) k:=by
 unfold je at h
 split at h
 ·rename_i id off
  split at h
  ·rename_i cs hσ
   refine⟨_,_,_,h,λ ⟨p1,p2,p3,p4⟩=> ?_⟩
   obtain⟨us,e,hl,h1,h2⟩:=rE hI hx p1
   obtain⟨i,hi⟩:=bV.1 p3
   rcases lW hI hσ with⟨b,vs,et,hb,hh,hlen,hcs⟩|⟨he,_⟩
   case inr=>exact(lC ha he).elim
   obtain rfl:=tD ha hb
   have hw:=hI.write (vs':=(vs.toList.take off++us++vs.toList.drop (off+us.length)).toArray) (cs:=cs.take off++x.cells++cs.drop (off+x.cells.length)) hb hh rfl (by simp;omega) (gI λ y hy=>by
     have hold:jo Z.length cs=true:=hI.bd id _ hσ
     simp only[aW]at hy
     rcases hy with(hy|hy)|hy
     ·exact gD hold y (dW hy)
     ·exact gD (uM p1) y hy
     ·exact gD hold y (gq hy)) (by simp;omega)
    (λ i y hy=>by simpa using lu hl p4 (by simpa using hlen) h1 h2 (λ i x hx=>by simpa using hcs i x hx) i y hy)
   have hst:=run_storeCells_at P b off et us 0 vs w hh (by omega) h1
   simp only[dY]at hst
   refine⟨undef,_,_,?_,hw.1,hw.2,.o _⟩
   have hsz:us.length=P.cellsOf t:=by omega
   simp [Instr.storeAt,Instr.sureAddr,storeVar,e,dp hi,hsz,hst]
  ·exact h.elim
 ·exact h.elim
end
end Go.Ab
