import Derived.Test.YtdpdbokicanpoaaGreatDoorAbK
import Derived.Test.YtdpdbokicanpoaaGreatDoorAbMapS
set_option linter.unusedSimpArgs false
set_option linter.unusedVariables false
set_option maxHeartbeats 64000000
namespace Go.Ab
open Go
section
variable {U U':gM} {w w':World} {Z:St} {G:Glob} {n0:Nat}
theorem Inv.recell (hI:Inv G U Z w) {i:Nat} {ds ds':List A} (hi:Z[i]? =some (some (.cells ds))) (hl:ds'.length≤ds.length) (hbd:jo Z.length ds'=true)
  (hr:∀(j:Nat) (x x':A) (v:Value),ds[j]? =some x→ds'[j]? =some x'→RepA U w x v→RepA U w x' v):Inv G U (Z.set i (some (.cells ds'))) w:=by
 refine⟨by rw[hI.len,aH],hI.inj,hI.lt,λ id o ho=> ?_,hI.glob,?_,hI.own⟩
 ·rw[aR]at ho
  split at ho
  ·rename_i e
   split at ho
   ·injection ho with ho;injection ho with ho;subst ho
    subst e
    rcases hI.obj _ _ hi with⟨b,h1,u,et,h2,h3,h4⟩|⟨h1,h2⟩
    ·refine .inl ⟨b,h1,u,et,h2,by omega,λ k x hx'=> ?_⟩
     have hk:k<ds.length:=by have:=(aA.1 hx').1;omega
     obtain⟨v,a1,a2,a3⟩:=h4 k ds[k] (ap hk)
     exact⟨v,a1,a2,hr k _ x v (ap hk) hx' a3⟩
    ·injection h2 with h2;subst h2
     have:ds'=[]:=bz (by simpa using hl)
     subst this
     exact .inr ⟨h1,rfl⟩
   ·cases ho
  ·exact hI.obj id o ho
 ·rw[aH]
  refine hI.bd.set _ λ o ho=> ?_
  injection ho with ho;subst ho
  exact hbd
mutual
theorem bd_frz{id sz off n:Nat}{xs:List D}:∀(a:A),a.bd n=true→(a.frz id sz off xs).bd n=true
 | .rs i s o l ow,h=>by
  unfold A.frz
  split
  ·rfl
  ·exact h
 | .agg cs,h=>by
  unfold A.frz
  simp only[A.bd]at h
  have:=sR (id:=id) (sz:=sz) (off:=off) (xs:=xs) cs h
  unfold mU
  split
  ·rfl
  ·simpa only[A.bd]using this
 | .tup cs,h=>by unfold A.frz;simp only[A.bd]at h ⊢;exact sR cs h
 | .ifc t a,h=>by unfold A.frz;simp only[A.bd]at h ⊢;exact bd_frz a h
 | .d x,h=>h
 | .ea x o,h=>h
 | .ref i o,h=>h
 | .fn f cs ds,h=>h
 | .mapr i,h=>h
 | .grd c a,h=>h
 | .o,h=>h
theorem sR{id sz off n:Nat}{xs:List D}:∀(l:List A),jo n l=true→jo n (jP id sz off xs l)=true
 |[],_=>rfl
 |a::l,h=>by
  simp only[jP,jo,aB]at h ⊢
  exact⟨bd_frz a h.1,sR l h.2⟩
end
theorem Du(hI:Inv G U Z w){id sz off:Nat}{xs:List D}{cs:List A}(hσ:Z[id]? =some (some (.cells cs)))(hl:mQ cs sz off xs):
  ∀ow v,RepA U w (.rs id sz off xs.length ow) v→RepA (U.set id .dead) w (.d (.sl sz xs)) v:=λ ow v hv=>by
 obtain⟨hk,hI'⟩:=hI.kill id
 rcases kB hI (aO hσ) hv with⟨b,cap,us,e,z,h1,rfl,h3,h4,h5,-⟩|⟨h1,h2,h3,rfl⟩
 ·cases xs with
  |nil=>exact .d (.sl0 sz _ cap)
  |cons x0 xt=>
   rcases hI.obj id _ hσ with⟨b',g1,us',e',g2,g3,g4⟩|⟨g1,g2⟩
   ·rw[h1]at g1;injection g1 with g1;injection g1 with g1;subst g1
    rw[h3]at g2;injection g2 with g2;injection g2 with g2 g2' g2'';subst g2
    have hnm:¬M (U.set id .dead) b:=λ ⟨i,hi⟩=>by
     rw[aR]at hi
     split at hi
     ·split at hi
      ·injection hi with hi;cases hi
      ·cases hi
     ·rename_i hne;exact hne (hI.inj id i b h1 hi)
    refine .d (.sl sz _ b off cap (λ i j=>us.toList.getD (off+i*sz+j) undef) hnm (hI.lt id b h1) h4 hl.1 (λ i x j y a1 a2=>(hl.2 i x j y a1 a2).2) (λ i x j y a1 a2=> ?_) (λ i x j y a1 a2=> ?_))
    ·obtain⟨u,b1,b2,b3⟩:=g4 _ _ (hl.2 i x j y a1 a2).1
     rw[eR h3,b1]
     simp [List.getD,b1]
    ·obtain⟨u,b1,b2,b3⟩:=g4 _ _ (hl.2 i x j y a1 a2).1
     cases b3 with
     |d b3=>
      have:=b3.ext hk
      simp only[List.getD,bP,b1,b9]
      exact this
   ·rw[h1]at g1;cases g1
 ·cases xs with
  |nil=>exact .d (.sl0 sz none 0)
  |cons=>simp at h3
theorem bw.freezeIn{fr:Fr}{l:St}(j i sz off:Nat)(xs:List D){cs ds:List A}(hj:l[j]? =some (some (.cells cs)))(hl:mQ cs sz off xs)(hi:l[i]? =some (some (.cells ds)))(hij:j≠i):
  bw G n0 fr (Z++l) (jP (Z.length+j) sz off xs fr) (Z++(l.set j none).set i (some (.cells (jP (Z.length+j) sz off xs ds)))):=λ U0 w0 U w vs h0 hx hI hr=>by
 have hk:(Z++l)[Z.length+j]? =some (some (.cells cs)):=by rw[az (by omega),bk];exact hj
 have hki:(Z++l)[Z.length+i]? =some (some (.cells ds)):=by rw[az (by omega),bk];exact hi
 obtain⟨hE,hI'⟩:=hI.kill (Z.length+j)
 have hs:=Du hI hk hl
 refine⟨U.set (Z.length+j) .dead,hx.trans hE,?_,np hE hs fr vs hr⟩
 have hki':((Z++l).set (Z.length+j) none)[Z.length+i]? =some (some (.cells ds)):=by rw[aR,if_neg (by omega)];exact hki
 rw[←jU (Z:=Z) (l:=l.set j none) i,←jU (Z:=Z) (l:=l) j]
 -- the holder's cells as they were
 rcases hI.obj _ _ hki with⟨b,h1,u,et,h2,h3,h4⟩|⟨h1,h2⟩
 ·refine⟨by rw[hI'.len,aH (as:=(Z++l).set (Z.length+j) none)],hI'.inj,hI'.lt,λ id o ho=> ?_,hI'.glob,?_,hI'.own⟩
  ·rw[aR]at ho
   split at ho
   ·rename_i e
    split at ho
    ·injection ho with ho;injection ho with ho;subst ho
     subst e
     refine .inl ⟨b,by rw[aR,if_neg (by omega)];exact h1,u,et,h2,by rw[oq,ac];exact h3,λ k x hx'=> ?_⟩
     rw[oq,aN,bj]at hx'
     obtain⟨y,hy,rfl⟩:=hx'
     obtain⟨v,a1,a2,a3⟩:=h4 k y hy
     exact⟨v,a1,a2,xf hE hs y v a3⟩
    ·cases ho
   ·exact hI'.obj id o ho
  ·rw[aH]
   refine hI'.bd.set _ λ o ho=> ?_
   injection ho with ho;subst ho
   exact sR ds (hI'.bd _ _ hki')
 ·injection h2 with h2;subst h2
  have hself:((Z++l).set (Z.length+j) none).set (Z.length+i) (some (.cells (jP (Z.length+j) sz off xs [])))=(Z++l).set (Z.length+j) none:=by
   apply cz
   intro k
   rw[aR]
   split
   ·rename_i e;subst e
    rw[hki']
    split
    ·rfl
    ·rename_i hlt;exact(hlt (aA.1 hki').1).elim
   ·rfl
  rw[hself];exact hI'
theorem bw.emptyIn{fr:Fr}{l:St}(i c sz:Nat)(ow:Option TypeId){ds:List A}(hi:l[i]? =some (some (.cells ds)))(hc:ds[c]? =some (.d .nils)):
  bw G n0 fr (Z++l) fr (Z++(l.set i (some (.cells (ds.set c (.rs (Z.length+l.length) sz 0 0 ow))))++[some (.cells [])])):=λ U0 w0 U w vs h0 hx hI hr=>by
 obtain⟨h1,h2⟩:=hI.pushEmpty
 have hil:i<l.length:=(aA.1 hi).1
 have hki:(Z++l++[some (Ob.cells [])])[Z.length+i]? =some (some (.cells ds)):=by
  rw[aq (by simp;omega),az (by omega),bk];exact hi
 refine⟨U++[.empty],hx.trans h1,?_,hr.ext h1⟩
 have:=h2.recell (ds':=ds.set c (.rs (Z.length+l.length) sz 0 0 ow)) hki (by simp) (gI λ x hx=> ?_) (λ j x x' v hj hj' hv=> ?_)
 ·have e:Z++(l.set i (some (.cells (ds.set c (.rs (Z.length+l.length) sz 0 0 ow))))++[some (Ob.cells [])])=(Z++l++[some (Ob.cells [])]).set (Z.length+i) (some (.cells (ds.set c (.rs (Z.length+l.length) sz 0 0 ow)))):=by
   rw[aU,jU,dN _ _ hil]
  rw[e];exact this
 ·have hold:=h2.bd _ _ hki
  obtain⟨j,hj,rfl⟩:=bF hx
  rw[List.getElem_set]
  split
  ·simp [A.bd]
  ·exact gD hold _ (bI _)
 ·rw[aR]at hj'
  split at hj'
  ·rename_i e;subst e
   rw[hc]at hj;injection hj with hj;subst hj
   split at hj'
   ·injection hj' with hj';subst hj'
    cases hv with
    |d hv=>
     cases hv
     refine .rsEmpty sz ow ?_
     have hlen:=hI.len
     rw[aF]at hlen
     rw[←hlen];exact dF
   ·cases hj'
  ·rw[hj]at hj';injection hj' with hj';subst hj';exact hv
end
end Go.Ab
