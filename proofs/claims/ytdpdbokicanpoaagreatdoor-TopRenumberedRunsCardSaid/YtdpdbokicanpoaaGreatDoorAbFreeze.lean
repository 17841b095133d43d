import Derived.Test.YtdpdbokicanpoaaGreatDoorAbK
import Derived.Test.YtdpdbokicanpoaaGreatDoorAbPure
set_option linter.unusedSimpArgs false
set_option linter.unusedVariables false
set_option maxHeartbeats 64000000
namespace Go.Ab
open Go Go.RowKit
def tE(id:Nat)(ds:List D):A→A
 | .ref i off=>bif i==id then .ea (.agg ds) off else .ref i off
 |a=>a
section
variable {G:Glob} {Z:St}
theorem bw.freezeRef{n0:Nat}{fr:Fr}(id:Nat)(ds:List D)(hσ:Z[id]? =some (some (.cells (ds.map .d))))(h1:∀d∈ds,d.one=true):bw G n0 fr Z (fr.map (tE id ds)) (Z.set id none):=λ U0 w0 U w vs h0 hx hI hr=>by
 obtain⟨hk,hI'⟩:=hI.kill id
 refine⟨U.set id .dead,hx.trans hk,hI',by simpa using hr.1,λ i x v hx' hv=> ?_⟩
 simp only[aN,bj]at hx'
 obtain⟨y,hy,rfl⟩:=hx'
 have hrep:=hr.2 i y v hy hv
 unfold tE
 split
 ·rename_i j off
  cases he:(j==id)with
  |false=>exact hrep.ext hk
  |true=>
   have:j=id:=by simpa using he
   subst this
   rw[cond_true]
   obtain⟨b,hb,rfl⟩:=pg hI (aO hσ) hrep
   rcases hI.obj j _ hσ with⟨b',g1,us,e,g2,g3,g4⟩|⟨g1,g2⟩
   ·rw[hb]at g1;injection g1 with g1;injection g1 with g1;subst g1
    have hnm:¬M (U.set j .dead) b:=λ ⟨i,hi⟩=>by
     rw[aR]at hi
     split at hi
     ·split at hi
      ·injection hi with hi;cases hi
      ·cases hi
     ·rename_i hne;exact hne (hI.inj j i b hb hi)
    have:=RepA.ea (U:=U.set j .dead) (w:=w) (.agg ds) off b 0 (λ i=>us.toList.getD i undef) hnm (hI.lt j b hb) (λ k y hy=>h1 y (bh hy)) (λ k y hy=>by
     obtain⟨u,b1,b2,b3⟩:=g4 k (.d y) (by rw[aN];simp only[D.cells]at hy;rw[hy];rfl)
     rw[ci,eR g2,b1]
     simp [List.getD,b1]) (λ k y hy=>by
     obtain⟨u,b1,b2,b3⟩:=g4 k (.d y) (by rw[aN];simp only[D.cells]at hy;rw[hy];rfl)
     cases b3 with
     |d b3=>
      have:=b3.ext hk
      simp only[List.getD,bP,b1,b9]
      exact this)
    simpa using this
   ·rw[hb]at g1;cases g1
 ·exact hrep.ext hk
theorem xR {P:Program} {f:FuncId} {args:List A} {l:St} {R:A→St→Prop} (j:Nat) (ds:List D) (hσ:l[j]? =some (some (.cells (ds.map .d)))) (h1:∀d∈ds,d.one=true)
  (h:AC P G f (args.map (tE (Z.length+j) ds)) (Z++l.set j none) R):AC P G f args (Z++l) R:=by
 have hk:(Z++l)[Z.length+j]? =some (some (.cells (ds.map .d))):=by rw[az (by omega),bk];exact hσ
 have:=bw.freezeRef (G:=G) (n0:=(Z++l).length) (fr:=args) (Z.length+j) ds hk h1
 rw[jU]at this
 exact lz this h
end
end Go.Ab
