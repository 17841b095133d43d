import Derived.Test.YtdpdbokicanpoaaGreatDoorAbK
import Derived.Test.YtdpdbokicanpoaaGreatDoorAbMore
set_option linter.unusedSimpArgs false
set_option linter.unusedVariables false
set_option maxHeartbeats 64000000
namespace Go.Ab
open Go
section
variable {U U':gM} {w w':World} {Z:St} {G:Glob}
theorem RepD.less{m m':Nat→Prop}(hm:∀b,m' b→m b){x:D}{v:Value}(h:RepD w m x v):RepD w m' x v:=by
 induction h with
 |int k n=>exact .int k n
 |bool b=>exact .bool b
 |str s=>exact .str s
 |nilp=>exact .nilp
 |nilf=>exact .nilf
 |nili=>exact .nili
 |nilm=>exact .nilm
 |nils=>exact .nils
 |sl0 sz a c=>exact .sl0 sz a c
 |sl sz xs b o c vs hm' hb hc len one cell rep ih=>exact .sl sz xs b o c vs (λ h=>hm' (hm b h)) hb hc len one cell ih
 |agg cs vs len one rep ih=>exact .agg cs vs len one ih
theorem As{b:Nat}:¬M [] b:=λ ⟨i,h⟩=>by simp at h
theorem RepD.nil{x:D}{v:Value}(h:RepD w (M U) x v):RepD w (M []) x v:=h.less λ _ hb=>(As hb).elim
theorem Inv.nil(hI:Inv G U Z w):Inv G [] [] w:=by
 refine⟨rfl,λ i j b h=>by simp at h,λ i b h=>by simp at h,λ i o h=>by simp at h,λ g x h=> ?_,λ i o h=>by simp at h,λ b ⟨i,h⟩=>by simp at h⟩
 have:=hI.glob g x h
 generalize hv:Value.pointer (some ⟨g,0,none⟩)=v at this
 cases this with
 |ea _ _ b o vs hm hb one cell rep=>
  injection hv with hv;injection hv with hv;injection hv with h1 h2 h3
  subst h1
  have ho:o=0:=by omega
  subst ho
  exact .ea x 0 g 0 vs As hb one cell λ j y h1=>(rep j y h1).nil
def nR(Z:St)(a a':A):Prop:=∀(G:Glob) (U:gM) (w:World) (v:Value),Inv G U Z w→RepA U w a v→RepA [] w a' v
theorem nR.d(x:D):nR Z (.d x) (.d x):=λ G U w v _ h=>by cases h with|d h=>exact .d h.nil
theorem nR.ea(x:D)(off:Nat):nR Z (.ea x off) (.ea x off):=λ G U w v _ h=>by
 cases h with
 |ea _ _ b o vs hm hb one cell rep=>exact .ea x off b o vs As hb one cell λ j y h1=>(rep j y h1).nil
theorem BQ{x:D}{a:A}(hV:nR Z a (.d x)){v:Value}(hI:Inv G U Z w)(h:RepA U w a v):RepD w (M []) x v:=by
 have:=hV G U w v hI h
 cases this with
 |d h=>exact h
theorem nR.rs {id sz off len:Nat} {ow:Option TypeId} {cs:List A} {xs:List D} (hσ:Z[id]? =some (some (.cells cs))) (hn:xs.length=len)
  (hl:∀(i:Nat) (x:D),xs[i]? =some x→x.cells.length=sz)
  (hc:∀(i:Nat) (x:D) (j:Nat) (y:D),xs[i]? =some x→x.cells[j]? =some y→y.one=true∧∃c,cs[off+i*sz+j]? =some c∧nR Z c (.d y)):nR Z (.rs id sz off len ow) (.d (.sl sz xs)):=λ G U w v hI hv=>by
 subst hn
 rcases kB hI (aO hσ) hv with⟨b,cap,us,e,z,h1,rfl,h3,h4,h5,-⟩|⟨h1,h2,h3,rfl⟩
 ·cases xs with
  |nil=>exact .d (.sl0 sz _ cap)
  |cons x0 xt=>
   rcases hI.obj id _ hσ with⟨b',g1,us',e',g2,g3,g4⟩|⟨g1,g2⟩
   ·rw[h1]at g1;injection g1 with g1;injection g1 with g1;subst g1
    rw[h3]at g2;injection g2 with g2;injection g2 with g2 g2' g2'';subst g2
    refine .d (.sl sz _ b off cap (λ i j=>us.toList.getD (off+i*sz+j) undef) As (hI.lt id b h1) h4 hl (λ i x j y a1 a2=>(hc i x j y a1 a2).1) (λ i x j y a1 a2=> ?_) (λ i x j y a1 a2=> ?_))
    ·obtain⟨_,c,k1,k2⟩:=hc i x j y a1 a2
     obtain⟨u,b1,b2,b3⟩:=g4 _ _ k1
     rw[eR h3,b1]
     simp [List.getD,b1]
    ·obtain⟨_,c,k1,k2⟩:=hc i x j y a1 a2
     obtain⟨u,b1,b2,b3⟩:=g4 _ _ k1
     have:=BQ k2 hI b3
     simp only[List.getD,bP,b1,b9]
     exact this
   ·rw[h1]at g1;cases g1
 ·cases xs with
  |nil=>exact .d (.sl0 sz none 0)
  |cons=>simp at h3
theorem nR.ref {id off:Nat} {cs:List A} {ds:List D} (hσ:Z[id]? =some (some (.cells cs)))
  (hc:∀(j:Nat) (y:D),ds[j]? =some y→y.one=true∧∃c,cs[j]? =some c∧nR Z c (.d y)):nR Z (.ref id off) (.ea (.agg ds) off):=λ G U w v hI hv=>by
 obtain⟨b,hb,rfl⟩:=pg hI (aO hσ) hv
 rcases hI.obj id _ hσ with⟨b',g1,us,e,g2,g3,g4⟩|⟨g1,g2⟩
 ·rw[hb]at g1;injection g1 with g1;injection g1 with g1;subst g1
  have:=RepA.ea (U:=[]) (w:=w) (.agg ds) off b 0 (λ j=>us.toList.getD j undef) As (hI.lt id b hb) (λ j y h=>(hc j y h).1) (λ j y h=>by
   obtain⟨_,c,k1,k2⟩:=hc j y h
   obtain⟨u,b1,b2,b3⟩:=g4 _ _ k1
   rw[ci,eR g2,b1]
   simp [List.getD,b1]) (λ j y h=>by
   obtain⟨_,c,k1,k2⟩:=hc j y h
   obtain⟨u,b1,b2,b3⟩:=g4 _ _ k1
   have:=BQ k2 hI b3
   simp only[List.getD,bP,b1,b9]
   exact this)
  rw[ci]at this
  exact this
 ·rw[hb]at g1;cases g1
end
end Go.Ab
