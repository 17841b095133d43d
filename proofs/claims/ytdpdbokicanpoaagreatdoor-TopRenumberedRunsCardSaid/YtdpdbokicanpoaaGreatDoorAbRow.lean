import Derived.Test.YtdpdbokicanpoaaGreatDoorAbK
import Derived.Test.YtdpdbokicanpoaaGreatDoorAbMove
import Derived.Carry
import Derived.ProofKit
import Derived.LaidMore
import Derived.OpenShut
set_option linter.unusedSimpArgs false
set_option linter.unusedVariables false
set_option maxHeartbeats 64000000
namespace Go.Ab
open Go Go.RowKit Go.ChangeShapes Go.WideShapes

section
variable {H:Type} {enc:TypeId×Value→H} {P:Program} {w:World} {base:Nat} {spare:Nat→Bool} {held:Bool}

def zy(P:Program)(Fa:Nat):List Field→Nat→Bool
 |[],off=>off==Fa
 |f::r,off=>f.offset==off&&zy P Fa r (off+P.cellsOf f.type)
def ox(P:Program)(S:List TypeId):Bool:=S.all λ t=>match P.underlying t with
 |some .bool|some (.int _)|some .string=>true
 |some (.slice e)=>decide (0<P.cellsOf e)&&decide (0<P.bytesOf e)&&S.contains e
 |some (.struct fs)=>zy P (P.cellsOf t) fs.toList 0&&fs.toList.all λ f=>S.contains f.type
 |some (.array n e)=>n*P.cellsOf e==P.cellsOf t&&S.contains e
 |_=>false
def m7(P:Program):Nat→TypeId→DataW H→D
 |0,_,_=> .nilp
 |n+1,t,d=>match P.underlying t,d with
  |some .bool,.lit (.bool b)=> .bool b
  |some (.int _),.lit (.int k z)=> .int k z
  |some .string,.lit (.string s)=> .str s
  |some (.slice e),.slice es _=> .sl (P.cellsOf e) (es.map (m7 P n e))
  |some (.slice e),_=> .sl (P.cellsOf e) []
  |some (.struct fs),.agg ps=> .agg (((fs.toList.zip ps).map λ q=>(m7 P n q.1.type q.2).cells).flatten)
  |some (.array _ e),.agg ps=> .agg ((ps.map λ q=>(m7 P n e q).cells).flatten)
  |_,_=> .nilp
def iQ(P:Program)(N:Nat):Nat→TypeId→D→Prop
 |0,_,_=>False
 |n+1,t,d=>match P.underlying t with
  |some .bool=>∃b,d= .bool b
  |some (.int k)=>∃z,d= .int k z∧(Lit.int k z).wf=true
  |some .string=>∃s,d= .str s∧s.length≤N
  |some (.slice e)=>∃xs,d= .sl (P.cellsOf e) xs∧xs.length≤N∧∀x∈xs,iQ P N n e x
  |some (.struct fs)=>∃ds:List D,d= .agg (ds.map D.cells).flatten∧ds.length=fs.size∧∀(i:Nat) (f:Field) (x:D),fs[i]? =some f→ds[i]? =some x→iQ P N n f.type x
  |some (.array m e)=>∃ds:List D,d= .agg (ds.map D.cells).flatten∧ds.length=m∧∀x∈ds,iQ P N n e x
  |_=>False
structure CellsRep (w:World) (d:D) (cs:List Value):Prop where
 len:d.cells.length=cs.length
 one:∀(j:Nat) (y:D),d.cells[j]? =some y→y.one=true
 rep:∀(j:Nat) (y:D) (v:Value),d.cells[j]? =some y→cs[j]? =some v→RepD w (M []) y v
theorem CellsRep.single{d:D}{v:Value}(h1:d.one=true)(h2:RepD w (M []) d v):CellsRep w d [v]:=by
 have hc:d.cells=[d]:=by cases d<;> first|rfl|cases h1
 refine⟨by rw[hc];rfl,λ j y hy=> ?_,λ j y u hy hu=> ?_⟩
 ·rw[hc]at hy
  match j with
  |0=>simp at hy;subst hy;exact h1
  |j+1=>simp at hy
 ·rw[hc]at hy
  match j with
  |0=>simp at hy hu;subst hy;subst hu;exact h2
  |j+1=>simp at hy
theorem CellsRep.append{xs ys:List D}{cs es:List Value}(h:CellsRep w (.agg xs) cs)(k:CellsRep w (.agg ys) es):CellsRep w (.agg (xs++ys)) (cs++es):=by
 have l1:xs.length=cs.length:=h.len
 have l2:ys.length=es.length:=k.len
 refine⟨by simp [D.cells,l1,l2],λ j y hy=> ?_,λ j y v hy hv=> ?_⟩
 ·simp only[D.cells]at hy
  by_cases hj:j<xs.length
  ·rw[aq hj]at hy;exact h.one j y hy
  ·rw[az (by omega)]at hy;exact k.one _ y hy
 ·simp only[D.cells]at hy
  by_cases hj:j<xs.length
  ·rw[aq hj]at hy
   rw[aq (by omega)]at hv
   exact h.rep j y v hy hv
  ·rw[az (by omega)]at hy
   rw[az (by omega),←l1]at hv
   exact k.rep _ y v hy hv
theorem CellsRep.agg{d:D}{cs:List Value}(h:CellsRep w d cs):CellsRep w (.agg d.cells) cs:=⟨h.len,h.one,h.rep⟩

theorem add_eq(b o n:Nat):(⟨b,o,none⟩:Addr).add n=⟨b,o+n,none⟩:=by
 unfold Addr.add;split
 ·rename_i h;subst h;rfl
 ·rfl
theorem AF{n:Nat}{t:TypeId}{fs:Array Field}(hu:P.underlying t=some (.struct fs))(ps:List (DataW H)):m7 P (n+1) t (.agg ps)= .agg (((fs.toList.zip ps).map λ q=>(m7 P n q.1.type q.2).cells).flatten):=by simp only[m7,hu]
theorem nf{N:Nat}{e:TypeId}{d:DataW H}:∀{l:List (DataW H)},(DataW.weightsAll P e l).all (· ≤N)=true→(∃i:Nat,l[i]? =some d)→(d.weights P e).all (· ≤N)=true
 |[],_,⟨i,hi⟩=>by simp at hi
 |x::l,h,⟨i,hi⟩=>by
  simp only[DataW.weightsAll,List.all_append,aB]at h
  match i with
  |0=>simp at hi;subst hi;exact h.1
  |i+1=>exact nf h.2 ⟨i,by simpa using hi⟩
theorem zd(N:Nat)(S:List TypeId)(hS:ox P S=true):∀(fuel:Nat) (t:TypeId) (cs:List Value) (x:DataW H×List MemPlace),t∈S→(x.1.weights P t).all (· ≤N)=true→DataW.trod enc P w base spare held fuel t cs=some x→iQ P N fuel t (m7 P fuel t x.1)∧CellsRep w (m7 P fuel t x.1) cs
 |0,t,cs,x,_,_,h=>by simp [DataW.trod]at h
 |n+1,t,cs,x,ht,hw,h=>by
  have hc:=aZ.1 hS t ht
  split at hc
  ·rename_i hu
   obtain⟨b,rfl,rfl⟩:=DataW.trod_bool hu h
   simp only[m7,iQ,hu]
   exact⟨⟨b,rfl⟩,.single rfl (.bool b)⟩
  ·rename_i k hu
   obtain⟨z,rfl,rfl,hw'⟩:=DataW.trod_int hu h
   simp only[m7,iQ,hu]
   exact⟨⟨z,rfl,hw'⟩,.single rfl (.int k z)⟩
  ·rename_i hu
   obtain⟨s,rfl,rfl,hl⟩:=DataW.trod_string hu h
   simp only[m7,iQ,hu]
   refine⟨⟨s.data.toList,rfl,by simpa [DataW.weights]using hw⟩,.single rfl (.str s)⟩
  ·rename_i e hu
   simp only[aB,av,dv]at hc
   rcases DataW.trod_slice hu h with⟨rfl,rfl⟩|⟨a,len,cap,elems,rest,m,hm,rfl,rfl,hb,hlc,hcm,hel,hat,-,-⟩
   ·simp only[m7,iQ,hu]
    exact⟨⟨[],rfl,by simp,by simp⟩,.single rfl (.sl0 _ none 0)⟩
   ·obtain rfl:n=m:=by omega
    have each:∀(i:Nat) (y:DataW H×List MemPlace),elems[i]? =some y→∃vs,w.cells? base (a.add (i*P.cellsOf e)) (P.cellsOf e)=some vs∧iQ P N n e (m7 P n e y.1)∧CellsRep w (m7 P n e y.1) vs:=λ i y hy=>by
     have hi:i<len:=by rw[←hel];exact(aA.1 hy).1
     have:=hat i hi
     rw[hy]at this
     cases hcs:w.cells? base (a.add (i*P.cellsOf e)) (P.cellsOf e)with
     |none=>rw[hcs]at this;simp at this
     |some vs=>
      rw[hcs]at this
      simp only[Option.bind_some]at this
      have hwy:(y.1.weights P e).all (· ≤N)=true:=nf (by
       simp only[DataW.weights,hu,dH,List.all_append,aB]at hw
       exact hw.2.1) ⟨i,by rw[aN,hy];rfl⟩
      have ih:=zd N S hS n e vs y hc.2 hwy this
      exact⟨vs,rfl,ih⟩
    have hx:m7 P (n+1) t (.slice (elems.map (·.1)) (rest.map (·.1)))= .sl (P.cellsOf e) (elems.map λ y=>m7 P n e y.1):=by simp only[m7,hu,dZ];rfl
    simp only
    rw[hx]
    refine⟨?_,.single rfl ?_⟩
    ·simp only[iQ,hu]
     refine⟨_,rfl,?_,λ y hy=> ?_⟩
     ·simp only[DataW.weights,hu,dH,aB,av,ac]at hw
      rw[ac]
      exact Es (Es (Nat.le_add_right _ _) (Nat.le_mul_of_pos_right _ hc.1.2)) hw.1
     simp only[aI]at hy
     obtain⟨z,hz,rfl⟩:=hy
     obtain⟨i,hi,rfl⟩:=bF hz
     obtain⟨_,_,h2,_⟩:=each i _ (ap hi)
     exact h2
    ·cases hel0:elems with
     |nil=>simp only[bq];rw[hel0]at hel;simp at hel;subst hel;exact .sl0 _ _ _
     |cons y0 ys=>
      rw[←hel0]
      have h0:elems[0]? =some y0:=by rw[hel0];rfl
      obtain⟨vs,hvs,_,hr⟩:=each 0 y0 h0
      obtain⟨_,hl,hget⟩:=World.cells?_some hvs
      have hc1:=hc.1.1
      have hspot:a=⟨a.block,a.off,none⟩:=by
       have h1:=hget 0 hc1
       rw[ap (by omega)]at h1
       obtain⟨ab,ao,asp⟩:=a
       cases asp with
       |none=>rfl
       |some q=>
        exfalso
        unfold World.cell? at h1
        split at h1
        ·simp [Addr.add]at h1
        ·cases h1
      have hblk:a.block<w.heap.size:=by
       have:=World.cells?_block hvs hc1
       simpa [Addr.add]using this
      rw[hspot]
      have hll:len=(elems.map λ y=>m7 P n e y.1).length:=by simp [hel]
      rw[hll]
      have get:∀(i:Nat) (d:D),(elems.map λ y=>m7 P n e y.1)[i]? =some d→∃y vs,elems[i]? =some y∧d=m7 P n e y.1∧(∀j,j<P.cellsOf e→w.cell? ⟨a.block,a.off+i*P.cellsOf e+j,none⟩=vs[j]?)∧vs.length=P.cellsOf e∧CellsRep w d vs:=λ i d hd=>by
       simp only[aN,bj]at hd
       obtain⟨y,hy,rfl⟩:=hd
       obtain⟨vs,hvs,_,hr⟩:=each i y hy
       obtain⟨_,hl,hget⟩:=World.cells?_some hvs
       refine⟨y,vs,hy,rfl,λ j hj=> ?_,hl,hr⟩
       have:=hget j hj
       rw[hspot,add_eq,add_eq]at this
       exact this
      refine .sl (P.cellsOf e) _ a.block a.off cap (λ i j=>(w.cell? ⟨a.block,a.off+i*P.cellsOf e+j,none⟩).getD undef) (λ ⟨id,h⟩=>by simp at h) hblk (by rw[←hll];exact hlc) (λ i d hd=> ?_) (λ i d j y hd hy=> ?_) (λ i d j y hd hy=> ?_) (λ i d j y hd hy=> ?_)
      ·obtain⟨_,vs,_,_,_,h4,h5⟩:=get i d hd
       rw[h5.len,h4]
      ·obtain⟨_,vs,_,_,_,h4,h5⟩:=get i d hd
       exact h5.one j y hy
      ·obtain⟨_,vs,_,_,h3,h4,h5⟩:=get i d hd
       have hj:j<P.cellsOf e:=by rw[←h4,←h5.len];exact(aA.1 hy).1
       rw[h3 j hj,ap (by omega)];rfl
      ·obtain⟨_,vs,_,_,h3,h4,h5⟩:=get i d hd
       have hj:j<P.cellsOf e:=by rw[←h4,←h5.len];exact(aA.1 hy).1
       rw[h3 j hj,ap (by omega)]
       exact h5.rep j y _ hy (ap (by omega))
  ·rename_i fs hu
   simp only[aB,aZ,dv]at hc
   obtain⟨xs,m,hm,rfl,hcl,hxl,hf⟩:=DataW.trod_struct hu h
   obtain rfl:n=m:=by omega
   simp only
   rw[AF hu]
   have main:∀(fl:List Field) (yl:List (DataW H×List MemPlace)) (off:Nat),zy P (P.cellsOf t) fl off=true→(∀f∈fl,f.type∈S)→yl.length=fl.length→
     (DataW.weightsEach P (fl.map (·.type)) (yl.map (·.1))).all (· ≤N)=true→
     (∀(i:Nat) (f:Field),fl[i]? =some f→DataW.trod enc P w base spare held n f.type ((cs.drop f.offset).take (P.cellsOf f.type))=yl[i]?)→
     off≤P.cellsOf t∧CellsRep w (.agg (((fl.zip (yl.map (·.1))).map λ q=>(m7 P n q.1.type q.2).cells).flatten)) (cs.drop off)∧∀(i:Nat) (f:Field) (d:DataW H),fl[i]? =some f→(yl.map (·.1))[i]? =some d→iQ P N n f.type (m7 P n f.type d):=by
    intro fl
    induction fl with
    |nil=>
     intro yl off hl hs hy _ hat
     simp only[zy,cg]at hl
     subst hl
     refine⟨aE _,?_,λ i f d h1=>by simp at h1⟩
     rw[List.drop_of_length_le (by omega)]
     exact⟨rfl,λ j y hy=>by simp [D.cells]at hy,λ j y v hy=>by simp [D.cells]at hy⟩
    |cons f fl ih=>
     intro yl off hl hs hy hwl hat
     simp only[zy,aB,cg]at hl
     obtain⟨hoff,hl⟩:=hl
     match yl,hy with
     |y::yl,hy=>
      simp only[aM,DataW.weightsEach,List.all_append,aB]at hwl
      obtain⟨h1,h2,h3⟩:=ih yl (off+P.cellsOf f.type) hl (λ g hg=>hs g (by simp [hg])) (by simpa using hy) hwl.2 (λ i g hg=>by simpa using hat (i+1) g (by simpa using hg))
      have h0:=hat 0 f rfl
      simp only[cA]at h0
      obtain⟨k1,k2⟩:=zd N S hS n f.type _ y (hs f (by simp)) hwl.1 h0
      refine⟨by omega,?_,λ i g d hg hd=> ?_⟩
      ·simp only[aM,List.zip_cons_cons,List.flatten_cons]
       have e:cs.drop off=(cs.drop off).take (P.cellsOf f.type)++cs.drop (off+P.cellsOf f.type):=by
        rw[←List.drop_drop,ct]
       rw[e]
       rw[hoff]at k2
       exact k2.agg.append h2
      ·match i with
       |0=>simp at hg hd;subst hg;subst hd;exact k1
       |i+1=>exact h3 i g d (by simpa using hg) (by simpa using hd)
   obtain⟨_,h2,h3⟩:=main fs.toList xs 0 hc.1 (λ f hf=>by simpa using hc.2 f hf) (by simp [hxl]) (by simpa [DataW.weights,hu]using hw) (λ i f hif=>hf i f (by simpa using hif))
   rw[eB]at h2
   refine⟨?_,h2⟩
   simp only[iQ,hu]
   refine⟨(fs.toList.zip (xs.map (·.1))).map λ q=>m7 P n q.1.type q.2,by rw[dZ];rfl,by simp [hxl],λ i f x hfi hx=> ?_⟩
   simp only[aN,bj]at hx
   obtain⟨q,hq,rfl⟩:=hx
   rw[List.getElem?_zip_eq_some]at hq
   have hfi':fs.toList[i]? =some f:=by simpa using hfi
   obtain rfl:q.1=f:=Option.some.inj (hq.1.symm.trans hfi')
   exact h3 i q.1 q.2 hq.1 hq.2
  ·rename_i m e hu
   simp only[aB,cg,dv]at hc
   obtain⟨xs,k,hm,rfl,hcl,hxl,hf⟩:=DataW.trod_array hu h
   obtain rfl:n=k:=by omega
   have hx:m7 P (n+1) t (.agg (xs.map (·.1)))= .agg (((xs.map λ y=>m7 P n e y.1).map D.cells).flatten):=by simp only[m7,hu,dZ];rfl
   simp only
   rw[hx]
   have each:∀(i:Nat) (y:DataW H×List MemPlace),xs[i]? =some y→iQ P N n e (m7 P n e y.1)∧CellsRep w (m7 P n e y.1) ((cs.drop (i*P.cellsOf e)).take (P.cellsOf e)):=λ i y hy=>by
    have hi:i<m:=by rw[←hxl];exact(aA.1 hy).1
    have:=hf i hi
    rw[hy]at this
    exact zd N S hS n e _ y hc.2 (nf (by simpa only[DataW.weights,hu]using hw) ⟨i,by rw[aN,hy];rfl⟩) this
   have main:∀(yl:List (DataW H×List MemPlace)) (i0:Nat),(∀(i:Nat) (y:DataW H×List MemPlace),yl[i]? =some y→xs[i0+i]? =some y)→i0+yl.length=m→
     CellsRep w (.agg (((yl.map λ y=>m7 P n e y.1).map D.cells).flatten)) (cs.drop (i0*P.cellsOf e)):=by
    intro yl
    induction yl with
    |nil=>
     intro i0 _ hi
     simp only[aj,dY]at hi
     subst hi
     rw[List.drop_of_length_le (by rw[hcl,hc.1];exact aE _)]
     exact⟨rfl,λ j y hy=>by simp [D.cells]at hy,λ j y v hy=>by simp [D.cells]at hy⟩
    |cons y yl ih=>
     intro i0 hat hi
     simp only[ae]at hi
     have h2:=ih (i0+1) (λ i z hz=>by have:=hat (i+1) z (by simpa using hz);rwa [show i0+1+i=i0+(i+1)by omega]) (by omega)
     have k2:=(each i0 y (by simpa using hat 0 y rfl)).2
     simp only[aM,List.flatten_cons]
     have e:cs.drop (i0*P.cellsOf e)=(cs.drop (i0*P.cellsOf e)).take (P.cellsOf e)++cs.drop ((i0+1)*P.cellsOf e):=by
      rw[Nat.succ_mul,←List.drop_drop,ct]
     rw[e]
     exact k2.agg.append h2
   have h2:=main xs 0 (λ i y hy=>by rwa [ci]) (by omega)
   rw[Nat.zero_mul,eB]at h2
   refine⟨?_,h2⟩
   simp only[iQ,hu]
   refine⟨_,rfl,by simp [hxl],λ x hx=> ?_⟩
   simp only[aI]at hx
   obtain⟨y,hy,rfl⟩:=hx
   obtain⟨i,hi,rfl⟩:=bF hy
   exact(each i _ (ap hi)).1
  ·cases hc

theorem openVal{S:List TypeId}(hS:ox P S=true){r:Reach}{b0:Nat}{t:TypeId}{v:Value}{d:DataW H}{ps:List MemPlace}(ht:t∈S){N:Nat}(hN:(d.weights P t).all (· ≤N)=true)(hval:Value.okWide P w r b0 t v)(h:DataW.Trod enc P w base spare held t v d ps):
  ∃n,iQ P N n t (m7 P n t d)∧RepD w (M []) (m7 P n t d) v:=by
 obtain⟨n,h⟩:=h
 obtain⟨h1,h2⟩:=zd N S hS n t _ _ ht hN h
 simp only at h1 h2
 refine⟨n,h1,?_⟩
 have hone:∀(e:D),(m7 P n t d)=e→e.one=true→v.cells= #[v]→RepD w (M []) (m7 P n t d) v:=λ e he ho hv=>by
  rw[he]at h2 ⊢
  have hc:e.cells=[e]:=by cases e<;> first|rfl|cases ho
  refine h2.rep 0 e v (by rw[hc];rfl) (by rw[hv];rfl)
 have hagg:∀(cs:List D),(m7 P n t d)= .agg cs→(∃us,v= .agg us)→RepD w (M []) (m7 P n t d) v:=λ cs he ⟨us,hv⟩=>by
  rw[he]at h2 ⊢
  subst hv
  have:us=us.toList.toArray:=by simp
  rw[this]
  exact .agg cs us.toList h2.len h2.one h2.rep
 cases n with
 |zero=>simp [DataW.trod]at h
 |succ n=>
  have hc:=aZ.1 hS t ht
  unfold iQ at h1
  split at hc
  ·rename_i hu
   rw[hu]at h1;obtain⟨b,hb⟩:=h1
   exact hone _ hb rfl (by cases v<;> first|rfl|(simp [Value.okWide,Cell.okWide,Cell.ok,hu]at hval))
  ·rename_i k hu
   rw[hu]at h1;obtain⟨z,hb,_⟩:=h1
   exact hone _ hb rfl (by cases v<;> first|rfl|(simp [Value.okWide,Cell.okWide,Cell.ok,hu]at hval))
  ·rename_i hu
   rw[hu]at h1;obtain⟨z,hb,_⟩:=h1
   exact hone _ hb rfl (by cases v<;> first|rfl|(simp [Value.okWide,Cell.okWide,Cell.ok,hu]at hval))
  ·rename_i e hu
   rw[hu]at h1;obtain⟨z,hb,_⟩:=h1
   exact hone _ hb rfl (by cases v<;> first|rfl|(simp [Value.okWide,Cell.okWide,Cell.ok,hu]at hval))
  ·rename_i fs hu
   rw[hu]at h1;obtain⟨z,hb,_⟩:=h1
   refine hagg _ hb ?_
   simp only[Value.okWide,hu]at hval
   obtain⟨cs,rfl,_⟩:=hval
   exact⟨_,rfl⟩
  ·rename_i m e hu
   rw[hu]at h1;obtain⟨z,hb,_⟩:=h1
   refine hagg _ hb ?_
   simp only[Value.okWide,hu]at hval
   obtain⟨cs,rfl,_⟩:=hval
   exact⟨_,rfl⟩
  ·cases hc
inductive Opened (P:Program) (N:Nat) (w:World):List TypeId→List Value→List D→Prop
 |nil:Opened P N w [] [] []
 |cons {t:TypeId} {v:Value} {x:D} {ts:List TypeId} {vs:List Value} {xs:List D} (h:∃n,iQ P N n t x) (hr:RepD w (M []) x v) (hs:Opened P N w ts vs xs):Opened P N w (t::ts) (v::vs) (x::xs)
theorem B8{S:List TypeId}(hS:ox P S=true){r:Reach}{b0 N:Nat}:∀{ts:List TypeId} {vs:List Value} {ds:List (DataW H)} {ps:List MemPlace},ts.all (λ t=>S.contains t)=true→(DataW.weightsEach P ts ds).all (· ≤N)=true→
  (∀(j:Nat) t v,ts[j]? =some t→vs[j]? =some v→Value.okWide P w r b0 t v)→DataW.TrodAll enc P w base spare held ts vs ds ps→∃xs,Opened P N w ts vs xs
 |[],vs,ds,ps,_,_,_,h=>by
  obtain⟨rfl,rfl,rfl⟩:=trodAll_nil h
  exact⟨[],.nil⟩
 |t::ts,vs,ds,ps,hall,hN,hval,h=>by
  obtain⟨v,vs1,d,ds1,a,b,rfl,rfl,rfl,h1,h2⟩:=trodAll_cons h
  simp only[dH,aB,dv]at hall
  simp only[DataW.weightsEach,List.all_append,aB]at hN
  obtain⟨n,k1,k2⟩:=openVal hS hall.1 hN.1 (hval 0 t v rfl rfl) h1
  obtain⟨xs,hx⟩:=B8 hS hall.2 hN.2 (λ j t v h1 h2=>hval (j+1) t v (by simpa using h1) (by simpa using h2)) h2
  exact⟨_,.cons ⟨n,k1⟩ k2 hx⟩
theorem Opened.rep{N:Nat}{ts:List TypeId}{vs:List Value}{xs:List D}(h:Opened P N w ts vs xs):fy [] w (xs.map .d) vs:=by
 induction h with
 |nil=>exact⟨rfl,λ i x v hx=>by simp at hx⟩
 |cons _ hr _ ih=>
  refine⟨by simp [ih.1],λ i x v hx hv=> ?_⟩
  match i with
  |0=>simp at hx hv;subst hx;subst hv;exact .d hr
  |i+1=>exact ih.2 i x v (by simpa using hx) (by simpa using hv)

theorem xP{U':gM}{W W':World}(h:Ext [] W U' W'):Below W.heap.size W W':=⟨h.os,h.tape,h.output,h.size,λ k hk=>h.block k hk (λ ⟨id,hid⟩=>by simp at hid)⟩
theorem Inv.start{G:Glob}{W:World}(hG:∀(g:Nat) (x:D),G.g g=some x→RepA [] W (.ea x 0) (.pointer (some ⟨g,0,none⟩))):Inv G [] [] W:=
 ⟨rfl,λ i j b h=>by simp at h,λ i b h=>by simp at h,λ id o h=>by simp at h,hG,λ id o h=>by simp at h,λ b ⟨i,h⟩=>by simp at h⟩

theorem oJ{W W':World}{sp:Nat→Bool}(hl:laidOutB P=true)(hb:Below W.heap.size W W'):∀{ts:List TypeId} {vs:List Value} {ds:List (DataW H)} {ps:List MemPlace},ts.all (λ t=>P.readableRec t&&decide (t<P.types.size))=true→
  (∀x∈ps,x.block<W.heap.size)→(∀x∈ps,sp x.block=true)→DataW.TrodAll enc P W 0 (λ _=>true) true ts vs ds ps→DataW.TrodAll enc P W' 0 sp true ts vs ds ps
 |[],vs,ds,ps,_,_,_,h=>by
  obtain⟨rfl,rfl,rfl⟩:=trodAll_nil h
  rfl
 |t::ts,vs,ds,ps,hall,hlt,hsp,h=>by
  obtain⟨v,vs1,d,ds1,a,b,rfl,rfl,rfl,h1,h2⟩:=trodAll_cons h
  simp only[dH,aB,av]at hall
  exact trodAll_cons_mk (WideElems.Trod_stays hl hall.1.1 hall.1.2 h1 (λ x hx=>hb.same (hlt x (by simp [hx]))) (λ x hx=>hsp x (by simp [hx])))
   (oJ hl hb hall.2 (λ x hx=>hlt x (by simp [hx])) (λ x hx=>hsp x (by simp [hx])) h2)
theorem CX {f:Func} {s:ChangeSpec} {apart fresh handsOn again:Bool} {W W':World} {args:Array Value} {ds gs:List (DataW H)} {before:List MemPlace} {tb:TypeId}
  (hW:DataW.Whole enc P f.params.toList s.vars apart W args.toList ds gs before) (hb:Below W.heap.size W W') (hl:laidOutB P=true) (hall:f.params.toList.all (λ t=>P.readableRec t&&decide (t<P.types.size))=true)
  (hv:s.vars=[]) (hr:f.resultTypes= #[tb]) (ht:P.underlying tb=some .bool) (hfn:s.fn H ds={ results:=[.lit (.bool true)],args:=ds}):s.post enc P f apart fresh handsOn again W args (.bool true) W':=by
 have hlt:=hW.lt
 obtain⟨p,q,hA,hV,rfl,hz,hn⟩:=hW
 rw[hv]at hV
 obtain⟨rfl,rfl⟩:=trodVars_none hV
 have hfn':s.fn H (ds++[])={ results:=[.lit (.bool true)],args:=ds}:=by rw[bt];exact hfn
 simp only[bt]at hlt hz hn
 have hargs:∀sp:Nat→Bool,(∀x∈p,sp x.block=true)→DataW.TrodAll enc P W' 0 sp true f.params.toList args.toList ds p:=λ sp hsp=>oJ hl hb hall hlt hsp hA
 have hres:∀(b:Nat) (sp:Nat→Bool) (hd:Bool),DataW.TrodAll enc P W' b sp hd f.resultTypes.toList (Value.resultList f.resultTypes.size (.bool true)) [.lit (.bool true)] []:=λ b sp hd=>by
  rw[hr];exact trodAll_mk1 (shut_bool ht true)
 refine⟨ds,[],p++[],[],p,[],⟨p,[],hA,by rw[hv];exact hV,rfl,by simpa using hz,by simpa using hn⟩,?_,?_,?_,?_,λ _=>⟨?_,?_⟩⟩
 ·rw[hfn'];exact hres _ _ _
 ·rw[hfn'];exact hargs _ λ x hx=>by simpa using hlt x hx
 ·rw[hfn',hv];rfl
 ·exact hb.frame _
 ·intro j t r h1 h2
  rw[hr]at h1 h2
  match j with
  |0=>simp [Value.resultList]at h1 h2;subst h1;subst h2;exact okWide_bool_mk ht true
  |j+1=>simp at h1
 ·refine⟨_,[],([]++p)++[],⟨[]++p,[],trodAll_append (hargs _ λ _ _=>rfl) (hres 0 _ true),by rw[hv];rfl,rfl,?_,?_⟩,?_⟩
  ·intro b off hp
   have hp':MemPlace.cell b off∈p:=by simpa using hp
   rw[hb.frozen (hlt _ hp')]
   exact hz b off hp'
  ·intro ha;simpa using hn ha
  ·intro x hx _;simpa using hx
theorem BA {f:FuncId} {fn:Func} {G:Glob} {s:ChangeSpec} {apart fresh handsOn again:Bool} {W:World} {args:Array Value} {ds gs:List (DataW H)} {before:List MemPlace} {tb:TypeId} {S:List TypeId} {b0:Nat} {r:Reach}
  (hW:DataW.Whole enc P fn.params.toList s.vars apart W args.toList ds gs before) (hval:∀(j:Nat) t v,fn.params[j]? =some t→args[j]? =some v→Value.okWide P W r b0 t v)
  (hl:laidOutB P=true) (hall:fn.params.toList.all (λ t=>P.readableRec t&&decide (t<P.types.size))=true) (hS:ox P S=true) (hSp:fn.params.toList.all (λ t=>S.contains t)=true)
  (hv:s.vars=[]) (hr:fn.resultTypes= #[tb]) (ht:P.underlying tb=some .bool) (hfn:∀ds:List (DataW H),ds.length=fn.params.size→s.fn H ds={ results:=[.lit (.bool true)],args:=ds})
  (hG:∀(g:Nat) (x:D),G.g g=some x→RepA [] W (.ea x 0) (.pointer (some ⟨g,0,none⟩)))
  (hz:(DataW.weightsEach P (fn.params.toList++s.plain.varTypes P) (ds++gs)).all (· ≤reachBytes)=true)
  (hac:∀xs,Opened P reachBytes W fn.params.toList args.toList xs→AC P G f (xs.map .d) [] λ r _=>r= .d (.bool true)) (hp:∀a s,¬G.pan a s:=by exactλ _ _ h=>h):
  Calls P f args W λ e W'=>∃v,e= .returned v∧s.post enc P fn apart fresh handsOn again W args v W':=by
 obtain⟨p,q,hA,hV,rfl,hzz,hn⟩:=hW
 have hV':=hV
 rw[hv]at hV'
 obtain⟨rfl,-⟩:=trodVars_none hV'
 have happ:∀(ts us:List TypeId) (ds:List (DataW H)),ds.length=ts.length→DataW.weightsEach P (ts++us) ds=DataW.weightsEach P ts ds:=by
  intro ts
  induction ts with
  |nil=>intro us ds h;obtain rfl:=bz h;cases us<;> rfl
  |cons t ts ih=>
   intro us ds h
   match ds,h with
   |d::ds,h=>simp only[ah,DataW.weightsEach,ih us ds (by simpa using h)]
 have hlen:∀{ts:List TypeId} {vs:List Value} {ds:List (DataW H)} {ps:List MemPlace},DataW.TrodAll enc P W 0 (λ _=>true) true ts vs ds ps→ds.length=ts.length:=by
  intro ts
  induction ts with
  |nil=>intro vs ds ps h;obtain⟨rfl,rfl,rfl⟩:=trodAll_nil h;rfl
  |cons t ts ih=>intro vs ds ps h;obtain⟨v,vs1,d,ds1,a,b,rfl,rfl,rfl,h1,h2⟩:=trodAll_cons h;simp [ih h2]
 rw[bt,happ _ _ _ (hlen hA)]at hz
 obtain⟨xs,hx⟩:=B8 hS hSp hz (λ j t v h1 h2=>hval j t v (by simpa using h1) (by simpa using h2)) hA
 have:=(hac xs hx).2 [] W args.toList (Inv.start hG) hx.rep
 simp only[Array.toArray_toList]at this
 refine this.mono ?_
 rintro e W' (⟨v,U',Z',r,rfl,h1,h2,h3,rfl⟩|⟨_,_,_,_,_,_,_,_,_,_,h⟩)
 case inr=>exact(hp _ _ h).elim
 have hv':v= .bool true:=g8 h3
 subst hv'
 exact⟨_,rfl,CX ⟨p,q,hA,hV,rfl,hzz,hn⟩ (xP h1) hl hall hv hr ht (hfn ds (by rw[hlen hA];simp))⟩
theorem laid_ea {W:World} {S:List TypeId} (hS:ox P S=true) {nm:String} {g:Nat} {t:TypeId} {cs:Array Value} {fuel:Nat} {d:DataW H} {p:List MemPlace} (ht:t∈S) (hg:P.globalNamed nm=some g) (hv:W.var? P nm=some cs)
  (h:DataW.trod enc P W base spare held fuel t cs.toList=some (d,p)) (m:Nat):RepA [] W (.ea (m7 P (fuel+m) t d) 0) (.pointer (some ⟨g,0,none⟩)):=by
 have h':DataW.trod enc P W base spare held (fuel+m) t cs.toList=some (d,p):=DataW.trod_le (Nat.le_add_right _ _) h
 have hN:(d.weights P t).all (· ≤(d.weights P t).sum)=true:=by
  have key:∀(l:List Nat) (x:Nat),x∈l→x≤l.sum:=by
   intro l
   induction l with
   |nil=>intro x hx;simp at hx
   |cons a l ih=>
    intro x hx
    rw[Ey]
    rcases aV.1 hx with rfl|hx
    ·omega
    ·have:=ih x hx;omega
  rw[aZ]
  intro x hx
  simpa using key _ x hx
 obtain⟨-,h2⟩:=zd _ S hS _ t _ _ ht hN h'
 have hb:g<W.heap.size:=by
  unfold World.var? at hv
  rw[hg]at hv
  simp only[Option.bind_some]at hv
  cases hh:W.heap[g]? with
  |none=>rw[hh]at hv;cases hv
  |some o=>exact(cL.1 hh).1
 have hc:∀j:Nat,W.cell? ⟨g,0+j,none⟩=cs.toList[j]? :=λ j=>by
  have:=World.var?_cell hg hv j
  rw[ci]
  simpa using this
 simp only at h2
 refine .ea _ 0 g 0 (λ j=>cs.toList.getD j undef) (λ ⟨id,h⟩=>by simp at h) hb h2.one (λ j y hy=> ?_) (λ j y hy=> ?_)
 ·have hj:j<cs.toList.length:=by rw[←h2.len];exact(aA.1 hy).1
  rw[hc j,ap hj]
  simp [List.getD,ap hj]
 ·have hj:j<cs.toList.length:=by rw[←h2.len];exact(aA.1 hy).1
  have:=h2.rep j y _ hy (ap hj)
  simpa [List.getD,ap hj]using this
end
end Go.Ab
