import Derived.Test.YtdpdbokicanpoaaGreatDoorAbK
import Derived.WalkKit
import Derived.KernelRfl
set_option linter.unusedSimpArgs false
set_option linter.unusedVariables false
set_option maxHeartbeats 64000000
namespace Go.Ab
open Go

inductive D where
  |int (k:IntKind) (n:Int)
  |bool (b:Bool)
  |str (s:List UInt8)
  |nilp|nilf|nili|nilm|nils
  |sl (sz:Nat) (xs:List D)
  |agg (cs:List D)
instance:Inhabited D:=⟨.nilp⟩
def D.cells:D→List D
  | .agg cs=>cs
  |d=>[d]
def D.one:D→Bool
  | .agg _=>false
  |_=>true

inductive A where
  |d (x:D)
  |ea (x:D) (off:Nat)
  |ref (id off:Nat)
  |rs (id sz off len:Nat) (o:Option TypeId)
  |agg (cs:List A)
  |fn (f:Fn) (first captured:List A)
  |ifc (t:TypeId) (a:A)
  |tup (as:List A)
  |mapr (id:Nat)
  |grd (c:Bool) (a:A)
  |o
instance:Inhabited A:=⟨.o⟩
abbrev D3 (l:List A):List A:= .o::.o::.o::.o::l
abbrev D4 (l:List A):List A:=D3 (D3 l)
abbrev D5 (l:List A):List A:=D4 (D4 l)
abbrev D6 (l:List A):List A:=D5 (D5 l)
abbrev D7 (l:List A):List A:=D6 (D6 l)
attribute [go_sem] D3 D4 D5 D6 D7

inductive Ob where
  |cells (cs:List A)
  |map (es:List (D×A))
  |lp (l:Nat) (r:Loop) (fr:List A)

inductive Rs where
  |dead|empty|live (b:Nat)
abbrev gM:=List Rs
abbrev St:=List (Option Ob)
abbrev Fr:=List A

def M(U:gM)(b:Nat):Prop:=∃id:Nat,U[id]? =some (.live b)

inductive RepD (w:World) (m:Nat→Prop):D→Value→Prop
  |int (k:IntKind) (n:Int):RepD w m (.int k n) (.int k n)
  |bool (b:Bool):RepD w m (.bool b) (.bool b)
  |str (s:ByteArray):RepD w m (.str s.data.toList) (.string s)
  |nilp:RepD w m .nilp (.pointer none)
  |nilf:RepD w m .nilf .nilFunc
  |nili:RepD w m .nili .nilIface
  |nilm:RepD w m .nilm (.map none)
  |nils:RepD w m .nils (.slice none 0 0)
  |sl0 (sz:Nat) (a:Option Addr) (c:Nat):RepD w m (.sl sz []) (.slice a 0 c)
  |sl (sz:Nat) (xs:List D) (b o c:Nat) (vs:Nat→Nat→Value) (hm:¬m b) (hb:b<w.heap.size) (hc:xs.length≤c)
      (len:∀(i:Nat) (x:D),xs[i]? =some x→x.cells.length=sz)
      (one:∀(i:Nat) (x:D) (j:Nat) (y:D),xs[i]? =some x→x.cells[j]? =some y→y.one=true)
      (cell:∀(i:Nat) (x:D) (j:Nat) (y:D),xs[i]? =some x→x.cells[j]? =some y→w.cell? ⟨b,o+i*sz+j,none⟩=some (vs i j))
      (rep:∀(i:Nat) (x:D) (j:Nat) (y:D),xs[i]? =some x→x.cells[j]? =some y→RepD w m y (vs i j)):
      RepD w m (.sl sz xs) (.slice (some ⟨b,o,none⟩) xs.length c)
  |agg (cs:List D) (vs:List Value) (len:cs.length=vs.length)
      (one:∀(i:Nat) (x:D),cs[i]? =some x→x.one=true)
      (rep:∀(i:Nat) (x:D) (v:Value),cs[i]? =some x→vs[i]? =some v→RepD w m x v):RepD w m (.agg cs) (.agg vs.toArray)

inductive RepA (U:gM) (w:World):A→Value→Prop
  |d {x:D} {v:Value} (h:RepD w (M U) x v):RepA U w (.d x) v
  |ea (x:D) (off b o:Nat) (vs:Nat→Value) (hm:¬M U b) (hb:b<w.heap.size)
      (one:∀(j:Nat) (y:D),x.cells[j]? =some y→y.one=true)
      (cell:∀(j:Nat) (y:D),x.cells[j]? =some y→w.cell? ⟨b,o+j,none⟩=some (vs j))
      (rep:∀(j:Nat) (y:D),x.cells[j]? =some y→RepD w (M U) y (vs j)):RepA U w (.ea x off) (.pointer (some ⟨b,o+off,none⟩))
  |ref {id b:Nat} (off:Nat) (h:U[id]? =some (.live b)):RepA U w (.ref id off) (.pointer (some ⟨b,off,none⟩))
  |refDead {id:Nat} (off:Nat) (v:Value) (h:U[id]? =some .dead):RepA U w (.ref id off) v
  |rs {id b sz off len cap e:Nat} {z:Nat×Nat} {vs:Array Value} {ow:Option TypeId} (h:U[id]? =some (.live b)) (hb:w.heap[b]? =some (.cells vs e z)) (hc:len≤cap) (hs:off+cap*sz≤vs.size)
      (ho:∀e',ow=some e'→e'=e∧off=0∧vs.size=cap*sz∧cap≤maxLen):
      RepA U w (.rs id sz off len ow) (.slice (some ⟨b,off,none⟩) len cap)
  |rsEmpty {id:Nat} (sz:Nat) (ow:Option TypeId) (h:U[id]? =some .empty):RepA U w (.rs id sz 0 0 ow) (.slice none 0 0)
  |rsDead {id:Nat} (sz off len:Nat) (ow:Option TypeId) (v:Value) (h:U[id]? =some .dead):RepA U w (.rs id sz off len ow) v
  |mapr {id b:Nat} (h:U[id]? =some (.live b)):RepA U w (.mapr id) (.map (some b))
  |mapDead {id:Nat} (b:Nat) (h:U[id]? =some .dead):RepA U w (.mapr id) (.map (some b))
  |agg (cs:List A) (vs:List Value) (len:cs.length=vs.length) (one:∀(i:Nat) (v:Value),vs[i]? =some v→v.oneCell'=true)
      (rep:∀(i:Nat) (x:A) (v:Value),cs[i]? =some x→vs[i]? =some v→RepA U w x v):RepA U w (.agg cs) (.agg vs.toArray)
  |tup (cs:List A) (vs:List Value) (len:cs.length=vs.length)
      (rep:∀(i:Nat) (x:A) (v:Value),cs[i]? =some x→vs[i]? =some v→RepA U w x v):RepA U w (.tup cs) (.tuple vs.toArray)
  |fn (f:Fn) (cs ds:List A) (vs us:List Value) (len:cs.length=vs.length) (len':ds.length=us.length)
      (rep:∀(i:Nat) (x:A) (v:Value),cs[i]? =some x→vs[i]? =some v→RepA U w x v)
      (rep':∀(i:Nat) (x:A) (v:Value),ds[i]? =some x→us[i]? =some v→RepA U w x v):RepA U w (.fn f cs ds) (.func f vs.toArray us.toArray)
  |ifc (t:TypeId) {a:A} {v:Value} (h:RepA U w a v):RepA U w (.ifc t a) (.iface t v)
  |grd (c:Bool) {a:A} {v:Value} (h:c=true→RepA U w a v) (h':c=false→v=undef):RepA U w (.grd c a) v
  |o (v:Value):RepA U w .o v

def fy(U:gM)(w:World)(xs:List A)(vs:List Value):Prop:=
  xs.length=vs.length∧∀(i:Nat) (x:A) (v:Value),xs[i]? =some x→vs[i]? =some v→RepA U w x v

structure Ext (U:gM) (w:World) (U':gM) (w':World):Prop where
  os:w'.os=w.os
  tape:w'.tape=w.tape
  output:w'.output=w.output
  size:w.heap.size≤w'.heap.size
  len:U.length≤U'.length
  ids:∀(id:Nat) (r:Rs),U[id]? =some r→U'[id]? =some r∨U'[id]? =some .dead
  fresh:∀b,M U' b→b<w.heap.size→M U b
  block:∀b,b<w.heap.size→¬M U b→w'.heap[b]? =w.heap[b]?
  shape:∀(b:Nat) (vs:Array Value) (e:TypeId) (z:Nat×Nat),w.heap[b]? =some (.cells vs e z)→∃vs',w'.heap[b]? =some (.cells vs' e z)∧vs'.size=vs.size

theorem Ext.refl(U:gM)(w:World):Ext U w U w:=
  ⟨rfl,rfl,rfl,aE _,aE _,λ _ _ h=> .inl h,λ _ h _=>h,λ _ _ _=>rfl,λ _ vs _ _ h=>⟨vs,h,rfl⟩⟩

theorem Ext.trans{U U' U'':gM}{w w' w'':World}(h:Ext U w U' w')(k:Ext U' w' U'' w''):Ext U w U'' w'' where
  os:=k.os.trans h.os
  tape:=k.tape.trans h.tape
  output:=k.output.trans h.output
  size:=Es h.size k.size
  len:=Es h.len k.len
  ids:=λ id r hr=>by
    rcases h.ids id r hr with h1|h1
    · exact k.ids id r h1
    · rcases k.ids id .dead h1 with h2|h2<;> exact .inr h2
  fresh:=λ b hb hlt=>h.fresh b (k.fresh b hb (cQ hlt h.size)) hlt
  block:=λ b hlt hm=>(k.block b (cQ hlt h.size) (λ hm'=>hm (h.fresh b hm' hlt))).trans (h.block b hlt hm)
  shape:=λ b vs e z hb=>by
    obtain⟨vs',h1,h2⟩:=h.shape b vs e z hb
    obtain⟨vs'',h3,h4⟩:=k.shape b vs' e z h1
    exact⟨vs'',h3,h4.trans h2⟩

theorem RepD.ext{U U':gM}{w w':World}{x:D}{v:Value}(h:RepD w (M U) x v)(hx:Ext U w U' w'):RepD w' (M U') x v:=by
  induction h with
  |int k n=>exact .int k n
  |bool b=>exact .bool b
  |str s=>exact .str s
  |nilp=>exact .nilp
  |nilf=>exact .nilf
  |nili=>exact .nili
  |nilm=>exact .nilm
  |nils=>exact .nils
  |sl0 sz a c=>exact .sl0 sz a c
  |sl sz xs b o c vs hm hb hc len one cell rep ih=>
    exact .sl sz xs b o c vs (λ h=>hm (hx.fresh b h hb)) (cQ hb hx.size) hc len one
      (λ i x j y h1 h2=>by rw[←cell i x j y h1 h2];exact World.cell?_of_block (hx.block b hb hm)) ih
  |agg cs vs len one rep ih=>exact .agg cs vs len one ih

theorem RepA.ext{U U':gM}{w w':World}{x:A}{v:Value}(h:RepA U w x v)(hx:Ext U w U' w'):RepA U' w' x v:=by
  induction h with
  |d h=>exact .d (h.ext hx)
  |ea x off b o vs hm hb one cell rep=>
    exact .ea x off b o vs (λ h=>hm (hx.fresh b h hb)) (cQ hb hx.size) one
      (λ j y h1=>by rw[←cell j y h1];exact World.cell?_of_block (hx.block b hb hm)) (λ j y h1=>(rep j y h1).ext hx)
  |ref off h=>
                 rcases hx.ids _ _ h with h1|h1
                 · exact .ref off h1
                 · exact .refDead off _ h1
  |refDead off v h=>rcases hx.ids _ _ h with h1|h1<;> exact .refDead off v h1
  |rs h hb hc hs ho=>
    obtain⟨vs',h2,h3⟩:=hx.shape _ _ _ _ hb
    rcases hx.ids _ _ h with h1|h1
    · exact .rs h1 h2 hc (by rw[h3];exact hs) (λ e' he=>by rw[h3];exact ho e' he)
    · exact .rsDead _ _ _ _ _ h1
  |rsEmpty sz ow h=>
                       rcases hx.ids _ _ h with h1|h1
                       · exact .rsEmpty sz ow h1
                       · exact .rsDead _ _ _ _ _ h1
  |rsDead sz off len ow v h=>rcases hx.ids _ _ h with h1|h1<;> exact .rsDead sz off len ow v h1
  |mapr h=>
              rcases hx.ids _ _ h with h1|h1
              · exact .mapr h1
              · exact .mapDead _ h1
  |mapDead v h=>rcases hx.ids _ _ h with h1|h1<;> exact .mapDead v h1
  |agg cs vs len one rep ih=>exact .agg cs vs len one ih
  |tup cs vs len rep ih=>exact .tup cs vs len ih
  |fn f cs ds vs us len len' rep rep' ih ih'=>exact .fn f cs ds vs us len len' ih ih'
  |ifc t h ih=>exact .ifc t ih
  |grd c h h' ih=>exact .grd c ih h'
  |o v=>exact .o v

theorem fy.ext{U U':gM}{w w':World}{xs:List A}{vs:List Value}(h:fy U w xs vs)(hx:Ext U w U' w'):fy U' w' xs vs:=
  ⟨h.1,λ i x v h1 h2=>(h.2 i x v h1 h2).ext hx⟩

mutual
def A.bd(n:Nat):A→Bool
  | .d _=>true
  | .ea _ _=>true
  | .ref id _=>decide (id<n)
  | .rs id _ _ _ _=>decide (id<n)
  | .mapr id=>decide (id<n)
  | .agg cs=>jo n cs
  | .tup cs=>jo n cs
  | .fn _ cs ds=>jo n cs&&jo n ds
  | .ifc _ a=>a.bd n
  | .grd _ _=>false
  | .o=>true
def jo(n:Nat):List A→Bool
  |[]=>true
  |a::r=>a.bd n&&jo n r
end
theorem gl{n:Nat}:∀{l:List A},jo n l=true→∀(i:Nat) (x:A),l[i]? =some x→x.bd n=true
  |[],_,i,x,h=>by simp at h
  |a::l,h,i,x,hx=>by
    simp only[jo,aB]at h
    match i with
    |0=>simp at hx;subst hx;exact h.1
    |i+1=>exact gl h.2 i x (by simpa using hx)
theorem gI{n:Nat}:∀{l:List A},(∀x∈l,x.bd n=true)→jo n l=true
  |[],_=>rfl
  |a::l,h=>by
    simp only[jo,aB]
    exact⟨h a (by simp),gI λ x hx=>h x (by simp [hx])⟩
theorem gD{n:Nat}{l:List A}(h:jo n l=true):∀x∈l,x.bd n=true:=λ x hx=>by
  obtain⟨i,hi,rfl⟩:=bF hx
  exact gl h i _ (ap hi)
theorem BF{n:Nat}{l m:List A}(h:jo n l=true)(k:jo n m=true):jo n (l++m)=true:=
  gI λ x hx=>by rcases aW.1 hx with hx|hx;exact gD h x hx;exact gD k x hx
mutual
theorem A.bd_mono{n m:Nat}(h:n≤m):∀(a:A),a.bd n=true→a.bd m=true
  | .d _,_=>rfl
  | .ea _ _,_=>rfl
  | .ref id _,hb=>by simp only[A.bd,av]at hb ⊢;omega
  | .rs id _ _ _ _,hb=>by simp only[A.bd,av]at hb ⊢;omega
  | .mapr id,hb=>by simp only[A.bd,av]at hb ⊢;omega
  | .agg cs,hb=>by simp only[A.bd]at hb ⊢;exact gW h cs hb
  | .tup cs,hb=>by simp only[A.bd]at hb ⊢;exact gW h cs hb
  | .fn _ cs ds,hb=>by simp only[A.bd,aB]at hb ⊢;exact⟨gW h cs hb.1,gW h ds hb.2⟩
  | .ifc _ a,hb=>by simp only[A.bd]at hb ⊢;exact A.bd_mono h a hb
  | .grd _ _,hb=>by simp [A.bd]at hb
  | .o,_=>rfl
theorem gW{n m:Nat}(h:n≤m):∀(l:List A),jo n l=true→jo m l=true
  |[],_=>rfl
  |a::l,hb=>by simp only[jo,aB]at hb ⊢;exact⟨A.bd_mono h a hb.1,gW h l hb.2⟩
end
theorem RepA.cut{U U':gM}{w:World}{x:A}{v:Value}{n:Nat}(h:RepA U w x v)(hn:∀i,i<n→U'[i]? =U[i]?)(hm:∀b,M U' b→M U b):x.bd n=true→RepA U' w x v:=by
  have hd:∀{y:D} {u:Value},RepD w (M U) y u→RepD w (M U') y u:=λ {y u} h=>by
    induction h with
    |int k n=>exact .int k n
    |bool b=>exact .bool b
    |str s=>exact .str s
    |nilp=>exact .nilp
    |nilf=>exact .nilf
    |nili=>exact .nili
    |nilm=>exact .nilm
    |nils=>exact .nils
    |sl0 sz a c=>exact .sl0 sz a c
    |sl sz xs b o c vs hm' hb hc len one cell rep ih=>exact .sl sz xs b o c vs (λ h=>hm' (hm b h)) hb hc len one cell ih
    |agg cs vs len one rep ih=>exact .agg cs vs len one ih
  induction h with
  |d h=>exactλ _=> .d (hd h)
  |ea x off b o vs hm' hb one cell rep=>exactλ _=> .ea x off b o vs (λ h=>hm' (hm b h)) hb one cell (λ j y h1=>hd (rep j y h1))
  |ref off h=>intro hb;simp only[A.bd,av]at hb;exact .ref off ((hn _ hb).trans h)
  |refDead off v h=>intro hb;simp only[A.bd,av]at hb;exact .refDead off v ((hn _ hb).trans h)
  |rs h hb hc hs ho=>intro hb';simp only[A.bd,av]at hb';exact .rs ((hn _ hb').trans h) hb hc hs ho
  |rsEmpty sz ow h=>intro hb;simp only[A.bd,av]at hb;exact .rsEmpty sz ow ((hn _ hb).trans h)
  |rsDead sz off len ow v h=>intro hb;simp only[A.bd,av]at hb;exact .rsDead sz off len ow v ((hn _ hb).trans h)
  |mapr h=>intro hb;simp only[A.bd,av]at hb;exact .mapr ((hn _ hb).trans h)
  |mapDead v h=>intro hb;simp only[A.bd,av]at hb;exact .mapDead v ((hn _ hb).trans h)
  |agg cs vs len one rep ih=>intro hb;simp only[A.bd]at hb;exact .agg cs vs len one λ i x v h1 h2=>ih i x v h1 h2 (gl hb i x h1)
  |tup cs vs len rep ih=>intro hb;simp only[A.bd]at hb;exact .tup cs vs len λ i x v h1 h2=>ih i x v h1 h2 (gl hb i x h1)
  |fn f cs ds vs us len len' rep rep' ih ih'=>
    intro hb;simp only[A.bd,aB]at hb
    exact .fn f cs ds vs us len len' (λ i x v h1 h2=>ih i x v h1 h2 (gl hb.1 i x h1)) (λ i x v h1 h2=>ih' i x v h1 h2 (gl hb.2 i x h1))
  |ifc t h ih=>intro hb;simp only[A.bd]at hb;exact .ifc t (ih hb)
  |grd c h h' ih=>intro hb;simp [A.bd]at hb
  |o v=>exactλ _=> .o v

def Ob.bd(n:Nat):Ob→Bool
  | .cells cs=>jo n cs
  | .map es=>es.all λ e=>e.2.bd n
  | .lp _ _ fr=>jo n fr
theorem Ob.bd_mono{n m:Nat}(h:n≤m):∀(o:Ob),o.bd n=true→o.bd m=true
  | .cells cs,hb=>gW h cs hb
  | .map es,hb=>by
    simp only[Ob.bd,aZ]at hb ⊢
    exactλ e he=>A.bd_mono h _ (hb e he)
  | .lp _ _ fr,hb=>gW h fr hb
def Bd(n:Nat)(Z:St):Prop:=∀(id:Nat) (o:Ob),Z[id]? =some (some o)→o.bd n=true

def mP(U:gM)(w:World):Ob→Nat→Prop
  | .cells cs,b=>∃vs e,w.heap[b]? =some (.cells vs e (0,0))∧cs.length≤vs.size∧
      ∀(i:Nat) (x:A),cs[i]? =some x→∃v,vs[i]? =some v∧v.oneCell'=true∧RepA U w x v
  | .map es,b=>∃ms clock,w.heap[b]? =some (.map ms clock)∧es.length=ms.size∧
      ∀(i:Nat) (x:D×A) (m:MapEntry),es[i]? =some x→ms[i]? =some m→RepD w (M U) x.1 m.key∧RepA U w x.2 m.val
  | .lp l r fr,b=>b=l∧w.heap[b]? =some (.loop r)∧fy U w fr r.tmps.toList

structure Glob where
  g:Nat→Option D
  pan:A→St→Prop

structure Inv (G:Glob) (U:gM) (Z:St) (w:World):Prop where
  len:U.length=Z.length
  inj:∀(i j b:Nat),U[i]? =some (.live b)→U[j]? =some (.live b)→i=j
  lt:∀(i b:Nat),U[i]? =some (.live b)→b<w.heap.size
  obj:∀(id:Nat) (o:Ob),Z[id]? =some (some o)→(∃b,U[id]? =some (.live b)∧mP U w o b)∨(U[id]? =some .empty∧o= .cells [])
  glob:∀(g:Nat) (x:D),G.g g=some x→RepA U w (.ea x 0) (.pointer (some ⟨g,0,none⟩))
  bd:Bd Z.length Z
  own:∀b,M U b→∀ds,w.heap[b]?≠some (.deferred ds)

def Glob.calm(G:Glob):Glob:=⟨G.g,λ _ _=>False⟩
theorem Inv.turn{G G':Glob}{U:gM}{Z:St}{w:World}(h:Inv G U Z w)(e:G'.g=G.g):Inv G' U Z w:=⟨h.len,h.inj,h.lt,h.obj,by rw[e];exact h.glob,h.bd,h.own⟩

end Go.Ab
