import Derived.Test.YtdpdbokicanpoaaGreatDoorAbK
import Derived.Test.YtdpdbokicanpoaaGreatDoorAbDeep
set_option linter.unusedSimpArgs false
set_option linter.unusedVariables false
set_option maxHeartbeats 64000000
namespace Go.Ab
open Go Go.RowKit

mutual
inductive NilD:D→D→Prop
 |refl (x:D):NilD x x
 |nil (sz:Nat):NilD .nils (.sl sz [])
 |sl (sz:Nat) {xs ys:List D} (h:NilDL xs ys):NilD (.sl sz xs) (.sl sz ys)
 |agg {xs ys:List D} (h:NilDL xs ys):NilD (.agg xs) (.agg ys)
inductive NilDL:List D→List D→Prop
 |nil:NilDL [] []
 |cons {x y:D} {xs ys:List D} (h:NilD x y) (hs:NilDL xs ys):NilDL (x::xs) (y::ys)
end
inductive NilA:A→A→Prop
 |refl (a:A):NilA a a
 |d {x y:D} (h:NilD x y):NilA (.d x) (.d y)
inductive NilAL:List A→List A→Prop
 |nil:NilAL [] []
 |cons {x y:A} {xs ys:List A} (h:NilA x y) (hs:NilAL xs ys):NilAL (x::xs) (y::ys)
section
variable {U U':gM} {w w':World} {Z:St} {G:Glob} {n0:Nat} {l:St}
theorem NilDL.refl:∀xs:List D,NilDL xs xs
 |[]=> .nil
 |x::xs=> .cons (.refl x) (NilDL.refl xs)
theorem NilDL.len{xs ys:List D}(h:NilDL xs ys):xs.length=ys.length:=by
 cases h with
 |nil=>rfl
 |cons _ hs=>simp only[ae,NilDL.len hs]
theorem NilDL.at{xs ys:List D}(h:NilDL xs ys):∀{i:Nat} {y:D},ys[i]? =some y→∃x,xs[i]? =some x∧NilD x y:=by
 intro i y hy
 cases h with
 |nil=>simp at hy
 |cons h hs=>
  match i with
  |0=>simp at hy;subst hy;exact⟨_,rfl,h⟩
  |i+1=>exact NilDL.at hs (by simpa using hy)
theorem NilD.cells{x y:D}(h:NilD x y):NilDL x.cells y.cells:=by
 cases h with
 |refl=>exact .refl _
 |nil sz=>exact .cons (.nil sz) .nil
 |sl sz h=>exact .cons (.sl sz h) .nil
 |agg h=>exact h
theorem NilD.one{x y:D}(h:NilD x y):x.one=y.one:=by cases h<;> rfl
theorem RepD.nilD{m:Nat→Prop}{x:D}{v:Value}(h:RepD w m x v):∀{y:D},NilD x y→RepD w m y v:=by
 induction h with
 |int k n=>intro y hy;cases hy;exact .int k n
 |bool b=>intro y hy;cases hy;exact .bool b
 |str s=>intro y hy;cases hy;exact .str s
 |nilp=>intro y hy;cases hy;exact .nilp
 |nilf=>intro y hy;cases hy;exact .nilf
 |nili=>intro y hy;cases hy;exact .nili
 |nilm=>intro y hy;cases hy;exact .nilm
 |nils=>intro y hy;cases hy with
  |refl=>exact .nils
  |nil sz=>exact .sl0 sz none 0
 |sl0 sz a c=>intro y hy;cases hy with
  |refl=>exact .sl0 sz a c
  |sl _ h=>cases h;exact .sl0 sz a c
 |sl sz xs b o c vs hm hb hc len one cell rep ih=>
  intro y hy
  cases hy with
  |refl=>exact .sl sz xs b o c vs hm hb hc len one cell rep
  |sl _ h=>
   have hl:=h.len
   rename_i ys
   have:=RepD.sl (w:=w) (m:=m) sz ys b o c vs hm hb (by omega) (λ i y hy=> ?_) (λ i y j z hy hz=> ?_) (λ i y j z hy hz=> ?_) (λ i y j z hy hz=> ?_)
   ·rw[hl];exact this
   ·obtain⟨x,hx,hxy⟩:=h.at hy
    rw[←hxy.cells.len];exact len i x hx
   ·obtain⟨x,hx,hxy⟩:=h.at hy
    obtain⟨u,hu,huz⟩:=hxy.cells.at hz
    rw[←huz.one];exact one i x j u hx hu
   ·obtain⟨x,hx,hxy⟩:=h.at hy
    obtain⟨u,hu,huz⟩:=hxy.cells.at hz
    exact cell i x j u hx hu
   ·obtain⟨x,hx,hxy⟩:=h.at hy
    obtain⟨u,hu,huz⟩:=hxy.cells.at hz
    exact ih i x j u hx hu huz
 |agg cs vs len one rep ih=>
  intro y hy
  cases hy with
  |refl=>exact .agg cs vs len one rep
  |agg h=>
   refine .agg _ vs (by rw[←h.len];exact len) (λ i y hy=> ?_) λ i y v hy hv=> ?_
   ·obtain⟨x,hx,hxy⟩:=h.at hy
    rw[←hxy.one];exact one i x hx
   ·obtain⟨x,hx,hxy⟩:=h.at hy
    exact ih i x v hx hv hxy
theorem RepA.nilA{a b:A}{v:Value}(h:RepA U w a v)(hn:NilA a b):RepA U w b v:=by
 cases hn with
 |refl=>exact h
 |d hd=>cases h with|d h=>exact .d (h.nilD hd)
theorem NilAL.len{xs ys:List A}(h:NilAL xs ys):xs.length=ys.length:=by
 induction h with
 |nil=>rfl
 |cons _ _ ih=>simp only[ae,ih]
theorem NilAL.at{xs ys:List A}(h:NilAL xs ys):∀{i:Nat} {y:A},ys[i]? =some y→∃x,xs[i]? =some x∧NilA x y:=by
 induction h with
 |nil=>intro i y hy;simp at hy
 |cons h hs ih=>
  intro i y hy
  match i with
  |0=>simp at hy;subst hy;exact⟨_,rfl,h⟩
  |i+1=>exact ih (by simpa using hy)
theorem NilAL.refl:∀xs:List A,NilAL xs xs
 |[]=> .nil
 |x::xs=> .cons (.refl x) (NilAL.refl xs)
theorem bw.nils{fr fr':Fr}(h:NilAL fr fr'):bw G n0 fr Z fr' Z:=λ U0 w0 U w vs h0 hx hI hr=>by
 refine⟨U,hx,hI,by rw[←h.len];exact hr.1,λ i y v hy hv=> ?_⟩
 obtain⟨x,hx,hxy⟩:=h.at hy
 exact(hr.2 i x v hx hv).nilA hxy
theorem Wk.nils{fr fr':Fr}{I:Fr→St→Prop}(h:NilAL fr fr')(hw:Wk G n0 I fr' Z):Wk G n0 I fr Z:=by
 obtain⟨a,b,h1,h2⟩:=hw
 exact⟨a,b,(bw.nils h).trans h1,h2⟩
theorem bw.nilsO{fr:Fr}(j:Nat){cs cs':List A}(hj:l[j]? =some (some (.cells cs)))(h:NilAL cs cs'):bw G n0 fr (Z++l) fr (Z++l.set j (some (.cells cs'))):=λ U0 w0 U w vs h0 hx hI hr=>by
 have hk:(Z++l)[Z.length+j]? =some (some (.cells cs)):=by rw[az (by omega),bk];exact hj
 refine⟨U,hx,?_,hr⟩
 rw[←jU]
 refine hI.recell hk (by rw[h.len];exact aE _) ?_ λ i x x' v hx hx' hv=> ?_
 ·have:=hI.bd _ _ hk
  refine gI λ y hy=> ?_
  obtain⟨i,hi⟩:=List.getElem?_of_mem hy
  obtain⟨x,hx,hxy⟩:=h.at hi
  have hb:=gD this x (bh hx)
  cases hxy with
  |refl=>exact hb
  |d _=>rfl
 ·obtain⟨u,hu,hxy⟩:=h.at hx'
  rw[hx]at hu;injection hu with hu;subst hu
  exact hv.nilA hxy
theorem Wk.nilsO{fr:Fr}{I:Fr→St→Prop}(j:Nat){cs cs':List A}(hj:l[j]? =some (some (.cells cs)))(h:NilAL cs cs')(hw:Wk G n0 I fr (Z++l.set j (some (.cells cs')))):Wk G n0 I fr (Z++l):=by
 obtain⟨a,b,h1,h2⟩:=hw
 exact⟨a,b,(bw.nilsO j hj h).trans h1,h2⟩
end
end Go.Ab
