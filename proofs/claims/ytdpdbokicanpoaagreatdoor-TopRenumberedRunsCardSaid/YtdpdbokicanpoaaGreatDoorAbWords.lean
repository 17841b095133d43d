import Derived.Test.YtdpdbokicanpoaaGreatDoorAbK
import Derived.JoinedOf
import Derived.KernelRfl
set_option linter.unusedSimpArgs false
set_option linter.unusedVariables false
set_option maxHeartbeats 64000000
namespace Go.Ab
open Go
theorem kQ(r:List Char):∀(l:List Char),(l.all λ c=>c.toNat !=32)=true→wordsSigns (l++Char.ofNat 32::r)=l::wordsSigns r
 |[],_=>rfl
 |c::l,h=>by
  simp only[dH,aB,bne_iff_ne,ne_eq]at h
  have ih:=kQ r l h.2
  rw[ah,wordsSigns,ih]
  intro hc
  subst hc
  exact h.1 rfl
theorem AB{n1 n2 n3 n4:List Nat}{r:List Char}(h:(([n1,n2,n3,n4].all λ l=>(l.map Char.ofNat).all λ c=>c.toNat !=32))=true):
  wordsSigns ((n1.map Char.ofNat)++Char.ofNat 32::((n2.map Char.ofNat)++Char.ofNat 32::((n3.map Char.ofNat)++Char.ofNat 32::((n4.map Char.ofNat)++Char.ofNat 32::r))))=n1.map Char.ofNat::n2.map Char.ofNat::n3.map Char.ofNat::n4.map Char.ofNat::wordsSigns r:=by
 simp only[dH,List.all_nil,dJ,aB]at h
 rw[kQ _ _ h.1,kQ _ _ h.2.1,kQ _ _ h.2.2.1,kQ _ _ h.2.2.2]
theorem Ac{n:Nat}(h:n<55296):(Char.ofNat n).toNat=n:=by
 have hv:n.isValidChar:= .inl h
 rw[Char.ofNat,dif_pos hv]
 show(BitVec.ofNatLT n _).toNat=n
 rfl
theorem sQ{a b:Nat}(ha:a<55296)(hb:b<55296):(Char.ofNat a≤Char.ofNat b)↔a≤b:=by
 rw[Char.le_def,UInt32.le_iff_toNat_le]
 have h1:=Ac ha
 have h2:=Ac hb
 unfold Char.toNat at h1 h2
 rw[h1,h2]
theorem sum_ok(ns:List Nat)(hl:(ns.length==64)=true)(h:(ns.all λ n=>(Nat.ble 48 n&&Nat.ble n 57)||(Nat.ble 97 n&&Nat.ble n 102))=true):isSumSigns (ns.map Char.ofNat)=true:=by
 unfold isSumSigns
 rw[ac,hl,ca,List.all_map,aZ]
 intro n hn
 have:=aZ.1 h n hn
 simp only[cd,aB,Nat.ble_eq]at this
 have hn':n<55296:=by omega
 simp only[Function.comp,cd,aB,av]
 rcases this with⟨h1,h2⟩|⟨h1,h2⟩
 ·exact .inl ⟨(sQ (a:=48) (by decide) hn').2 h1,(sQ (b:=57) hn' (by decide)).2 h2⟩
 ·exact .inr ⟨(sQ (a:=97) (by decide) hn').2 h1,(sQ (b:=102) hn' (by decide)).2 h2⟩
theorem behind{h s : List Char}{r : List (List Char)}(hh : (h == "harness".toList) = true)(hs : isSumSigns s = true) : behindMainWord (h :: s :: r) = r := by
 simp only[behindMainWord,hh,hs,gQ,hH,if_true]
section
variable {P:Program} {d:List Char} {r:List (List Char)}
abbrev qJ:List Char:=([99,117,116]:List Nat).map Char.ofNat
theorem xz(h:behindMainWord (wordsSigns P.initOrder.toList)=qJ::d::r):P.headLifts=[]:=by
 have e:stripLifts liftWords (qJ::d::r)=([],qJ::d::r):=by kernel_rfl
 have e2 : ((qJ :: d :: r).head? == some "cut".toList) = true := by kernel_rfl
 simp only[Program.headLifts,h,e,e2,if_true]
theorem vh(h:behindMainWord (wordsSigns P.initOrder.toList)=qJ::d::r):P.liftsFinal=false:=by
 simp only[Program.liftsFinal,h,xz h]
 kernel_rfl
theorem make_of(h:behindMainWord (wordsSigns P.initOrder.toList)=qJ::d::r):P.make=some .cut:=by
 simp only[Program.make,h]
 have e : (qJ == "gc".toList) = false := by kernel_rfl
 have e1 : (qJ == "spec".toList) = false := by kernel_rfl
 have e2 : (qJ == "cut".toList) = true := by kernel_rfl
 simp only[e,e1,e2,Bool.or_self,eG,if_false,gQ,if_true]
theorem zn(h:behindMainWord (wordsSigns P.initOrder.toList)=qJ::d::r)(h1:P.laysLater=false)(h2:P.bearsReflect=false)(h3:P.doorFits []=true):P.mayEnter=true:=by
 have e:stripLifts liftWords (qJ::d::r)=([],qJ::d::r):=by kernel_rfl
 have e2 : ((qJ :: d :: r).head? == some "cut".toList) = true := by kernel_rfl
 simp only[Program.mayEnter,h,e,e2,h1,h2,h3,eC,Bool.or_true,hH,ca,dJ,List.contains_nil]
end
end Go.Ab
