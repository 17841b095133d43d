import Derived.Test.YtdpdbokicanpoaaGreatDoorAbK
import Derived.Test.YtdpdbokicanpoaaGreatDoorAbAw
import Derived.RecoverIn
set_option linter.unusedSimpArgs false
set_option linter.unusedVariables false
set_option maxHeartbeats 64000000
namespace Go.Ab
open Go Go.RowKit

section
variable {P:Program} {U U':gM} {w w':World} {Z:St} {G G':Glob}

def DefR(U:gM)(w:World)(d:Deferred)(g:FuncId)(as:List A):Prop:=∃vs us:List Value,d={ target:= .fn (.func g) us.toArray,args:=vs.toArray}∧fy U w as (vs++us)
def mS(B:Nat):Df:=⟨B,[],false,[]⟩
theorem DefR.ext{d:Deferred}{g:FuncId}{as:List A}(h:DefR U w d g as)(hx:Ext U w U' w'):DefR U' w' d g as:=by
 obtain⟨vs,us,e,hL⟩:=h
 exact⟨vs,us,e,hL.ext hx⟩
end
end Go.Ab
