import Derived.Test.YtdpdbokicanpoaaGreatDoorAbRecover
import Derived.Test.YtdpdbokicanpoaaGreatDoorAbSimp
set_option linter.unusedSimpArgs false
set_option linter.unusedVariables false
set_option maxHeartbeats 64000000
namespace Go.Ab
open Go Go.RowKit

def fnK(a:A)(k:FuncId→List A→List A→Prop):Prop:=match a with
 | .fn (.func g) first cap=>k g first cap
 |_=>False
section
variable {P:Program} {G G':Glob} {n0:Nat} {tx:Md} {fr:Fr} {Z:St}
@[congr] theorem fnK_congr {a a':A} {k:FuncId→List A→List A→Prop} (h:a=a'):fnK a k=fnK a' k:=by rw[h]
end
end Go.Ab
