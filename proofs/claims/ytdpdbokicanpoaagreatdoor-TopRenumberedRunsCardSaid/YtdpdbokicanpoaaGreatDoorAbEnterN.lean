import Derived.Test.YtdpdbokicanpoaaGreatDoorAbDefer
set_option linter.unusedSimpArgs false
set_option linter.unusedVariables false
set_option maxHeartbeats 64000000
namespace Go.Ab
open Go Go.RowKit
section
variable {P:Program} {U U':gM} {w w':World} {Z:St} {G G':Glob}
end
end Go.Ab
