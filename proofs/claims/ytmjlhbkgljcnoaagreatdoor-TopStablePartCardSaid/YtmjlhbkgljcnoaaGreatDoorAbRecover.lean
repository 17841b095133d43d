/- Closures that are called as deferred calls: plain ones; those that call recover. -/
import Derived.Test.YtmjlhbkgljcnoaaGreatDoorAbDefer
set_option linter.unusedSimpArgs false
set_option linter.unusedVariables false
namespace Go.Ab
open Go Go.RowKit

section
variable {P : Program} {ρ ρ' : Ren} {w w' : World} {σ : St} {G : Glob}

end
end Go.Ab
