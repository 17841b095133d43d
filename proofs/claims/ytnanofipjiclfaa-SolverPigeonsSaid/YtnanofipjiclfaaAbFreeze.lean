/- A struct of one's own becomes data at once. -/
import Derived.Test.YtnanofipjiclfaaAbPure
set_option linter.unusedSimpArgs false
set_option linter.unusedVariables false
namespace Go.Ab
open Go Go.RowKit
section
variable {G : Glob} {σ : St}
end
end Go.Ab
