/- The law is as it is told: some of its arguments. -/
import Derived.Test.YtfoeaeeaflmkfaaGreatCfK
set_option linter.unusedSectionVars false
set_option linter.unusedVariables false
set_option linter.unusedSimpArgs false
namespace Go.Proofs.RepT
open Go Go.AL Go.AL.SX
set_option maxRecDepth 1000000
theorem e32:Ck 0 1 3 3 2 2:=by decide+kernel
theorem e12:Ck 0 1 1 1 2 2:=by decide+kernel
end Go.Proofs.RepT
