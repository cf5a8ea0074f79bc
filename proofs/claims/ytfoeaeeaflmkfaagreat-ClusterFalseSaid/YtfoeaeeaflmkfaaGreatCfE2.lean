/- The law is as it is told: some of its arguments. -/
import Derived.Test.YtfoeaeeaflmkfaaGreatCfK
set_option linter.unusedSectionVars false
set_option linter.unusedVariables false
set_option linter.unusedSimpArgs false
namespace Go.Proofs.RepT
open Go Go.AL Go.AL.SX
set_option maxRecDepth 1000000
theorem e33:Ck 0 1 3 3 3 3:=by decide+kernel
theorem e11:Ck 0 1 1 1 1 1:=by decide+kernel
end Go.Proofs.RepT
