/- The law is as it is told: some of its arguments. -/
import Derived.Test.YtfoeaeeaflmkfaaGreatCfK
set_option linter.unusedSectionVars false
set_option linter.unusedVariables false
set_option linter.unusedSimpArgs false
namespace Go.Proofs.RepT
open Go Go.AL Go.AL.SX
set_option maxRecDepth 1000000
theorem eA:Ck (kMin .i64) (-1) (kMin .i64) (kMax .i64) 0 maxLen:=by decide+kernel
theorem eB:Ck 2 (kMax .i64) (kMin .i64) (kMax .i64) 0 maxLen:=by decide+kernel
theorem eC:Ck 0 1 (kMin .i64) 0 0 maxLen:=by decide+kernel
theorem eD:Ck 0 1 4 (kMax .i64) 0 maxLen:=by decide+kernel
theorem eE1:Ck 0 1 1 1 3 maxLen:=by decide+kernel
theorem eE2:Ck 0 1 2 2 4 maxLen:=by decide+kernel
theorem eE3:Ck 0 1 3 3 5 maxLen:=by decide+kernel
end Go.Proofs.RepT
