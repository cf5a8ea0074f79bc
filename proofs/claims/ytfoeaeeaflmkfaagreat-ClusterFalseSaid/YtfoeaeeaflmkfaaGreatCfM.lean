/- The head, and what is told. -/
import Derived.Test.YtfoeaeeaflmkfaaGreatCfT
set_option linter.unusedSectionVars false
set_option linter.unusedVariables false
set_option linter.unusedSimpArgs false
namespace Go.Proofs.RepT
open Go Go.AL
set_option maxRecDepth 1000000
noncomputable section
def isTrue:FR→Bool
 |.got (.bool true) _=>true
 |_=>false
theorem head_true:isTrue (callN tab (nat_lit 60) (nat_lit 4) [] ⟨nat_lit 0,nat_lit 0,.lf⟩)=true:=by kernel_rfl
end
end Go.Proofs.RepT
