/- The head, reckoned. -/
import Derived.Test.YthjhmfhmejlenaaGreatRsT
set_option linter.unusedSectionVars false
set_option linter.unusedVariables false
set_option linter.unusedSimpArgs false
namespace Go.Proofs.eK
open Go Go.bO Go.Proofs
set_option maxRecDepth 1000000
theorem mixed:Tryz.prog.follows .mixedOrders=true:=by kernel_rfl
def isTrue:eS→Bool
 |.jX (.bool true) _=>true
 |_=>false
theorem Ql:isTrue (jg fb (nat_lit 60) (nat_lit 7) [] ⟨nat_lit 0,nat_lit 0,.dL⟩)=true:=by kernel_rfl
end Go.Proofs.eK
