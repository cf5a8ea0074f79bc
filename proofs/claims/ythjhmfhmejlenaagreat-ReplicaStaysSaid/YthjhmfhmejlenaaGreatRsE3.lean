/- Each is as it is told. -/
import Derived.Test.YthjhmfhmejlenaaGreatRsC
namespace Go.Proofs.eK
open Go Go.bO Go.bO.cK
set_option maxRecDepth 1000000
theorem ar5:rP 6 e' (qD 6) [1,1,1,0] 2 4=true:=by decide+kernel
end Go.Proofs.eK
