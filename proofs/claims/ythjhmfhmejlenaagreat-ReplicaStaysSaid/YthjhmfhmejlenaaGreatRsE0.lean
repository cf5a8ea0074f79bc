/- Each is as it is told. -/
import Derived.Test.YthjhmfhmejlenaaGreatRsC
namespace Go.Proofs.eK
open Go Go.bO Go.bO.cK
set_option maxRecDepth 1000000
theorem ar2:rP 168 Ko (qD 168) [1,0,0] 0 5=true:=by decide+kernel
end Go.Proofs.eK
