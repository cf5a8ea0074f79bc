/- Each is as it is told. -/
import Derived.Test.YthjhmfhmejlenaaGreatRsC
namespace Go.Proofs.eK
open Go Go.bO Go.bO.cK
set_option maxRecDepth 1000000
theorem ahI:dr 109 aae=true:=by decide+kernel
theorem a63:dr 63 abg=true:=by decide+kernel
theorem aiU:dr 87 abu=true:=by decide+kernel
theorem ah2:dr 165 aay=true:=by decide+kernel
theorem ahC:dr 101 Z_=true:=by decide+kernel
theorem aie:dr 201 aaL=true:=by decide+kernel
theorem ah':dr 190 aaG=true:=by decide+kernel
theorem aiE:dr 56 abd=true:=by decide+kernel
theorem aij:dr 231 aaR=true:=by decide+kernel
theorem a25:dr 25 aaT=true:=by decide+kernel
end Go.Proofs.eK
