/- Each is as it is told. -/
import Derived.Test.YthjhmfhmejlenaaGreatRsC
namespace Go.Proofs.eK
open Go Go.bO Go.bO.cK
set_option maxRecDepth 1000000
theorem aii:dr 21 aaO=true:=by decide+kernel
theorem ah1:n0 164 aax (⟨[],false⟩,ap7)=true:=by decide+kernel
theorem ahU:dr 14 aaq=true:=by decide+kernel
theorem ah9:dr 181 aaE=true:=by decide+kernel
theorem ahE:dr 105 aaa=true:=by decide+kernel
theorem ahL:dr 118 aah=true:=by decide+kernel
theorem ahV:dr 140 aar=true:=by decide+kernel
theorem a32:dr 32 aa5=true:=by decide+kernel
end Go.Proofs.eK
