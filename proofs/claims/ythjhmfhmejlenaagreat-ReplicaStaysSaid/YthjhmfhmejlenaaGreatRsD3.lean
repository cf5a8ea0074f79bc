/- Each is as it is told. -/
import Derived.Test.YthjhmfhmejlenaaGreatRsC
namespace Go.Proofs.eK
open Go Go.bO Go.bO.cK
set_option maxRecDepth 1000000
theorem ah5:dr 177 aaA=true:=by decide+kernel
theorem ah4:dr 172 aaz=true:=by decide+kernel
theorem ais:n0 30 aa1 (⟨[],false⟩,ap_)=true:=by decide+kernel
theorem aiV:dr 88 abv=true:=by decide+kernel
theorem a35:dr 35 aa7=true:=by decide+kernel
theorem ah6:dr 178 aaB=true:=by decide+kernel
theorem aim:dr 254 aaV=true:=by decide+kernel
theorem ahG:dr 107 aac=true:=by decide+kernel
theorem aif:dr 203 aaM=true:=by decide+kernel
theorem ahW:dr 141 aas=true:=by decide+kernel
end Go.Proofs.eK
