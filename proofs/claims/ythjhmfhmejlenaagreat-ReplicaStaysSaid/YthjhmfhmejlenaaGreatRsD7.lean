/- Each is as it is told. -/
import Derived.Test.YthjhmfhmejlenaaGreatRsC
namespace Go.Proofs.eK
open Go Go.bO Go.bO.cK
set_option maxRecDepth 1000000
theorem ahP:n0 11 aal (⟨[],false⟩,ap4)=true:=by decide+kernel
theorem ahK:dr 113 aag=true:=by decide+kernel
theorem aiO:dr 75 abo=true:=by decide+kernel
theorem aiT:dr 86 abt=true:=by decide+kernel
theorem ah0:n0 164 aaw (⟨[],false⟩,ap6)=true:=by decide+kernel
theorem ahS:dr 138 aao=true:=by decide+kernel
theorem ah8:dr 180 aaD=true:=by decide+kernel
theorem ahD:dr 104 Z'=true:=by decide+kernel
theorem aiD:dr 55 abc=true:=by decide+kernel
theorem aih:dr 204 aaN=true:=by decide+kernel
theorem aiP:dr 76 abp=true:=by decide+kernel
end Go.Proofs.eK
