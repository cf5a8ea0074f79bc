/- Each is as it is told. -/
import Derived.Test.YthjhmfhmejlenaaGreatRsC
namespace Go.Proofs.eK
open Go Go.bO Go.bO.cK
set_option maxRecDepth 1000000
theorem ahO:n0 11 aak (⟨[],false⟩,ap3)=true:=by decide+kernel
theorem aiL:dr 72 abl=true:=by decide+kernel
theorem air:n0 30 aa0 (⟨[],false⟩,ap9)=true:=by decide+kernel
theorem aiS:dr 85 abr=true:=by decide+kernel
theorem ahZ:dr 163 aav=true:=by decide+kernel
theorem ahJ:dr 110 aaf=true:=by decide+kernel
theorem aid:dr 196 aaK=true:=by decide+kernel
theorem aib:dr 192 aaI=true:=by decide+kernel
theorem a53:dr 53 aba=true:=by decide+kernel
theorem ahT:dr 139 aap=true:=by decide+kernel
theorem aiM:dr 73 abm=true:=by decide+kernel
end Go.Proofs.eK
