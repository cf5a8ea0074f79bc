/- Each is as it is told. -/
import Derived.Test.YthjhmfhmejlenaaGreatRsC
namespace Go.Proofs.eK
open Go Go.bO Go.bO.cK
set_option maxRecDepth 1000000
theorem ahQ:n0 11 aam (⟨[],false⟩,ap5)=true:=by decide+kernel
theorem aiw:dr 34 aa6=true:=by decide+kernel
theorem aiJ:dr 67 abk=true:=by decide+kernel
theorem a64:dr 64 abh=true:=by decide+kernel
theorem ahY:dr 160 aau=true:=by decide+kernel
theorem aiy:dr 39 aa9=true:=by decide+kernel
theorem ain:dr 258 aaW=true:=by decide+kernel
theorem ail:dr 251 aaU=true:=by decide+kernel
theorem ahF:dr 106 aab=true:=by decide+kernel
theorem aiF:dr 60 abe=true:=by decide+kernel
theorem aiB:dr 52 aa'=true:=by decide+kernel
end Go.Proofs.eK
