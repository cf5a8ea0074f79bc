/- Each is as it is told. -/
import Derived.Test.YthjhmfhmejlenaaGreatRsC
namespace Go.Proofs.eK
open Go Go.bO Go.bO.cK
set_option maxRecDepth 1000000
theorem ahN:n0 11 aaj (⟨[],false⟩,ap2)=true:=by decide+kernel
theorem a23:dr 23 aaQ=true:=by decide+kernel
theorem aiu:n0 30 aa3 (⟨[],false⟩,aqa)=true:=by decide+kernel
theorem aiX:dr 92 abx=true:=by decide+kernel
theorem aip:dr 291 aaY=true:=by decide+kernel
theorem aiZ:dr 99 abz=true:=by decide+kernel
theorem ah_:dr 187 aaF=true:=by decide+kernel
theorem ahR:dr 122 aan=true:=by decide+kernel
theorem aiA:dr 51 aa_=true:=by decide+kernel
end Go.Proofs.eK
