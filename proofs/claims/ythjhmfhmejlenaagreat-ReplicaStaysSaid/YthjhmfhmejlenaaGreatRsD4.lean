/- Each is as it is told. -/
import Derived.Test.YthjhmfhmejlenaaGreatRsC
namespace Go.Proofs.eK
open Go Go.bO Go.bO.cK
set_option maxRecDepth 1000000
theorem ahM:n0 11 aai (⟨[],false⟩,ap1)=true:=by decide+kernel
theorem a22:dr 22 aaP=true:=by decide+kernel
theorem aiv:dr 31 aa4=true:=by decide+kernel
theorem aiH:dr 65 abi=true:=by decide+kernel
theorem aik:dr 242 aaS=true:=by decide+kernel
theorem aia:dr 191 aaH=true:=by decide+kernel
theorem aic:dr 193 aaJ=true:=by decide+kernel
theorem aio:dr 263 aaX=true:=by decide+kernel
theorem aiI:dr 66 abj=true:=by decide+kernel
theorem aiN:dr 74 abn=true:=by decide+kernel
theorem aiQ:dr 77 abq=true:=by decide+kernel
end Go.Proofs.eK
