/- Each is as it is told. -/
import Derived.Test.YthjhmfhmejlenaaGreatRsC
namespace Go.Proofs.eK
open Go Go.bO Go.bO.cK
set_option maxRecDepth 1000000
theorem aix:dr 38 aa8=true:=by decide+kernel
theorem aiq:n0 30 aaZ (⟨[],false⟩,ap8)=true:=by decide+kernel
theorem ait:n0 30 aa2 (⟨[],false⟩,ap')=true:=by decide+kernel
theorem aiW:dr 90 abw=true:=by decide+kernel
theorem ahX:dr 142 aat=true:=by decide+kernel
theorem ah7:dr 179 aaC=true:=by decide+kernel
theorem aiY:dr 94 aby=true:=by decide+kernel
theorem ahH:dr 108 aad=true:=by decide+kernel
theorem aiG:dr 61 abf=true:=by decide+kernel
theorem aiC:dr 54 abb=true:=by decide+kernel
end Go.Proofs.eK
