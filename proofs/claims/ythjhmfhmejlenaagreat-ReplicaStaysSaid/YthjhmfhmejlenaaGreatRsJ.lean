/- What the row's closed cells say of the program, one by one. -/
import Derived.Test.YthjhmfhmejlenaaGreatRows
import Derived.ProofKit
namespace Go.Proofs.YthjhmfhmejlenaaGreat
open Go Go.Proofs
set_option maxRecDepth 100000
theorem a6 {a b:Bool} (h:a=true) (k:b=true):(a&&b)=true:=by rw[h,k];rfl
noncomputable abbrev J (g:Program→FuncId→Func→ChangeSpec→OpenClaim→Bool):Bool:=g Tryz.prog 6 Tryz.f6 Rows.replicaStaysSpec Rows.replicaStaysRow
theorem ao6:J (fun _ _ _ s c=>c.wf (OpenSpec.ofChange s))=true:=by kernel_rfl
theorem tG:J (fun P _ _ _ _=>laidOutB P)=true:=by kernel_rfl
theorem xq:J (fun P _ _ _ _=>mapsRowed P)=true:=by kernel_rfl
theorem zG:J (fun P _ fn _ _=>fn.params.all (P.readableRec ·))=true:=by kernel_rfl
theorem aps:J (fun P _ _ s c=>namedTie P c.named s.vars)=true:=by kernel_rfl
theorem apt:J (fun _ _ _ _ c=>(c.stops==[]))=true:=by kernel_rfl
theorem apu:J (fun P _ _ _ _=>(P.stops==[]))=true:=by kernel_rfl
theorem apv:J (fun _ _ _ _ c=>(c.knobs==[]))=true:=by kernel_rfl
theorem apw:J (fun P _ _ _ _=>(P.stopKnobs==[]))=true:=by kernel_rfl
theorem apx:J (fun P f _ _ c=>(c.inPlace==P.inPlace f))=true:=by kernel_rfl
theorem ao7:J (fun P f _ _ c=>(c.unfollowed==P.unfollowed f))=true:=by kernel_rfl
theorem ao8:J (fun P f _ _ c=>(c.recurses==P.recurses f))=true:=by kernel_rfl
theorem ao9:J (fun P f _ _ c=>(c.named==P.varsNamed f))=true:=by kernel_rfl
theorem ao_:J (fun P _ fn s c=>(c.maps==(fn.params.toList++s.plain.varTypes P).any (P.mapsRec ·)))=true:=by kernel_rfl
theorem ao':J (fun P _ fn s c=>(c.ifaces==(fn.params.toList++s.plain.varTypes P).any (P.ifacesRec ·)))=true:=by kernel_rfl
theorem apa:J (fun P _ fn _ c=>(c.mapsOut==P.mapsAmong fn.resultTypes.toList))=true:=by kernel_rfl
theorem apb:J (fun P _ fn s c=>(c.loops==(fn.params.toList++s.plain.varTypes P).any (P.loopsFrom ·)))=true:=by kernel_rfl
theorem apc:J (fun P _ fn s c=>(c.wideKeys==(fn.params.toList++s.plain.varTypes P++fn.resultTypes.toList).any (P.wideKeysFrom ·)))=true:=by kernel_rfl
theorem apd:J (fun P _ _ s _=>s.vars.all (P.varReadable ·))=true:=by kernel_rfl
theorem ape:J (fun P _ fn _ _=>fn.resultTypes.all (fun t=>P.readableRec t&&decide (t<P.types.size)))=true:=by kernel_rfl
theorem apf:J (fun P _ fn _ c=>(c.ifacesOut==fn.resultTypes.toList.any (P.ifacesRec ·)))=true:=by kernel_rfl
theorem apg:J (fun P _ fn _ c=>(c.loopsOut==fn.resultTypes.toList.any (P.loopsFrom ·)))=true:=by kernel_rfl
theorem aph:J (fun P _ _ _ c=>(c.plainKeys==P.plainKeys))=true:=by kernel_rfl
theorem api:J (fun _ _ _ _ c=>c.shortTexts.isNone)=true:=by kernel_rfl
theorem apj:J (fun P _ _ _ _=>P.stopsHeard)=true:=by kernel_rfl
theorem apk:J (fun P _ _ _ _=>P.mayEnter)=true:=by kernel_rfl
theorem apl:J (fun P _ _ _ c=>(c.lifted==P.liftsFinal))=true:=by kernel_rfl
theorem apm:J (fun P _ _ _ c=>(P.make==some c.make))=true:=by kernel_rfl
theorem apn:J (fun P _ fn _ c=>(c.kinds==(if c.domain.isEmpty then []else fn.params.toList.map fun t=>match P.underlying t with|some (.int k)=>some k|_=>none)))=true:=by kernel_rfl
theorem apo:J (fun _ _ _ _ c=>(c.pinned==c.pinnedBy))=true:=by kernel_rfl
theorem apq:J (fun P _ fn s c=>(c.veiled==(fn.params.toList++s.plain.varTypes P++fn.resultTypes.toList).any (P.veiledRec ·)))=true:=by kernel_rfl
theorem apr:J (fun P _ fn s c=>c.veiledFits P fn.params.toList (fn.params.toList++s.plain.varTypes P++fn.resultTypes.toList))=true:=by kernel_rfl
theorem ako:joinedFacts Tryz.prog 6 Tryz.f6 Rows.replicaStaysSpec Rows.replicaStaysRow=true:=(a6 (a6 (a6 (a6 (a6 (a6 (a6 (a6 (a6 (a6 (a6 (a6 (a6 (a6 (a6 (a6 (a6 (a6 (a6 (a6 (a6 (a6 (a6 (a6 (a6 (a6 (a6 (a6 (a6 (a6 (a6 ao6 tG) xq) zG) aps) apt) apu) apv) apw) apx) ao7) ao8) ao9) ao_) ao') apa) apb) apc) apd) ape) apf) apg) aph) api) apj) apk) apl) apm) apn) apo) apq) apr)
end Go.Proofs.YthjhmfhmejlenaaGreat
