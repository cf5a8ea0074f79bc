/- What the row's closed cells say of the program, one by one. -/
import Derived.Test.YtfoeaeeaflmkfaaGreatRows
import Derived.ProofKit
set_option linter.unusedSectionVars false
set_option linter.unusedVariables false
set_option linter.unusedSimpArgs false
namespace Go.Proofs.YtfoeaeeaflmkfaaGreat
open Go Go.Proofs
set_option maxRecDepth 100000
theorem and2 {a b:Bool} (h:a=true) (k:b=true):(a&&b)=true:=by rw[h,k];rfl
theorem j0:((fun(_:Program) (_:FuncId) (_:Func) (s:ChangeSpec) (c:OpenClaim)=>c.wf (OpenSpec.ofChange s)) Tryz.prog 3 Tryz.f3 Rows.clusterFalseSpec Rows.clusterFalseRow)=true:=by kernel_rfl
theorem j1:((fun(P:Program) (_:FuncId) (_:Func) (_:ChangeSpec) (_:OpenClaim)=>laidOutB P) Tryz.prog 3 Tryz.f3 Rows.clusterFalseSpec Rows.clusterFalseRow)=true:=by kernel_rfl
theorem j2:((fun(P:Program) (_:FuncId) (_:Func) (_:ChangeSpec) (_:OpenClaim)=>mapsRowed P) Tryz.prog 3 Tryz.f3 Rows.clusterFalseSpec Rows.clusterFalseRow)=true:=by kernel_rfl
theorem j3:((fun(P:Program) (_:FuncId) (fn:Func) (_:ChangeSpec) (_:OpenClaim)=>fn.params.all (P.readableRec ·)) Tryz.prog 3 Tryz.f3 Rows.clusterFalseSpec Rows.clusterFalseRow)=true:=by kernel_rfl
theorem j4:((fun(P:Program) (_:FuncId) (_:Func) (s:ChangeSpec) (c:OpenClaim)=>namedTie P c.named s.vars) Tryz.prog 3 Tryz.f3 Rows.clusterFalseSpec Rows.clusterFalseRow)=true:=by kernel_rfl
theorem j5:((fun(_:Program) (_:FuncId) (_:Func) (_:ChangeSpec) (c:OpenClaim)=>(c.stops==[])) Tryz.prog 3 Tryz.f3 Rows.clusterFalseSpec Rows.clusterFalseRow)=true:=by kernel_rfl
theorem j6:((fun(P:Program) (_:FuncId) (_:Func) (_:ChangeSpec) (_:OpenClaim)=>(P.stops==[])) Tryz.prog 3 Tryz.f3 Rows.clusterFalseSpec Rows.clusterFalseRow)=true:=by kernel_rfl
theorem j7:((fun(_:Program) (_:FuncId) (_:Func) (_:ChangeSpec) (c:OpenClaim)=>(c.knobs==[])) Tryz.prog 3 Tryz.f3 Rows.clusterFalseSpec Rows.clusterFalseRow)=true:=by kernel_rfl
theorem j8:((fun(P:Program) (_:FuncId) (_:Func) (_:ChangeSpec) (_:OpenClaim)=>(P.stopKnobs==[])) Tryz.prog 3 Tryz.f3 Rows.clusterFalseSpec Rows.clusterFalseRow)=true:=by kernel_rfl
theorem j9:((fun(P:Program) (f:FuncId) (_:Func) (_:ChangeSpec) (c:OpenClaim)=>(c.inPlace==P.inPlace f)) Tryz.prog 3 Tryz.f3 Rows.clusterFalseSpec Rows.clusterFalseRow)=true:=by kernel_rfl
theorem j10:((fun(P:Program) (f:FuncId) (_:Func) (_:ChangeSpec) (c:OpenClaim)=>(c.unfollowed==P.unfollowed f)) Tryz.prog 3 Tryz.f3 Rows.clusterFalseSpec Rows.clusterFalseRow)=true:=by kernel_rfl
theorem j11:((fun(P:Program) (f:FuncId) (_:Func) (_:ChangeSpec) (c:OpenClaim)=>(c.recurses==P.recurses f)) Tryz.prog 3 Tryz.f3 Rows.clusterFalseSpec Rows.clusterFalseRow)=true:=by kernel_rfl
theorem j12:((fun(P:Program) (f:FuncId) (_:Func) (_:ChangeSpec) (c:OpenClaim)=>(c.named==P.varsNamed f)) Tryz.prog 3 Tryz.f3 Rows.clusterFalseSpec Rows.clusterFalseRow)=true:=by kernel_rfl
theorem j13:((fun(P:Program) (_:FuncId) (fn:Func) (s:ChangeSpec) (c:OpenClaim)=>(c.maps==(fn.params.toList++s.plain.varTypes P).any (P.mapsRec ·))) Tryz.prog 3 Tryz.f3 Rows.clusterFalseSpec Rows.clusterFalseRow)=true:=by kernel_rfl
theorem j14:((fun(P:Program) (_:FuncId) (fn:Func) (s:ChangeSpec) (c:OpenClaim)=>(c.ifaces==(fn.params.toList++s.plain.varTypes P).any (P.ifacesRec ·))) Tryz.prog 3 Tryz.f3 Rows.clusterFalseSpec Rows.clusterFalseRow)=true:=by kernel_rfl
theorem j15:((fun(P:Program) (_:FuncId) (fn:Func) (_:ChangeSpec) (c:OpenClaim)=>(c.mapsOut==P.mapsAmong fn.resultTypes.toList)) Tryz.prog 3 Tryz.f3 Rows.clusterFalseSpec Rows.clusterFalseRow)=true:=by kernel_rfl
theorem j16:((fun(P:Program) (_:FuncId) (fn:Func) (s:ChangeSpec) (c:OpenClaim)=>(c.loops==(fn.params.toList++s.plain.varTypes P).any (P.loopsFrom ·))) Tryz.prog 3 Tryz.f3 Rows.clusterFalseSpec Rows.clusterFalseRow)=true:=by kernel_rfl
theorem j17:((fun(P:Program) (_:FuncId) (fn:Func) (s:ChangeSpec) (c:OpenClaim)=>(c.wideKeys==(fn.params.toList++s.plain.varTypes P++fn.resultTypes.toList).any (P.wideKeysFrom ·))) Tryz.prog 3 Tryz.f3 Rows.clusterFalseSpec Rows.clusterFalseRow)=true:=by kernel_rfl
theorem j18:((fun(P:Program) (_:FuncId) (_:Func) (s:ChangeSpec) (_:OpenClaim)=>s.vars.all (P.varReadable ·)) Tryz.prog 3 Tryz.f3 Rows.clusterFalseSpec Rows.clusterFalseRow)=true:=by kernel_rfl
theorem j19:((fun(P:Program) (_:FuncId) (fn:Func) (_:ChangeSpec) (_:OpenClaim)=>fn.resultTypes.all (fun t=>P.readableRec t&&decide (t<P.types.size))) Tryz.prog 3 Tryz.f3 Rows.clusterFalseSpec Rows.clusterFalseRow)=true:=by kernel_rfl
theorem j20:((fun(P:Program) (_:FuncId) (fn:Func) (_:ChangeSpec) (c:OpenClaim)=>(c.ifacesOut==fn.resultTypes.toList.any (P.ifacesRec ·))) Tryz.prog 3 Tryz.f3 Rows.clusterFalseSpec Rows.clusterFalseRow)=true:=by kernel_rfl
theorem j21:((fun(P:Program) (_:FuncId) (fn:Func) (_:ChangeSpec) (c:OpenClaim)=>(c.loopsOut==fn.resultTypes.toList.any (P.loopsFrom ·))) Tryz.prog 3 Tryz.f3 Rows.clusterFalseSpec Rows.clusterFalseRow)=true:=by kernel_rfl
theorem j22:((fun(P:Program) (_:FuncId) (_:Func) (_:ChangeSpec) (c:OpenClaim)=>(c.plainKeys==P.plainKeys)) Tryz.prog 3 Tryz.f3 Rows.clusterFalseSpec Rows.clusterFalseRow)=true:=by kernel_rfl
theorem j23:((fun(_:Program) (_:FuncId) (_:Func) (_:ChangeSpec) (c:OpenClaim)=>c.shortTexts.isNone) Tryz.prog 3 Tryz.f3 Rows.clusterFalseSpec Rows.clusterFalseRow)=true:=by kernel_rfl
theorem j24:((fun(P:Program) (_:FuncId) (_:Func) (_:ChangeSpec) (_:OpenClaim)=>P.stopsHeard) Tryz.prog 3 Tryz.f3 Rows.clusterFalseSpec Rows.clusterFalseRow)=true:=by kernel_rfl
theorem j25:((fun(P:Program) (_:FuncId) (_:Func) (_:ChangeSpec) (_:OpenClaim)=>P.mayEnter) Tryz.prog 3 Tryz.f3 Rows.clusterFalseSpec Rows.clusterFalseRow)=true:=by kernel_rfl
theorem j26:((fun(P:Program) (_:FuncId) (_:Func) (_:ChangeSpec) (c:OpenClaim)=>(c.lifted==P.liftsFinal)) Tryz.prog 3 Tryz.f3 Rows.clusterFalseSpec Rows.clusterFalseRow)=true:=by kernel_rfl
theorem j27:((fun(P:Program) (_:FuncId) (_:Func) (_:ChangeSpec) (c:OpenClaim)=>(P.make==some c.make)) Tryz.prog 3 Tryz.f3 Rows.clusterFalseSpec Rows.clusterFalseRow)=true:=by kernel_rfl
theorem j28:((fun(P:Program) (_:FuncId) (fn:Func) (_:ChangeSpec) (c:OpenClaim)=>(c.kinds==(if c.domain.isEmpty then []else fn.params.toList.map fun t=>match P.underlying t with|some (.int k)=>some k|_=>none))) Tryz.prog 3 Tryz.f3 Rows.clusterFalseSpec Rows.clusterFalseRow)=true:=by kernel_rfl
theorem j29:((fun(_:Program) (_:FuncId) (_:Func) (_:ChangeSpec) (c:OpenClaim)=>(c.pinned==c.pinnedBy)) Tryz.prog 3 Tryz.f3 Rows.clusterFalseSpec Rows.clusterFalseRow)=true:=by kernel_rfl
theorem j30:((fun(P:Program) (_:FuncId) (fn:Func) (s:ChangeSpec) (c:OpenClaim)=>(c.veiled==(fn.params.toList++s.plain.varTypes P++fn.resultTypes.toList).any (P.veiledRec ·))) Tryz.prog 3 Tryz.f3 Rows.clusterFalseSpec Rows.clusterFalseRow)=true:=by kernel_rfl
theorem j31:((fun(P:Program) (_:FuncId) (fn:Func) (s:ChangeSpec) (c:OpenClaim)=>c.veiledFits P fn.params.toList (fn.params.toList++s.plain.varTypes P++fn.resultTypes.toList)) Tryz.prog 3 Tryz.f3 Rows.clusterFalseSpec Rows.clusterFalseRow)=true:=by kernel_rfl
theorem closed3:joinedFacts Tryz.prog 3 Tryz.f3 Rows.clusterFalseSpec Rows.clusterFalseRow=true:=(and2 (and2 (and2 (and2 (and2 (and2 (and2 (and2 (and2 (and2 (and2 (and2 (and2 (and2 (and2 (and2 (and2 (and2 (and2 (and2 (and2 (and2 (and2 (and2 (and2 (and2 (and2 (and2 (and2 (and2 (and2 j0 j1) j2) j3) j4) j5) j6) j7) j8) j9) j10) j11) j12) j13) j14) j15) j16) j17) j18) j19) j20) j21) j22) j23) j24) j25) j26) j27) j28) j29) j30) j31)
end Go.Proofs.YtfoeaeeaflmkfaaGreat
