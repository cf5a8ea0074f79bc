/- Each is as it is told. -/
import Derived.Test.YtfoeaeeaflmkfaaGreatCfC
set_option linter.unusedSectionVars false
set_option linter.unusedVariables false
set_option linter.unusedSimpArgs false
namespace Go.Proofs.RepT
open Go Go.AL Go.AL.SX
set_option maxRecDepth 1000000
theorem ck92:check TB (below rank FF (rank 92)) deepN k92 n92 l92 c92=true:=by decide+kernel
theorem ck47:check TB (below rank FF (rank 47)) deepN k47 n47 l47 c47=true:=by decide+kernel
theorem ck138:check TB (below rank FF (rank 138)) deepN k138 n138 l138 c138=true:=by decide+kernel
theorem ck139:check TB (below rank FF (rank 139)) deepN k139 n139 l139 c139=true:=by decide+kernel
theorem ck94:check TB (below rank FF (rank 94)) deepN k94 n94 l94 c94=true:=by decide+kernel
theorem ck140:check TB (below rank FF (rank 140)) deepN k140 n140 l140 c140=true:=by decide+kernel
theorem ck141:check TB (below rank FF (rank 141)) deepN k141 n141 l141 c141=true:=by decide+kernel
theorem ck95:check TB (below rank FF (rank 95)) deepN k95 n95 l95 c95=true:=by decide+kernel
theorem ck52:check TB (below rank FF (rank 52)) deepN k52 n52 l52 c52=true:=by decide+kernel
theorem ck50:check TB (below rank FF (rank 50)) deepN k50 n50 l50 c50=true:=by decide+kernel
theorem ck58:check TB (below rank FF (rank 58)) deepN k58 n58 l58 c58=true:=by decide+kernel
theorem ck59:check TB (below rank FF (rank 59)) deepN k59 n59 l59 c59=true:=by decide+kernel
theorem ck60:check TB (below rank FF (rank 60)) deepN k60 n60 l60 c60=true:=by decide+kernel
theorem ck63:check TB (below rank FF (rank 63)) deepN k63 n63 l63 c63=true:=by decide+kernel
end Go.Proofs.RepT
