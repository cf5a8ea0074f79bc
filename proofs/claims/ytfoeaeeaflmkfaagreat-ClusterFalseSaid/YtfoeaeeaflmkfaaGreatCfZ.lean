/-
  Proved: 'cohortlaw21.ClusterFalse' returns true at every input, and leaves its argument as it was: there is nothing to see of a false member, nor of one that is not there; of each other one there is.
  Conditions: none beyond the row's own reach.
-/
import Derived.Test.YtfoeaeeaflmkfaaGreatCfH
import Derived.Test.YtfoeaeeaflmkfaaGreatCfJ
import Derived.Test.YtfoeaeeaflmkfaaGreatAL12
import Derived.Test.YtfoeaeeaflmkfaaGreatRows
set_option linter.unusedSectionVars false
set_option linter.unusedVariables false
set_option linter.unusedSimpArgs false
namespace Go.Proofs.YtfoeaeeaflmkfaaGreat
open Go.AL Go.RowKit Go.ChangeShapes Go.WideShapes Go.ChangeAt Go.Proofs.RepT
set_option maxRecDepth 100000
theorem own':ownKnob Tryz.prog.godebug=none:=by kernel_rfl
theorem laidOut':laidOutB Tryz.prog=true:=by kernel_rfl
theorem false_lifted (os:Os) (started:os.Started) (H:Type) (enc:TypeId × Value→H):
  ReturnsInHanded {} Tryz.checked os 3 .any (Rows.clusterFalseSpec.pre6 enc Tryz.prog Tryz.f3 Rows.clusterFalseRow.domain false) (Rows.clusterFalseSpec.post enc Tryz.prog Tryz.f3 false true false false):=by
 refine returnsInHanded_of_change_sized (C:=Tryz.checked) own' started (by kernel_rfl) Tryz.func3
  (ChangeSpec.witness6 (enc:=enc) (C:=Tryz.checked) false ⟨#[],#[.agg #[.int .i64 0,.int .i64 0,.slice none 0 0,.slice none 0 0]],[]⟩ 8 (by kernel_rfl) (by kernel_rfl) (by kernel_rfl) (by kernel_rfl)) ?_
 intro W base args ds gs before hval hW _ hsz _
 have hfn:Rows.clusterFalseSpec.fn H (ds++gs)= {results:=[.lit (.bool true)],args:=ds}:=by
  have hW':=hW
  obtain⟨p,q,hA,hV,_⟩:=hW'
  obtain⟨rfl,rfl⟩:=trodVars_none hV
  have hl:ds.length=1:=trodAll_length hA
  match ds,hl with
  | [d],_=>rfl
 exact calls_law (n:=9) cf_args laidOut' (by kernel_rfl) (by kernel_rfl) rfl rfl Tryz.underlying4 hval hW hsz hfn
theorem false_holds:Rows.ClusterFalseSaid:=
 OpenClaim.holds_of_wide 3 Tryz.f3 rfl rfl rfl rfl rfl rfl rfl ⟨rfl,rfl,rfl,rfl,rfl⟩ rfl rfl rfl rfl rfl (by kernel_rfl) Tryz.func3 closed3
  (of_decide_eq_true (by kernel_rfl)) (by unfold Func.isWrapper;rw[if_neg (by decide+kernel)];exact⟨rfl,rfl⟩)
  (fun os started H enc _=>false_lifted os started H enc)
end Go.Proofs.YtfoeaeeaflmkfaaGreat
