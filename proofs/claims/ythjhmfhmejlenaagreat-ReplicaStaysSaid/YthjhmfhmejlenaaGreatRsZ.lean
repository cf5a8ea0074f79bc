/-
  Proved: 'cohortlaw17.ReplicaStays' returns true at every input, and leaves its arguments as they were: done, view and stable never fall, no history shortens or changes, and none of it stands beyond what is done.
  Conditions: none beyond the row's own reach.
-/
import Derived.Test.YthjhmfhmejlenaaGreatRsG
import Derived.Test.YthjhmfhmejlenaaGreatRsJ
import Derived.Test.YthjhmfhmejlenaaGreatAL8
import Derived.Test.YthjhmfhmejlenaaGreatRows
namespace Go.Proofs.YthjhmfhmejlenaaGreat
open Go.bO Go.RowKit Go.ChangeShapes Go.WideShapes Go.ChangeAt Go.Proofs.eK
set_option maxRecDepth 100000
theorem ar0:ownKnob Tryz.prog.godebug=none:=by kernel_rfl
theorem aqb:laidOutB Tryz.prog=true:=by kernel_rfl
theorem auq (os:Os) (UB:os.Started) (H:Type) (enc:TypeId × Value→H):
  ReturnsInHanded {} Tryz.checked os 6 .any (Rows.replicaStaysSpec.pre6 enc Tryz.prog Tryz.f6 Rows.replicaStaysRow.domain false) (Rows.replicaStaysSpec.post enc Tryz.prog Tryz.f6 false true false false):=by
 refine returnsInHanded_of_change_sized (C:=Tryz.checked) ar0 UB (by kernel_rfl) Tryz.func6
  (ChangeSpec.witness6 (enc:=enc) (C:=Tryz.checked) false ⟨#[],#[.int .i64 0,.slice none 0 0],[]⟩ 8 (by kernel_rfl) (by kernel_rfl) (by kernel_rfl) (by kernel_rfl)) ?_
 intro W oV args ds gs Er nE ij _ dj _;have u2:Rows.replicaStaysSpec.fn H (ds++gs)= {results:=[.lit (.bool true)],args:=ds}:=by
  have Fv:=ij;obtain⟨p,q,hq,w6,_⟩:=Fv;obtain⟨rfl,rfl⟩:=trodVars_none w6;have ak:ds.length=2:=agJ hq
  match ds,ak with
  | [d,e],_=>rfl
 exact aj1 (n:=9) ata aqb (by kernel_rfl) (by kernel_rfl) rfl rfl Tryz.underlying4 nE ij dj u2
theorem stays_holds:Rows.ReplicaStaysSaid:=
 OpenClaim.holds_of_wide 6 Tryz.f6 rfl rfl rfl rfl rfl rfl rfl ⟨rfl,rfl,rfl,rfl,rfl⟩ rfl rfl rfl rfl rfl (by kernel_rfl) Tryz.func6 ako
  (of_decide_eq_true (by kernel_rfl)) (by unfold Func.isWrapper;rw[if_neg (by decide+kernel)];exact⟨rfl,rfl⟩)
  (fun os UB H enc _=>auq os UB H enc)
end Go.Proofs.YthjhmfhmejlenaaGreat
