/-
  Proved: 'cohortlaw17.ReplicaLate' returns true at every input, and leaves its arguments as they were: a replica that got nothing, while the others of a calm group ran some orders, is told their last stable state, once it asks: then it has done as much as that, and said nothing of what it was told so.
  Conditions: none beyond the row's own reach.
-/
import Derived.Test.YtihkdgfmmcfpmaaGreatLateJ
import Derived.Test.YtihkdgfmmcfpmaaGreatLateC
import Derived.Test.YtihkdgfmmcfpmaaGreatAL12
import Derived.Test.YtihkdgfmmcfpmaaGreatRows
namespace Go.Proofs.YtihkdgfmmcfpmaaGreat
open Go.AL Go.RowKit Go.ChangeShapes Go.WideShapes Go.ChangeAt Go.Proofs.RepT
set_option maxRecDepth 100000

theorem late_args (av : List AVal) (h : ArgsShp Tryz.prog 9 [5, 5] av) : ACall Tryz.prog 3 av Store.empty fun a _ => a = .bool true := by
  match av, h with
  | [a, b], h =>
    obtain ⟨⟨cs, rfl, hs⟩, ⟨cs2, rfl, hs2⟩, _⟩ := h
    obtain ⟨m, rfl, hm⟩ := hs.int Tryz.underlying5
    obtain ⟨m2, rfl, hm2⟩ := hs2.int Tryz.underlying5
    have hlo : (0 : Int) ≤ m := (wf_range hm).1
    have hlo2 : (0 : Int) ≤ m2 := (wf_range hm2).1
    obtain ⟨x, rfl⟩ : ∃ x : Nat, m = Int.ofNat x := ⟨m.toNat, by simp only [Int.ofNat_eq_natCast]; omega⟩
    obtain ⟨y, rfl⟩ : ∃ y : Nat, m2 = Int.ofNat y := ⟨m2.toNat, by simp only [Int.ofNat_eq_natCast]; omega⟩
    have hrow : isRow Tryz.prog 5 = false := by unfold isRow; rw [Tryz.underlying5]
    rw [hrow]
    obtain ⟨fn, esc, hf, ha, _, _⟩ := o3
    exact call_start mixed hf ha (by show 2 ≤ _; exact of_decide_eq_true (by kernel_rfl)) rfl (all_run x y) _

theorem own' : ownKnob Tryz.prog.godebug = none := by kernel_rfl
theorem laidOut' : laidOutB Tryz.prog = true := by kernel_rfl

theorem late_lifted (os : Os) (started : os.Started) (H : Type) (enc : TypeId × Value → H) :
    ReturnsInHanded {} Tryz.checked os 3 .any (Rows.replicaLateSpec.pre6 enc Tryz.prog Tryz.f3 Rows.replicaLateRow.domain false) (Rows.replicaLateSpec.post enc Tryz.prog Tryz.f3 false true false false) := by
  refine returnsInHanded_of_change_sized (C := Tryz.checked) own' started (by kernel_rfl) Tryz.func3
    (ChangeSpec.witness6 (enc := enc) (C := Tryz.checked) false ⟨#[], #[.int .u8 0, .int .u8 0], []⟩ 8 (by kernel_rfl) (by kernel_rfl) (by kernel_rfl) (by kernel_rfl)) ?_
  intro W base args ds gs before hval hW _ hsz _
  have hfn : Rows.replicaLateSpec.fn H (ds ++ gs) = { results := [.lit (.bool true)], args := ds } := by
    have hW' := hW
    obtain ⟨p, q, hA, hV, _⟩ := hW'
    obtain ⟨rfl, rfl⟩ := trodVars_none hV
    have hl : ds.length = 2 := trodAll_length hA
    match ds, hl with
    | [d1, d2], _ => rfl
  exact calls_law (n := 9) late_args laidOut' (by kernel_rfl) (by kernel_rfl) rfl rfl Tryz.underlying4 hval hW hsz hfn

theorem late_holds : Rows.ReplicaLateSaid :=
  OpenClaim.holds_of_wide 3 Tryz.f3 rfl rfl rfl rfl rfl rfl rfl ⟨rfl, rfl, rfl, rfl, rfl⟩ rfl rfl rfl rfl rfl (by kernel_rfl) Tryz.func3 closed3
    (of_decide_eq_true (by kernel_rfl)) (by unfold Func.isWrapper; rw [if_neg (by decide +kernel)]; exact ⟨rfl, rfl⟩)
    (fun os started H enc _ => late_lifted os started H enc)

end Go.Proofs.YtihkdgfmmcfpmaaGreat
