/-
  Proved: 'cohortlaw17.ReplicaView' returns true at every input, and leaves its argument as it was: where the first of view 0 is false, and silent, the others, ticked often enough, begin a later view, and run what they were told, alike.
  Conditions: none beyond the row's own reach.
-/
import Derived.Test.YtihkdgfmmcfpmaaGreatRepJ
import Derived.Test.YtihkdgfmmcfpmaaGreatRepK0
import Derived.Test.YtihkdgfmmcfpmaaGreatRepK1
import Derived.Test.YtihkdgfmmcfpmaaGreatRepK2
import Derived.Test.YtihkdgfmmcfpmaaGreatRepK3
import Derived.Test.YtihkdgfmmcfpmaaGreatRepK4
import Derived.Test.YtihkdgfmmcfpmaaGreatAL12
import Derived.Test.YtihkdgfmmcfpmaaGreatRows
namespace Go.Proofs.YtihkdgfmmcfpmaaGreat
open Go.AL Go.RowKit Go.ChangeShapes Go.WideShapes Go.ChangeAt Go.Proofs.RepT
set_option maxRecDepth 100000

theorem view_run (x : Nat) (hx : x < 256) : (RepT.start x).Means Tryz.prog post4 := by
  have h5 : x % 5 < 5 := Nat.mod_lt _ (by omega)
  have hd : x = 5 * (x / 5) + x % 5 := (Nat.div_add_mod x 5).symm
  have hi : x / 5 < 52 := by omega
  obtain h | h | h | h | h : x % 5 = 0 ∨ x % 5 = 1 ∨ x % 5 = 2 ∨ x % 5 = 3 ∨ x % 5 = 4 := by omega
  · exact case0 x (x / 5) hi (by omega)
  · exact case1 x (x / 5) hi (by omega)
  · exact case2 x (x / 5) hi (by omega)
  · exact case3 x (x / 5) hi (by omega)
  · exact case4 x (x / 5) hi (by omega)

theorem view_args (av : List AVal) (h : ArgsShp Tryz.prog 9 [5] av) : ACall Tryz.prog 4 av Store.empty fun a _ => a = .bool true := by
  match av, h with
  | [a], h =>
    obtain ⟨⟨cs, rfl, hs⟩, _⟩ := h
    obtain ⟨m, rfl, hm⟩ := hs.int Tryz.underlying5
    have hr := wf_range hm
    have hlo : (0 : Int) ≤ m := hr.1
    have hhi : m ≤ 255 := hr.2
    obtain ⟨x, rfl⟩ : ∃ x : Nat, m = Int.ofNat x := ⟨m.toNat, by simp only [Int.ofNat_eq_natCast]; omega⟩
    have hx : x < 256 := by simp only [Int.ofNat_eq_natCast] at hhi; omega
    have hrow : isRow Tryz.prog 5 = false := by unfold isRow; rw [Tryz.underlying5]
    rw [hrow]
    obtain ⟨fn, esc, hf, ha, _, _⟩ := o4
    exact call_start mixed hf ha (by show 1 ≤ _; exact of_decide_eq_true (by kernel_rfl)) rfl (view_run x hx) _

theorem own' : ownKnob Tryz.prog.godebug = none := by kernel_rfl
theorem laidOut' : laidOutB Tryz.prog = true := by kernel_rfl

theorem view_lifted (os : Os) (started : os.Started) (H : Type) (enc : TypeId × Value → H) :
    ReturnsInHanded {} Tryz.checked os 4 .any (Rows.replicaViewSpec.pre6 enc Tryz.prog Tryz.f4 Rows.replicaViewRow.domain false) (Rows.replicaViewSpec.post enc Tryz.prog Tryz.f4 false true false false) := by
  refine returnsInHanded_of_change_sized (C := Tryz.checked) own' started (by kernel_rfl) Tryz.func4
    (ChangeSpec.witness6 (enc := enc) (C := Tryz.checked) false ⟨#[], #[.int .u8 0], []⟩ 8 (by kernel_rfl) (by kernel_rfl) (by kernel_rfl) (by kernel_rfl)) ?_
  intro W base args ds gs before hval hW _ hsz _
  have hfn : Rows.replicaViewSpec.fn H (ds ++ gs) = { results := [.lit (.bool true)], args := ds } := by
    have hW' := hW
    obtain ⟨p, q, hA, hV, _⟩ := hW'
    obtain ⟨rfl, rfl⟩ := trodVars_none hV
    have hl : ds.length = 1 := trodAll_length hA
    match ds, hl with
    | [d], _ => rfl
  exact calls_law (n := 9) view_args laidOut' (by kernel_rfl) (by kernel_rfl) rfl rfl Tryz.underlying4 hval hW hsz hfn

theorem view_holds : Rows.ReplicaViewSaid :=
  OpenClaim.holds_of_wide 4 Tryz.f4 rfl rfl rfl rfl rfl rfl rfl ⟨rfl, rfl, rfl, rfl, rfl⟩ rfl rfl rfl rfl rfl (by kernel_rfl) Tryz.func4 closed4
    (of_decide_eq_true (by kernel_rfl)) (by unfold Func.isWrapper; rw [if_neg (by decide +kernel)]; exact ⟨rfl, rfl⟩)
    (fun os started H enc _ => view_lifted os started H enc)

end Go.Proofs.YtihkdgfmmcfpmaaGreat
