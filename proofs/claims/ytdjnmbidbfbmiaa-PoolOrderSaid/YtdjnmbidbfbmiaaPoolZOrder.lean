/-
  Proved: 'cohortlaw18.PoolOrder' returns true at every input, and leaves its argument as it was: what was posted, taken from the front, comes in the order in which it was posted.
  Conditions: none beyond the row's own reach (every slice and text that is read takes at most 2^47 - 4096 bytes).
-/
import Derived.Test.YtdjnmbidbfbmiaaPoolJ
namespace Go.Proofs.Ytdjnmbidbfbmiaa
open Go.AL Go.RowKit Go.ChangeShapes Go.WideShapes Go.ChangeAt
set_option maxRecDepth 100000

theorem order_args (av : List AVal) (h : ArgsShp Try.prog 9 [27] av) : ACall Try.prog 6 av Store.empty fun a _ => a = .bool true := by
  match av, h with
  | [a], h =>
    obtain ⟨⟨cs, rfl, hs⟩, _⟩ := h
    obtain ⟨xs, ms, nl, rfl, hm⟩ := mails_shp hs
    rw [row27]
    exact order_ xs ms hm nl _ rfl

theorem order_lifted (os : Os) (started : os.Started) (H : Type) (enc : TypeId × Value → H) :
    ReturnsInHanded {} Try.checked os 6 .any (Rows.poolOrderSpec.pre6 enc Try.prog Try.f6 Rows.poolOrderRow.domain false) (Rows.poolOrderSpec.post enc Try.prog Try.f6 false true false false) := by
  refine returnsInHanded_of_change_sized (C := Try.checked) Try.own started (by kernel_rfl) Try.func6
    (ChangeSpec.witness6 (enc := enc) (C := Try.checked) false ⟨#[], #[.slice none 0 0], []⟩ 8 (by kernel_rfl) (by kernel_rfl) (by kernel_rfl) (by kernel_rfl)) ?_
  intro W base args ds gs before hval hW _ hsz _
  have hfn : Rows.poolOrderSpec.fn H (ds ++ gs) = { results := [.lit (.bool true)], args := ds } := by
    have hW' := hW
    obtain ⟨p, q, hA, hV, _⟩ := hW'
    obtain ⟨rfl, rfl⟩ := trodVars_none hV
    have hl : ds.length = 1 := trodAll_length hA
    match ds, hl with
    | [d], _ => rfl
  exact calls_law (n := 9) order_args Try.laidOut (by kernel_rfl) (by kernel_rfl) rfl rfl Try.underlying4 hval hW hsz hfn

theorem order_holds : Rows.PoolOrderSaid :=
  OpenClaim.holds_of_wide 6 Try.f6 rfl rfl rfl rfl rfl rfl rfl ⟨rfl, rfl, rfl, rfl, rfl⟩ rfl rfl rfl rfl rfl (by kernel_rfl) Try.func6 (by kernel_rfl)
    (of_decide_eq_true (by kernel_rfl)) (by unfold Func.isWrapper; rw [if_neg (by decide +kernel)]; exact ⟨rfl, rfl⟩)
    (fun os started H enc _ => order_lifted os started H enc)

end Go.Proofs.Ytdjnmbidbfbmiaa
