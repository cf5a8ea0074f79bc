/-
  Proved: 'cohortlaw18.PoolKeeps' returns true at every input, and leaves its arguments as they were: of what was posted all is there, in order, but what was taken.
  Conditions: none beyond the row's own reach (every slice and text that is read takes at most 2^47 - 4096 bytes).
-/
import Derived.Test.YtdjnmbidbfbmiaaPoolJ
namespace Go.Proofs.Ytdjnmbidbfbmiaa
open Go.AL Go.RowKit Go.ChangeShapes Go.WideShapes Go.ChangeAt
set_option maxRecDepth 100000

theorem keeps_args (av : List AVal) (h : ArgsShp Try.prog 9 [27, 31] av) : ACall Try.prog 4 av Store.empty fun a _ => a = .bool true := by
  match av, h with
  | [a, b], h =>
    obtain ⟨⟨cs, rfl, hs⟩, ⟨ds, rfl, ht⟩, _⟩ := h
    obtain ⟨xs, ms, nl, rfl, hm⟩ := mails_shp hs
    obtain ⟨l, nl2, rfl, _, _⟩ := ht.bytes Try.underlying31 Try.underlying5 Try.bytes5
    rw [row27, row31]
    exact keeps_ xs ms hm nl _ l rfl nl2 _

theorem keeps_lifted (os : Os) (started : os.Started) (H : Type) (enc : TypeId × Value → H) :
    ReturnsInHanded {} Try.checked os 4 .any (Rows.poolKeepsSpec.pre6 enc Try.prog Try.f4 Rows.poolKeepsRow.domain false) (Rows.poolKeepsSpec.post enc Try.prog Try.f4 false true false false) := by
  refine returnsInHanded_of_change_sized (C := Try.checked) Try.own started (by kernel_rfl) Try.func4
    (ChangeSpec.witness6 (enc := enc) (C := Try.checked) false ⟨#[], #[.slice none 0 0, .slice none 0 0], []⟩ 8 (by kernel_rfl) (by kernel_rfl) (by kernel_rfl) (by kernel_rfl)) ?_
  intro W base args ds gs before hval hW _ hsz _
  have hfn : Rows.poolKeepsSpec.fn H (ds ++ gs) = { results := [.lit (.bool true)], args := ds } := by
    have hW' := hW
    obtain ⟨p, q, hA, hV, _⟩ := hW'
    obtain ⟨rfl, rfl⟩ := trodVars_none hV
    have hl : ds.length = 2 := trodAll_length hA
    match ds, hl with
    | [d1, d2], _ => rfl
  exact calls_law (n := 9) keeps_args Try.laidOut (by kernel_rfl) (by kernel_rfl) rfl rfl Try.underlying4 hval hW hsz hfn

theorem keeps_holds : Rows.PoolKeepsSaid :=
  OpenClaim.holds_of_wide 4 Try.f4 rfl rfl rfl rfl rfl rfl rfl ⟨rfl, rfl, rfl, rfl, rfl⟩ rfl rfl rfl rfl rfl (by kernel_rfl) Try.func4 (by kernel_rfl)
    (of_decide_eq_true (by kernel_rfl)) (by unfold Func.isWrapper; rw [if_neg (by decide +kernel)]; exact ⟨rfl, rfl⟩)
    (fun os started H enc _ => keeps_lifted os started H enc)

end Go.Proofs.Ytdjnmbidbfbmiaa
