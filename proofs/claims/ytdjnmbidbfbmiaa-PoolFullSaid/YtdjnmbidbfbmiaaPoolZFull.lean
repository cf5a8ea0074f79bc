/-
  Proved: 'cohortlaw18.PoolFull' returns true at every input, and leaves its arguments as they were: a pool takes as much as it may, and no more.
  Conditions: none beyond the row's own reach (every slice and text that is read takes at most 2^47 - 4096 bytes).
-/
import Derived.Test.YtdjnmbidbfbmiaaPoolJ
namespace Go.Proofs.Ytdjnmbidbfbmiaa
open Go.AL Go.RowKit Go.ChangeShapes Go.WideShapes Go.ChangeAt
set_option maxRecDepth 100000

theorem full_args (av : List AVal) (h : ArgsShp Try.prog 9 [33, 43] av) : ACall Try.prog 5 av Store.empty fun a _ => a = .bool true := by
  match av, h with
  | [a, b], h =>
    obtain ⟨⟨cs, rfl, hs⟩, ⟨ds, rfl, ht⟩, _⟩ := h
    obtain ⟨m, hm, ho⟩ := mail_shp hs
    obtain ⟨n, rfl, hn⟩ := ht.int Try.underlying43
    rw [hm, row43]
    have hr := wf_range hn
    simp only [IntKind.min, IntKind.max, IntKind.signed, IntKind.bits] at hr
    have h0 : 0 ≤ n ∧ n ≤ 65535 := by simpa using hr
    exact full_ m ho n h0.1 (by omega) _

theorem full_lifted (os : Os) (started : os.Started) (H : Type) (enc : TypeId × Value → H) :
    ReturnsInHanded {} Try.checked os 5 .any (Rows.poolFullSpec.pre6 enc Try.prog Try.f5 Rows.poolFullRow.domain false) (Rows.poolFullSpec.post enc Try.prog Try.f5 false true false false) := by
  refine returnsInHanded_of_change_sized (C := Try.checked) Try.own started (by kernel_rfl) Try.func5
    (ChangeSpec.witness6 (enc := enc) (C := Try.checked) false ⟨#[], #[.agg #[.int .i64 0, .int .i64 0, .bool false, .slice none 0 0], .int .u16 0], []⟩ 8 (by kernel_rfl) (by kernel_rfl) (by kernel_rfl) (by kernel_rfl)) ?_
  intro W base args ds gs before hval hW _ hsz _
  have hfn : Rows.poolFullSpec.fn H (ds ++ gs) = { results := [.lit (.bool true)], args := ds } := by
    have hW' := hW
    obtain ⟨p, q, hA, hV, _⟩ := hW'
    obtain ⟨rfl, rfl⟩ := trodVars_none hV
    have hl : ds.length = 2 := trodAll_length hA
    match ds, hl with
    | [d1, d2], _ => rfl
  exact calls_law (n := 9) full_args Try.laidOut (by kernel_rfl) (by kernel_rfl) rfl rfl Try.underlying4 hval hW hsz hfn

theorem full_holds : Rows.PoolFullSaid :=
  OpenClaim.holds_of_wide 5 Try.f5 rfl rfl rfl rfl rfl rfl rfl ⟨rfl, rfl, rfl, rfl, rfl⟩ rfl rfl rfl rfl rfl (by kernel_rfl) Try.func5 (by kernel_rfl)
    (of_decide_eq_true (by kernel_rfl)) (by unfold Func.isWrapper; rw [if_neg (by decide +kernel)]; exact ⟨rfl, rfl⟩)
    (fun os started H enc _ => full_lifted os started H enc)

end Go.Proofs.Ytdjnmbidbfbmiaa
