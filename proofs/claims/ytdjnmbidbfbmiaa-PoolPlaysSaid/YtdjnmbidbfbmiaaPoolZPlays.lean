/-
  Proved: 'cohortlaw18.PoolPlays' returns true at every input, and leaves its argument as it was: calls, one behind the other, answer as the document says; what was handed in may be changed.
  Conditions: none beyond the row's own reach (every slice and text that is read takes at most 2^47 - 4096 bytes).
-/
import Derived.Test.YtdjnmbidbfbmiaaPoolJ
import Derived.Test.YtdjnmbidbfbmiaaPoolM
namespace Go.Proofs.Ytdjnmbidbfbmiaa
open Go.AL Go.RowKit Go.ChangeShapes Go.WideShapes Go.ChangeAt
set_option maxRecDepth 100000

theorem Try.cells35 : Try.prog.cellsOf 35 = 6 := by kernel_rfl
theorem Try.bytes35 : Try.prog.bytesOf 35 = 64 := by kernel_rfl
theorem row35 : isRow Try.prog 35 = true := by kernel_rfl
theorem row22 : isRow Try.prog 22 = false := by kernel_rfl

theorem opv_shp {n : Nat} {cs : List AVal} (h : Shp Try.prog n 35 cs) : ∃ o : OpV, mkv (isRow Try.prog 35) cs = o.A ∧ o.m.Ok := by
  obtain ⟨hl, m, rfl, hf⟩ := h.struct Try.underlying35
  rw [Try.cells35] at hl
  match cs, hl with
  | [a, b, c, d, e, f], _ =>
    have h0 := hf _ (List.mem_cons_self)
    have h1 := hf _ (List.mem_cons_of_mem _ List.mem_cons_self)
    have h2 := hf _ (List.mem_cons_of_mem _ (List.mem_cons_of_mem _ List.mem_cons_self))
    simp only [Try.cells3, Try.cells33] at h0 h1 h2
    obtain ⟨w, hw, _⟩ := h0.int Try.underlying3
    obtain ⟨t, ht, _⟩ := h1.int Try.underlying3
    obtain ⟨q, hq, ho⟩ := mail_shp h2
    rw [row33] at hq
    simp at hw ht
    subst hw ht
    rw [row35]
    have hq' : AVal.agg [c, d, e, f] = q.A := by simpa [mkv] using hq
    have hA : q.A = .agg [.int .i64 q.g, .int .i64 q.p, .bool q.o, .slice (bytesA q.b) q.nl none] := rfl
    rw [hA] at hq'
    simp only [AVal.agg.injEq, List.cons.injEq, and_true] at hq'
    obtain ⟨rfl, rfl, rfl, rfl⟩ := hq'
    exact ⟨⟨w, t, q⟩, rfl, ho⟩

theorem plays_args (av : List AVal) (h : ArgsShp Try.prog 9 [22] av) : ACall Try.prog 3 av Store.empty fun a _ => a = .bool true := by
  match av, h with
  | [a], h =>
    obtain ⟨⟨cs, rfl, hs⟩, _⟩ := h
    obtain ⟨xs, nl, m, rfl, _, _, hr, _, hx⟩ := hs.slice Try.underlying22
    have : ∀ x ∈ xs, ∃ o : OpV, x = o.A ∧ o.m.Ok := by
      intro x hxm
      obtain ⟨cs, rfl, hs⟩ := hx x hxm
      exact opv_shp hs
    obtain ⟨ops, h1, h2⟩ := exists_map this
    rw [row22]
    rw [Try.bytes35] at hr
    have hrb : reachBytes = 140737488351232 := rfl
    exact plays_ ops h2 xs h1 (by omega) nl _

theorem plays_lifted (os : Os) (started : os.Started) (H : Type) (enc : TypeId × Value → H) :
    ReturnsInHanded {} Try.checked os 3 .any (Rows.poolPlaysSpec.pre6 enc Try.prog Try.f3 Rows.poolPlaysRow.domain false) (Rows.poolPlaysSpec.post enc Try.prog Try.f3 false true false false) := by
  refine returnsInHanded_of_change_sized (C := Try.checked) Try.own started (by kernel_rfl) Try.func3
    (ChangeSpec.witness6 (enc := enc) (C := Try.checked) false ⟨#[], #[.slice none 0 0], []⟩ 8 (by kernel_rfl) (by kernel_rfl) (by kernel_rfl) (by kernel_rfl)) ?_
  intro W base args ds gs before hval hW _ hsz _
  have hfn : Rows.poolPlaysSpec.fn H (ds ++ gs) = { results := [.lit (.bool true)], args := ds } := by
    have hW' := hW
    obtain ⟨p, q, hA, hV, _⟩ := hW'
    obtain ⟨rfl, rfl⟩ := trodVars_none hV
    have hl : ds.length = 1 := trodAll_length hA
    match ds, hl with
    | [d], _ => rfl
  exact calls_law (n := 9) plays_args Try.laidOut (by kernel_rfl) (by kernel_rfl) rfl rfl Try.underlying4 hval hW hsz hfn

theorem plays_holds : Rows.PoolPlaysSaid :=
  OpenClaim.holds_of_wide 3 Try.f3 rfl rfl rfl rfl rfl rfl rfl ⟨rfl, rfl, rfl, rfl, rfl⟩ rfl rfl rfl rfl rfl (by kernel_rfl) Try.func3 (by kernel_rfl)
    (of_decide_eq_true (by kernel_rfl)) (by unfold Func.isWrapper; rw [if_neg (by decide +kernel)]; exact ⟨rfl, rfl⟩)
    (fun os started H enc _ => plays_lifted os started H enc)

end Go.Proofs.Ytdjnmbidbfbmiaa
