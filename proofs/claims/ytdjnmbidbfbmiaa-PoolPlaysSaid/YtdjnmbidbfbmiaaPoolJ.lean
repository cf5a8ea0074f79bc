import Derived.Test.YtdjnmbidbfbmiaaPoolI
import Derived.Test.YtdjnmbidbfbmiaaAL12
import Derived.Test.YtdjnmbidbfbmiaaRows
namespace Go.Proofs.Ytdjnmbidbfbmiaa
open Go.AL Go.RowKit Go.ChangeShapes Go.WideShapes Go.ChangeAt
set_option maxRecDepth 100000

theorem Try.own : ownKnob Try.prog.godebug = none := by kernel_rfl
theorem Try.laidOut : laidOutB Try.prog = true := by kernel_rfl
theorem Try.cells33 : Try.prog.cellsOf 33 = 4 := by kernel_rfl
theorem Try.cells3 : Try.prog.cellsOf 3 = 1 := by kernel_rfl
theorem Try.cells4 : Try.prog.cellsOf 4 = 1 := by kernel_rfl
theorem Try.cells31 : Try.prog.cellsOf 31 = 1 := by kernel_rfl
theorem Try.bytes5 : Try.prog.bytesOf 5 = 1 := by kernel_rfl
theorem row33 : isRow Try.prog 33 = true := by kernel_rfl
theorem row27 : isRow Try.prog 27 = false := by kernel_rfl
theorem mail_shp {n : Nat} {cs : List AVal} (h : Shp Try.prog n 33 cs) : ∃ m : Mail, mkv (isRow Try.prog 33) cs = m.A ∧ m.Ok := by
  obtain ⟨hl, m, rfl, hf⟩ := h.struct Try.underlying33
  rw [Try.cells33] at hl
  match cs, hl with
  | [a, b, c, d], _ =>
    have h0 := hf _ (List.mem_cons_self)
    have h1 := hf _ (List.mem_cons_of_mem _ List.mem_cons_self)
    have h2 := hf _ (List.mem_cons_of_mem _ (List.mem_cons_of_mem _ List.mem_cons_self))
    have h3 := hf _ (List.mem_cons_of_mem _ (List.mem_cons_of_mem _ (List.mem_cons_of_mem _ List.mem_cons_self)))
    simp only [Try.cells3, Try.cells4, Try.cells31] at h0 h1 h2 h3
    obtain ⟨g, hg, _⟩ := h0.int Try.underlying3
    obtain ⟨p, hp, _⟩ := h1.int Try.underlying3
    obtain ⟨o, ho⟩ := h2.bool Try.underlying4
    obtain ⟨l, nl, hb, hnl, hr⟩ := h3.bytes Try.underlying31 Try.underlying5 Try.bytes5
    simp at hg hp ho hb
    subst hg hp ho hb
    rw [row33]
    exact ⟨⟨g, p, o, l, nl⟩, rfl, hr, hnl⟩

theorem mails_shp {n : Nat} {cs : List AVal} (h : Shp Try.prog n 27 cs) : ∃ xs ms nl, cs = [.slice xs nl none] ∧ Mails xs ms := by
  obtain ⟨xs, nl, m, rfl, _, _, _, rfl, hx⟩ := h.slice Try.underlying27
  have : ∀ x ∈ xs, ∃ m : Mail, x = m.A ∧ m.Ok := by
    intro x hxm
    obtain ⟨cs, rfl, hs⟩ := hx x hxm
    obtain ⟨q, hq, ho⟩ := mail_shp hs
    exact ⟨q, hq, ho⟩
  obtain ⟨ms, h1, h2⟩ := exists_map this
  exact ⟨xs, ms, nl, rfl, h1, h2⟩

theorem row31 : isRow Try.prog 31 = false := by kernel_rfl
theorem row43 : isRow Try.prog 43 = false := by kernel_rfl

end Go.Proofs.Ytdjnmbidbfbmiaa
