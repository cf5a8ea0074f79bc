/- Endings of the run, printed by a program. -/
import Derived.Test.YtihkdgfmmcfpmaaGreatLateS
namespace Go.Proofs.RepT
open Go Go.AL Go.Proofs
set_option maxRecDepth 1000000
noncomputable section
theorem t3_0 : HH (E0 d3) d0 := ⟨by kernel_rfl, by kernel_rfl⟩
theorem z3_0 : EE (E0 d3) Na La d0 (nat_lit 48) := by unfold EE; kernel_rfl
theorem t3_1 : HH (envL E3_1) d1 := ⟨by kernel_rfl, by kernel_rfl⟩
theorem z3_1 : EE (envL E3_1) N3_1 L3_1 d1 (nat_lit 48) := by unfold EE; kernel_rfl
theorem t3_2 : HH (envL E3_2) d2 := ⟨by kernel_rfl, by kernel_rfl⟩
theorem z3_2 : EE (envL E3_2) N3_2 L3_2 d2 (nat_lit 48) := by unfold EE; kernel_rfl
theorem t3_3 : HH (envL E3_3) d3 := ⟨by kernel_rfl, by kernel_rfl⟩
theorem z3_3 : EE (envL E3_3) N3_3 L3_3 d3 (nat_lit 48) := by unfold EE; kernel_rfl
theorem t3_4 : HH (envL E3_4) d4 := ⟨by kernel_rfl, by kernel_rfl⟩
theorem z3_4 : EE (envL E3_4) N3_4 L3_4 d4 (nat_lit 62) := by unfold EE; kernel_rfl
theorem t3_5 : HH (envL E3_5) d5 := ⟨by kernel_rfl, by kernel_rfl⟩
theorem z3_5 : EE (envL E3_5) N3_5 L3_5 d5 (nat_lit 62) := by unfold EE; kernel_rfl
theorem t3_6 : HH (envL E3_6) d6 := ⟨by kernel_rfl, by kernel_rfl⟩
theorem z3_6 : EE (envL E3_6) N3_6 L3_6 d6 (nat_lit 62) := by unfold EE; kernel_rfl
theorem t3_7 : HH (envL E3_7) d7 := ⟨by kernel_rfl, by kernel_rfl⟩
theorem z3_7 : EE (envL E3_7) N3_7 L3_7 d7 (nat_lit 62) := by unfold EE; kernel_rfl
theorem t3_8 : HH (envL E3_8) d8 := ⟨by kernel_rfl, by kernel_rfl⟩
theorem z3_8 : EE (envL E3_8) N3_8 L3_8 d8 (nat_lit 62) := by unfold EE; kernel_rfl
theorem t3_9 : HH (envL E3_9) d9 := ⟨by kernel_rfl, by kernel_rfl⟩
theorem z3_9 : EE (envL E3_9) N3_9 L3_9 d9 (nat_lit 62) := by unfold EE; kernel_rfl
theorem t3_10 : HH (envL E3_10) d10 := ⟨by kernel_rfl, by kernel_rfl⟩
theorem z3_10 : EE (envL E3_10) N3_10 L3_10 d10 (nat_lit 62) := by unfold EE; kernel_rfl
theorem t3_11 : HH (envL E3_11) d11 := ⟨by kernel_rfl, by kernel_rfl⟩
theorem z3_11 : EE (envL E3_11) N3_11 L3_11 d11 (nat_lit 62) := by unfold EE; kernel_rfl
theorem t3_12 : HH (envL E3_12) d12 := ⟨by kernel_rfl, by kernel_rfl⟩
theorem z3_12 : EE (envL E3_12) N3_12 L3_12 d12 (nat_lit 62) := by unfold EE; kernel_rfl
theorem t3_13 : HH (envL E3_13) d13 := ⟨by kernel_rfl, by kernel_rfl⟩
theorem z3_13 : EE (envL E3_13) N3_13 L3_13 d13 (nat_lit 62) := by unfold EE; kernel_rfl
end
end Go.Proofs.RepT
