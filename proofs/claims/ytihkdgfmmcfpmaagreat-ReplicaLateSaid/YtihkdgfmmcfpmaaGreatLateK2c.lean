/- Endings of the run, printed by a program. -/
import Derived.Test.YtihkdgfmmcfpmaaGreatLateS
namespace Go.Proofs.RepT
open Go Go.AL Go.Proofs
set_option maxRecDepth 1000000
noncomputable section
theorem t2_0 : HH (E0 d2) d0 := ⟨by kernel_rfl, by kernel_rfl⟩
theorem z2_0 : EE (E0 d2) Na La d0 (nat_lit 48) := by unfold EE; kernel_rfl
theorem t2_1 : HH (envL E2_1) d1 := ⟨by kernel_rfl, by kernel_rfl⟩
theorem z2_1 : EE (envL E2_1) N2_1 L2_1 d1 (nat_lit 48) := by unfold EE; kernel_rfl
theorem t2_2 : HH (envL E2_2) d2 := ⟨by kernel_rfl, by kernel_rfl⟩
theorem z2_2 : EE (envL E2_2) N2_2 L2_2 d2 (nat_lit 48) := by unfold EE; kernel_rfl
theorem t2_3 : HH (envL E2_3) d3 := ⟨by kernel_rfl, by kernel_rfl⟩
theorem z2_3 : EE (envL E2_3) N2_3 L2_3 d3 (nat_lit 48) := by unfold EE; kernel_rfl
theorem t2_4 : HH (envL E2_4) d4 := ⟨by kernel_rfl, by kernel_rfl⟩
theorem z2_4 : EE (envL E2_4) N2_4 L2_4 d4 (nat_lit 62) := by unfold EE; kernel_rfl
theorem t2_5 : HH (envL E2_5) d5 := ⟨by kernel_rfl, by kernel_rfl⟩
theorem z2_5 : EE (envL E2_5) N2_5 L2_5 d5 (nat_lit 62) := by unfold EE; kernel_rfl
theorem t2_6 : HH (envL E2_6) d6 := ⟨by kernel_rfl, by kernel_rfl⟩
theorem z2_6 : EE (envL E2_6) N2_6 L2_6 d6 (nat_lit 62) := by unfold EE; kernel_rfl
theorem t2_7 : HH (envL E2_7) d7 := ⟨by kernel_rfl, by kernel_rfl⟩
theorem z2_7 : EE (envL E2_7) N2_7 L2_7 d7 (nat_lit 62) := by unfold EE; kernel_rfl
theorem t2_8 : HH (envL E2_8) d8 := ⟨by kernel_rfl, by kernel_rfl⟩
theorem z2_8 : EE (envL E2_8) N2_8 L2_8 d8 (nat_lit 62) := by unfold EE; kernel_rfl
theorem t2_9 : HH (envL E2_9) d9 := ⟨by kernel_rfl, by kernel_rfl⟩
theorem z2_9 : EE (envL E2_9) N2_9 L2_9 d9 (nat_lit 62) := by unfold EE; kernel_rfl
theorem t2_10 : HH (envL E2_10) d10 := ⟨by kernel_rfl, by kernel_rfl⟩
theorem z2_10 : EE (envL E2_10) N2_10 L2_10 d10 (nat_lit 62) := by unfold EE; kernel_rfl
theorem t2_11 : HH (envL E2_11) d11 := ⟨by kernel_rfl, by kernel_rfl⟩
theorem z2_11 : EE (envL E2_11) N2_11 L2_11 d11 (nat_lit 62) := by unfold EE; kernel_rfl
theorem t2_12 : HH (envL E2_12) d12 := ⟨by kernel_rfl, by kernel_rfl⟩
theorem z2_12 : EE (envL E2_12) N2_12 L2_12 d12 (nat_lit 62) := by unfold EE; kernel_rfl
theorem t2_13 : HH (envL E2_13) d13 := ⟨by kernel_rfl, by kernel_rfl⟩
theorem z2_13 : EE (envL E2_13) N2_13 L2_13 d13 (nat_lit 62) := by unfold EE; kernel_rfl
end
end Go.Proofs.RepT
