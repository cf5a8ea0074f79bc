/- Endings of the run, printed by a program. -/
import Derived.Test.YtihkdgfmmcfpmaaGreatLateS
namespace Go.Proofs.RepT
open Go Go.AL Go.Proofs
set_option maxRecDepth 1000000
noncomputable section
theorem t1_0 : HH (E0 d1) d0 := ⟨by kernel_rfl, by kernel_rfl⟩
theorem z1_0 : EE (E0 d1) Na La d0 (nat_lit 48) := by unfold EE; kernel_rfl
theorem t1_1 : HH (envL E1_1) d1 := ⟨by kernel_rfl, by kernel_rfl⟩
theorem z1_1 : EE (envL E1_1) N1_1 L1_1 d1 (nat_lit 48) := by unfold EE; kernel_rfl
theorem t1_2 : HH (envL E1_2) d2 := ⟨by kernel_rfl, by kernel_rfl⟩
theorem z1_2 : EE (envL E1_2) N1_2 L1_2 d2 (nat_lit 48) := by unfold EE; kernel_rfl
theorem t1_3 : HH (envL E1_3) d3 := ⟨by kernel_rfl, by kernel_rfl⟩
theorem z1_3 : EE (envL E1_3) N1_3 L1_3 d3 (nat_lit 48) := by unfold EE; kernel_rfl
theorem t1_4 : HH (envL E1_4) d4 := ⟨by kernel_rfl, by kernel_rfl⟩
theorem z1_4 : EE (envL E1_4) N1_4 L1_4 d4 (nat_lit 62) := by unfold EE; kernel_rfl
theorem t1_5 : HH (envL E1_5) d5 := ⟨by kernel_rfl, by kernel_rfl⟩
theorem z1_5 : EE (envL E1_5) N1_5 L1_5 d5 (nat_lit 62) := by unfold EE; kernel_rfl
theorem t1_6 : HH (envL E1_6) d6 := ⟨by kernel_rfl, by kernel_rfl⟩
theorem z1_6 : EE (envL E1_6) N1_6 L1_6 d6 (nat_lit 62) := by unfold EE; kernel_rfl
theorem t1_7 : HH (envL E1_7) d7 := ⟨by kernel_rfl, by kernel_rfl⟩
theorem z1_7 : EE (envL E1_7) N1_7 L1_7 d7 (nat_lit 62) := by unfold EE; kernel_rfl
theorem t1_8 : HH (envL E1_8) d8 := ⟨by kernel_rfl, by kernel_rfl⟩
theorem z1_8 : EE (envL E1_8) N1_8 L1_8 d8 (nat_lit 62) := by unfold EE; kernel_rfl
theorem t1_9 : HH (envL E1_9) d9 := ⟨by kernel_rfl, by kernel_rfl⟩
theorem z1_9 : EE (envL E1_9) N1_9 L1_9 d9 (nat_lit 62) := by unfold EE; kernel_rfl
theorem t1_10 : HH (envL E1_10) d10 := ⟨by kernel_rfl, by kernel_rfl⟩
theorem z1_10 : EE (envL E1_10) N1_10 L1_10 d10 (nat_lit 62) := by unfold EE; kernel_rfl
theorem t1_11 : HH (envL E1_11) d11 := ⟨by kernel_rfl, by kernel_rfl⟩
theorem z1_11 : EE (envL E1_11) N1_11 L1_11 d11 (nat_lit 62) := by unfold EE; kernel_rfl
theorem t1_12 : HH (envL E1_12) d12 := ⟨by kernel_rfl, by kernel_rfl⟩
theorem z1_12 : EE (envL E1_12) N1_12 L1_12 d12 (nat_lit 62) := by unfold EE; kernel_rfl
theorem t1_13 : HH (envL E1_13) d13 := ⟨by kernel_rfl, by kernel_rfl⟩
theorem z1_13 : EE (envL E1_13) N1_13 L1_13 d13 (nat_lit 62) := by unfold EE; kernel_rfl
end
end Go.Proofs.RepT
