/- Rounds of the run, printed by a program. -/
import Derived.Test.YtihkdgfmmcfpmaaGreatLateS
namespace Go.Proofs.RepT
open Go Go.AL Go.Proofs
set_option maxRecDepth 1000000
noncomputable section
theorem r2_7 : RR (envL E2_7) N2_7 L2_7 d7 (nat_lit 647) E2_8 N2_8 L2_8 := ⟨by kernel_rfl, by kernel_rfl⟩
theorem r2_8 : RR (envL E2_8) N2_8 L2_8 d8 (nat_lit 485) E2_9 N2_9 L2_9 := ⟨by kernel_rfl, by kernel_rfl⟩
theorem r2_9 : RR (envL E2_9) N2_9 L2_9 d9 (nat_lit 485) E2_10 N2_10 L2_10 := ⟨by kernel_rfl, by kernel_rfl⟩
theorem r2_10 : RR (envL E2_10) N2_10 L2_10 d10 (nat_lit 485) E2_11 N2_11 L2_11 := ⟨by kernel_rfl, by kernel_rfl⟩
theorem r2_11 : RR (envL E2_11) N2_11 L2_11 d11 (nat_lit 647) E2_12 N2_12 L2_12 := ⟨by kernel_rfl, by kernel_rfl⟩
theorem r2_12 : RR (envL E2_12) N2_12 L2_12 d12 (nat_lit 485) E2_13 N2_13 L2_13 := ⟨by kernel_rfl, by kernel_rfl⟩
end
end Go.Proofs.RepT
