/- Rounds of the run, printed by a program. -/
import Derived.Test.YtihkdgfmmcfpmaaGreatLateS
namespace Go.Proofs.RepT
open Go Go.AL Go.Proofs
set_option maxRecDepth 1000000
noncomputable section
theorem r2_0 : RR (E0 d2) Na La d0 (nat_lit 485) E2_1 N2_1 L2_1 := ⟨by kernel_rfl, by kernel_rfl⟩
theorem r2_1 : RR (envL E2_1) N2_1 L2_1 d1 (nat_lit 485) E2_2 N2_2 L2_2 := ⟨by kernel_rfl, by kernel_rfl⟩
theorem r2_2 : RR (envL E2_2) N2_2 L2_2 d2 (nat_lit 485) E2_3 N2_3 L2_3 := ⟨by kernel_rfl, by kernel_rfl⟩
theorem r2_3 : RR (envL E2_3) N2_3 L2_3 d3 (nat_lit 647) E2_4 N2_4 L2_4 := ⟨by kernel_rfl, by kernel_rfl⟩
theorem r2_4 : RR (envL E2_4) N2_4 L2_4 d4 (nat_lit 485) E2_5 N2_5 L2_5 := ⟨by kernel_rfl, by kernel_rfl⟩
theorem r2_5 : RR (envL E2_5) N2_5 L2_5 d5 (nat_lit 485) E2_6 N2_6 L2_6 := ⟨by kernel_rfl, by kernel_rfl⟩
theorem r2_6 : RR (envL E2_6) N2_6 L2_6 d6 (nat_lit 485) E2_7 N2_7 L2_7 := ⟨by kernel_rfl, by kernel_rfl⟩
end
end Go.Proofs.RepT
