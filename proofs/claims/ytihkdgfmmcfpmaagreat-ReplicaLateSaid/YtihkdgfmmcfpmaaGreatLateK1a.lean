/- Rounds of the run, printed by a program. -/
import Derived.Test.YtihkdgfmmcfpmaaGreatLateS
namespace Go.Proofs.RepT
open Go Go.AL Go.Proofs
set_option maxRecDepth 1000000
noncomputable section
theorem r1_0 : RR (E0 d1) Na La d0 (nat_lit 485) E1_1 N1_1 L1_1 := ⟨by kernel_rfl, by kernel_rfl⟩
theorem r1_1 : RR (envL E1_1) N1_1 L1_1 d1 (nat_lit 485) E1_2 N1_2 L1_2 := ⟨by kernel_rfl, by kernel_rfl⟩
theorem r1_2 : RR (envL E1_2) N1_2 L1_2 d2 (nat_lit 485) E1_3 N1_3 L1_3 := ⟨by kernel_rfl, by kernel_rfl⟩
theorem r1_3 : RR (envL E1_3) N1_3 L1_3 d3 (nat_lit 647) E1_4 N1_4 L1_4 := ⟨by kernel_rfl, by kernel_rfl⟩
theorem r1_4 : RR (envL E1_4) N1_4 L1_4 d4 (nat_lit 485) E1_5 N1_5 L1_5 := ⟨by kernel_rfl, by kernel_rfl⟩
theorem r1_5 : RR (envL E1_5) N1_5 L1_5 d5 (nat_lit 485) E1_6 N1_6 L1_6 := ⟨by kernel_rfl, by kernel_rfl⟩
theorem r1_6 : RR (envL E1_6) N1_6 L1_6 d6 (nat_lit 485) E1_7 N1_7 L1_7 := ⟨by kernel_rfl, by kernel_rfl⟩
end
end Go.Proofs.RepT
