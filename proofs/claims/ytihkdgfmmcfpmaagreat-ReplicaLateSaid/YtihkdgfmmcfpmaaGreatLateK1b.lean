/- Rounds of the run, printed by a program. -/
import Derived.Test.YtihkdgfmmcfpmaaGreatLateS
namespace Go.Proofs.RepT
open Go Go.AL Go.Proofs
set_option maxRecDepth 1000000
noncomputable section
theorem r1_7 : RR (envL E1_7) N1_7 L1_7 d7 (nat_lit 647) E1_8 N1_8 L1_8 := ⟨by kernel_rfl, by kernel_rfl⟩
theorem r1_8 : RR (envL E1_8) N1_8 L1_8 d8 (nat_lit 485) E1_9 N1_9 L1_9 := ⟨by kernel_rfl, by kernel_rfl⟩
theorem r1_9 : RR (envL E1_9) N1_9 L1_9 d9 (nat_lit 485) E1_10 N1_10 L1_10 := ⟨by kernel_rfl, by kernel_rfl⟩
theorem r1_10 : RR (envL E1_10) N1_10 L1_10 d10 (nat_lit 485) E1_11 N1_11 L1_11 := ⟨by kernel_rfl, by kernel_rfl⟩
theorem r1_11 : RR (envL E1_11) N1_11 L1_11 d11 (nat_lit 647) E1_12 N1_12 L1_12 := ⟨by kernel_rfl, by kernel_rfl⟩
theorem r1_12 : RR (envL E1_12) N1_12 L1_12 d12 (nat_lit 485) E1_13 N1_13 L1_13 := ⟨by kernel_rfl, by kernel_rfl⟩
end
end Go.Proofs.RepT
