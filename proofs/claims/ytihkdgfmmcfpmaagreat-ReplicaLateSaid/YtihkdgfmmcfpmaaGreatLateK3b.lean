/- Rounds of the run, printed by a program. -/
import Derived.Test.YtihkdgfmmcfpmaaGreatLateS
namespace Go.Proofs.RepT
open Go Go.AL Go.Proofs
set_option maxRecDepth 1000000
noncomputable section
theorem r3_7 : RR (envL E3_7) N3_7 L3_7 d7 (nat_lit 647) E3_8 N3_8 L3_8 := ⟨by kernel_rfl, by kernel_rfl⟩
theorem r3_8 : RR (envL E3_8) N3_8 L3_8 d8 (nat_lit 485) E3_9 N3_9 L3_9 := ⟨by kernel_rfl, by kernel_rfl⟩
theorem r3_9 : RR (envL E3_9) N3_9 L3_9 d9 (nat_lit 485) E3_10 N3_10 L3_10 := ⟨by kernel_rfl, by kernel_rfl⟩
theorem r3_10 : RR (envL E3_10) N3_10 L3_10 d10 (nat_lit 485) E3_11 N3_11 L3_11 := ⟨by kernel_rfl, by kernel_rfl⟩
theorem r3_11 : RR (envL E3_11) N3_11 L3_11 d11 (nat_lit 647) E3_12 N3_12 L3_12 := ⟨by kernel_rfl, by kernel_rfl⟩
theorem r3_12 : RR (envL E3_12) N3_12 L3_12 d12 (nat_lit 485) E3_13 N3_13 L3_13 := ⟨by kernel_rfl, by kernel_rfl⟩
end
end Go.Proofs.RepT
