/- Rounds of the run, printed by a program. -/
import Derived.Test.YtihkdgfmmcfpmaaGreatLateS
namespace Go.Proofs.RepT
open Go Go.AL Go.Proofs
set_option maxRecDepth 1000000
noncomputable section
theorem r3_0 : RR (E0 d3) Na La d0 (nat_lit 485) E3_1 N3_1 L3_1 := ⟨by kernel_rfl, by kernel_rfl⟩
theorem r3_1 : RR (envL E3_1) N3_1 L3_1 d1 (nat_lit 485) E3_2 N3_2 L3_2 := ⟨by kernel_rfl, by kernel_rfl⟩
theorem r3_2 : RR (envL E3_2) N3_2 L3_2 d2 (nat_lit 485) E3_3 N3_3 L3_3 := ⟨by kernel_rfl, by kernel_rfl⟩
theorem r3_3 : RR (envL E3_3) N3_3 L3_3 d3 (nat_lit 647) E3_4 N3_4 L3_4 := ⟨by kernel_rfl, by kernel_rfl⟩
theorem r3_4 : RR (envL E3_4) N3_4 L3_4 d4 (nat_lit 485) E3_5 N3_5 L3_5 := ⟨by kernel_rfl, by kernel_rfl⟩
theorem r3_5 : RR (envL E3_5) N3_5 L3_5 d5 (nat_lit 485) E3_6 N3_6 L3_6 := ⟨by kernel_rfl, by kernel_rfl⟩
theorem r3_6 : RR (envL E3_6) N3_6 L3_6 d6 (nat_lit 485) E3_7 N3_7 L3_7 := ⟨by kernel_rfl, by kernel_rfl⟩
end
end Go.Proofs.RepT
