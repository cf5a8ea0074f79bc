/- The run, case 3, in parts. -/
import Derived.Test.YtihkdgfmmcfpmaaGreatRepS3
namespace Go.Proofs.RepT
open Go Go.AL Go.Proofs
set_option maxRecDepth 1000000
noncomputable section
theorem f3 : ((List.range (nat_lit 52)).all fun i => comesF E3_0 N3_0 L3_0 (stepsM call4 rounds (nat_lit 24) (start (Nat.add (Nat.mul (nat_lit 5) i) (nat_lit 3))))) = true := by kernel_rfl
theorem h3 (x : Nat) : (stepsM call4 rounds (nat_lit 24) (start x)).at E3_0 N3_0 L3_0 = .go (.loop (sub body4 [true, true, true, true, true, false, true, false, false])) [.block (nat_lit 0), .seq (sub body4 [true, true, true, true, true, true])] (envL E3_0) (stL N3_0 L3_0) := by kernel_rfl
theorem r3_0 : comes E3_1 N3_1 L3_1 (stepsM call4 rounds (nat_lit 773) c3_0) = true ∧ (stepsM call4 rounds (nat_lit 773) c3_0).at E3_1 N3_1 L3_1 = c3_1 := ⟨by kernel_rfl, by kernel_rfl⟩
theorem r3_1 : comes E3_2 N3_2 L3_2 (stepsM call4 rounds (nat_lit 574) c3_1) = true ∧ (stepsM call4 rounds (nat_lit 574) c3_1).at E3_2 N3_2 L3_2 = c3_2 := ⟨by kernel_rfl, by kernel_rfl⟩
theorem p3_0 : c3_0.plainB = true := by kernel_rfl
theorem p3_1 : c3_1.plainB = true := by kernel_rfl
theorem p3_2 : c3_2.plainB = true := by kernel_rfl
theorem z3 : Go.AL.endsIn c4 (.bool true) (stepsM call4 rounds (nat_lit 5388) c3_2) = true := by kernel_rfl
theorem m3_2 : c3_2.Means Tryz.prog post4 := run_end 5388 p3_2 z3
theorem m3_1 : c3_1.Means Tryz.prog post4 := cut_sound call4_ok 574 p3_1 r3_1.1 r3_1.2 m3_2
theorem m3_0 : c3_0.Means Tryz.prog post4 := cut_sound call4_ok 773 p3_0 r3_0.1 r3_0.2 m3_1
theorem case3 (x i : Nat) (hi : i < 52) (hx : x = 5 * i + 3) : (start x).Means Tryz.prog post4 := by
  subst hx
  exact start_sound call4_ok 24 (start_plain _) (List.all_eq_true.1 f3 i (List.mem_range.2 hi)) (h3 _) m3_0
end
end Go.Proofs.RepT
