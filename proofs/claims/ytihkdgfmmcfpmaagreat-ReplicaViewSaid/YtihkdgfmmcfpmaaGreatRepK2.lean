/- The run, case 2, in parts. -/
import Derived.Test.YtihkdgfmmcfpmaaGreatRepS2
namespace Go.Proofs.RepT
open Go Go.AL Go.Proofs
set_option maxRecDepth 1000000
noncomputable section
theorem f2 : ((List.range (nat_lit 52)).all fun i => comesF E2_0 N2_0 L2_0 (stepsM call4 rounds (nat_lit 24) (start (Nat.add (Nat.mul (nat_lit 5) i) (nat_lit 2))))) = true := by kernel_rfl
theorem h2 (x : Nat) : (stepsM call4 rounds (nat_lit 24) (start x)).at E2_0 N2_0 L2_0 = .go (.loop (sub body4 [true, true, true, true, true, false, true, false, false])) [.block (nat_lit 0), .seq (sub body4 [true, true, true, true, true, true])] (envL E2_0) (stL N2_0 L2_0) := by kernel_rfl
theorem r2_0 : comes E2_1 N2_1 L2_1 (stepsM call4 rounds (nat_lit 661) c2_0) = true ∧ (stepsM call4 rounds (nat_lit 661) c2_0).at E2_1 N2_1 L2_1 = c2_1 := ⟨by kernel_rfl, by kernel_rfl⟩
theorem r2_1 : comes E2_2 N2_2 L2_2 (stepsM call4 rounds (nat_lit 420) c2_1) = true ∧ (stepsM call4 rounds (nat_lit 420) c2_1).at E2_2 N2_2 L2_2 = c2_2 := ⟨by kernel_rfl, by kernel_rfl⟩
theorem p2_0 : c2_0.plainB = true := by kernel_rfl
theorem p2_1 : c2_1.plainB = true := by kernel_rfl
theorem p2_2 : c2_2.plainB = true := by kernel_rfl
theorem z2 : Go.AL.endsIn c4 (.bool true) (stepsM call4 rounds (nat_lit 5220) c2_2) = true := by kernel_rfl
theorem m2_2 : c2_2.Means Tryz.prog post4 := run_end 5220 p2_2 z2
theorem m2_1 : c2_1.Means Tryz.prog post4 := cut_sound call4_ok 420 p2_1 r2_1.1 r2_1.2 m2_2
theorem m2_0 : c2_0.Means Tryz.prog post4 := cut_sound call4_ok 661 p2_0 r2_0.1 r2_0.2 m2_1
theorem case2 (x i : Nat) (hi : i < 52) (hx : x = 5 * i + 2) : (start x).Means Tryz.prog post4 := by
  subst hx
  exact start_sound call4_ok 24 (start_plain _) (List.all_eq_true.1 f2 i (List.mem_range.2 hi)) (h2 _) m2_0
end
end Go.Proofs.RepT
