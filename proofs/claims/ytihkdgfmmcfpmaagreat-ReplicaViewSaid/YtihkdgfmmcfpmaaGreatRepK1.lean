/- The run, case 1, in parts. -/
import Derived.Test.YtihkdgfmmcfpmaaGreatRepS1
namespace Go.Proofs.RepT
open Go Go.AL Go.Proofs
set_option maxRecDepth 1000000
noncomputable section
theorem f1 : ((List.range (nat_lit 52)).all fun i => comesF E1_0 N1_0 L1_0 (stepsM call4 rounds (nat_lit 24) (start (Nat.add (Nat.mul (nat_lit 5) i) (nat_lit 1))))) = true := by kernel_rfl
theorem h1 (x : Nat) : (stepsM call4 rounds (nat_lit 24) (start x)).at E1_0 N1_0 L1_0 = .go (.loop (sub body4 [true, true, true, true, true, false, true, false, false])) [.block (nat_lit 0), .seq (sub body4 [true, true, true, true, true, true])] (envL E1_0) (stL N1_0 L1_0) := by kernel_rfl
theorem r1_0 : comes E1_1 N1_1 L1_1 (stepsM call4 rounds (nat_lit 745) c1_0) = true ∧ (stepsM call4 rounds (nat_lit 745) c1_0).at E1_1 N1_1 L1_1 = c1_1 := ⟨by kernel_rfl, by kernel_rfl⟩
theorem p1_0 : c1_0.plainB = true := by kernel_rfl
theorem p1_1 : c1_1.plainB = true := by kernel_rfl
theorem z1 : Go.AL.endsIn c4 (.bool true) (stepsM call4 rounds (nat_lit 5248) c1_1) = true := by kernel_rfl
theorem m1_1 : c1_1.Means Tryz.prog post4 := run_end 5248 p1_1 z1
theorem m1_0 : c1_0.Means Tryz.prog post4 := cut_sound call4_ok 745 p1_0 r1_0.1 r1_0.2 m1_1
theorem case1 (x i : Nat) (hi : i < 52) (hx : x = 5 * i + 1) : (start x).Means Tryz.prog post4 := by
  subst hx
  exact start_sound call4_ok 24 (start_plain _) (List.all_eq_true.1 f1 i (List.mem_range.2 hi)) (h1 _) m1_0
end
end Go.Proofs.RepT
