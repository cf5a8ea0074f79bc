/- The run, case 0, in parts. -/
import Derived.Test.YtihkdgfmmcfpmaaGreatRepS0
namespace Go.Proofs.RepT
open Go Go.AL Go.Proofs
set_option maxRecDepth 1000000
noncomputable section
theorem f0 : ((List.range (nat_lit 52)).all fun i => comesF E0_0 N0_0 L0_0 (stepsM call4 rounds (nat_lit 24) (start (Nat.add (Nat.mul (nat_lit 5) i) (nat_lit 0))))) = true := by kernel_rfl
theorem h0 (x : Nat) : (stepsM call4 rounds (nat_lit 24) (start x)).at E0_0 N0_0 L0_0 = .go (.loop (sub body4 [true, true, true, true, true, false, true, false, false])) [.block (nat_lit 0), .seq (sub body4 [true, true, true, true, true, true])] (envL E0_0) (stL N0_0 L0_0) := by kernel_rfl
theorem r0_0 : comes E0_1 N0_1 L0_1 (stepsM call4 rounds (nat_lit 633) c0_0) = true ∧ (stepsM call4 rounds (nat_lit 633) c0_0).at E0_1 N0_1 L0_1 = c0_1 := ⟨by kernel_rfl, by kernel_rfl⟩
theorem p0_0 : c0_0.plainB = true := by kernel_rfl
theorem p0_1 : c0_1.plainB = true := by kernel_rfl
theorem z0 : Go.AL.endsIn c4 (.bool true) (stepsM call4 rounds (nat_lit 5052) c0_1) = true := by kernel_rfl
theorem m0_1 : c0_1.Means Tryz.prog post4 := run_end 5052 p0_1 z0
theorem m0_0 : c0_0.Means Tryz.prog post4 := cut_sound call4_ok 633 p0_0 r0_0.1 r0_0.2 m0_1
theorem case0 (x i : Nat) (hi : i < 52) (hx : x = 5 * i + 0) : (start x).Means Tryz.prog post4 := by
  subst hx
  exact start_sound call4_ok 24 (start_plain _) (List.all_eq_true.1 f0 i (List.mem_range.2 hi)) (h0 _) m0_0
end
end Go.Proofs.RepT
