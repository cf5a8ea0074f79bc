/- The run, case 4, in parts. -/
import Derived.Test.YtihkdgfmmcfpmaaGreatRepS4
namespace Go.Proofs.RepT
open Go Go.AL Go.Proofs
set_option maxRecDepth 1000000
noncomputable section
theorem f4 : ((List.range (nat_lit 52)).all fun i => comesF E4_0 N4_0 L4_0 (stepsM call4 rounds (nat_lit 24) (start (Nat.add (Nat.mul (nat_lit 5) i) (nat_lit 4))))) = true := by kernel_rfl
theorem h4 (x : Nat) : (stepsM call4 rounds (nat_lit 24) (start x)).at E4_0 N4_0 L4_0 = .go (.loop (sub body4 [true, true, true, true, true, false, true, false, false])) [.block (nat_lit 0), .seq (sub body4 [true, true, true, true, true, true])] (envL E4_0) (stL N4_0 L4_0) := by kernel_rfl
theorem r4_0 : comes E4_1 N4_1 L4_1 (stepsM call4 rounds (nat_lit 647) c4_0) = true ∧ (stepsM call4 rounds (nat_lit 647) c4_0).at E4_1 N4_1 L4_1 = c4_1 := ⟨by kernel_rfl, by kernel_rfl⟩
theorem r4_1 : comes E4_2 N4_2 L4_2 (stepsM call4 rounds (nat_lit 546) c4_1) = true ∧ (stepsM call4 rounds (nat_lit 546) c4_1).at E4_2 N4_2 L4_2 = c4_2 := ⟨by kernel_rfl, by kernel_rfl⟩
theorem r4_2 : comes E4_3 N4_3 L4_3 (stepsM call4 rounds (nat_lit 546) c4_2) = true ∧ (stepsM call4 rounds (nat_lit 546) c4_2).at E4_3 N4_3 L4_3 = c4_3 := ⟨by kernel_rfl, by kernel_rfl⟩
theorem p4_0 : c4_0.plainB = true := by kernel_rfl
theorem p4_1 : c4_1.plainB = true := by kernel_rfl
theorem p4_2 : c4_2.plainB = true := by kernel_rfl
theorem p4_3 : c4_3.plainB = true := by kernel_rfl
theorem z4 : Go.AL.endsIn c4 (.bool true) (stepsM call4 rounds (nat_lit 5304) c4_3) = true := by kernel_rfl
theorem m4_3 : c4_3.Means Tryz.prog post4 := run_end 5304 p4_3 z4
theorem m4_2 : c4_2.Means Tryz.prog post4 := cut_sound call4_ok 546 p4_2 r4_2.1 r4_2.2 m4_3
theorem m4_1 : c4_1.Means Tryz.prog post4 := cut_sound call4_ok 546 p4_1 r4_1.1 r4_1.2 m4_2
theorem m4_0 : c4_0.Means Tryz.prog post4 := cut_sound call4_ok 647 p4_0 r4_0.1 r4_0.2 m4_1
theorem case4 (x i : Nat) (hi : i < 52) (hx : x = 5 * i + 4) : (start x).Means Tryz.prog post4 := by
  subst hx
  exact start_sound call4_ok 24 (start_plain _) (List.all_eq_true.1 f4 i (List.mem_range.2 hi)) (h4 _) m4_0
end
end Go.Proofs.RepT
