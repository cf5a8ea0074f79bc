/- The rounds and the endings, one behind the other: printed by a program. -/
import Derived.Test.YtihkdgfmmcfpmaaGreatLateY
import Derived.Test.YtihkdgfmmcfpmaaGreatLateK1a
import Derived.Test.YtihkdgfmmcfpmaaGreatLateK1b
import Derived.Test.YtihkdgfmmcfpmaaGreatLateK1c
import Derived.Test.YtihkdgfmmcfpmaaGreatLateK2a
import Derived.Test.YtihkdgfmmcfpmaaGreatLateK2b
import Derived.Test.YtihkdgfmmcfpmaaGreatLateK2c
import Derived.Test.YtihkdgfmmcfpmaaGreatLateK3a
import Derived.Test.YtihkdgfmmcfpmaaGreatLateK3b
import Derived.Test.YtihkdgfmmcfpmaaGreatLateK3c
namespace Go.Proofs.RepT
open Go Go.AL Go.Proofs
set_option maxRecDepth 1000000
noncomputable section
theorem one : ∀ t, [8].contains t = true → t = 8 ∨ t = 34 := fun t h => .inl (by simpa using h)
theorem h1_13 : ∀ v, 13 ≤ v → v ≤ 13 → HM (envL E1_13) N1_13 L1_13 1 [8, 34] v := chain_end t1_13 z1_13
theorem h1_12 : ∀ v, 12 ≤ v → v ≤ 13 → HM (envL E1_12) N1_12 L1_12 2 [8, 34] v := chain (i := 12) rfl (fun _ h => two.1 h) t1_12 r1_12 z1_12 h1_13
theorem h1_11 : ∀ v, 11 ≤ v → v ≤ 13 → HM (envL E1_11) N1_11 L1_11 3 [8, 34] v := chain (i := 11) rfl (fun _ h => two.1 h) t1_11 r1_11 z1_11 h1_12
theorem h1_10 : ∀ v, 10 ≤ v → v ≤ 13 → HM (envL E1_10) N1_10 L1_10 4 [8, 34] v := chain (i := 10) rfl (fun _ h => two.1 h) t1_10 r1_10 z1_10 h1_11
theorem h1_9 : ∀ v, 9 ≤ v → v ≤ 13 → HM (envL E1_9) N1_9 L1_9 5 [8, 34] v := chain (i := 9) rfl (fun _ h => two.1 h) t1_9 r1_9 z1_9 h1_10
theorem h1_8 : ∀ v, 8 ≤ v → v ≤ 13 → HM (envL E1_8) N1_8 L1_8 6 [8, 34] v := chain (i := 8) rfl (fun _ h => two.1 h) t1_8 r1_8 z1_8 h1_9
theorem h1_7 : ∀ v, 7 ≤ v → v ≤ 13 → HM (envL E1_7) N1_7 L1_7 7 [8, 34] v := chain (i := 7) rfl (fun _ h => two.1 h) t1_7 r1_7 z1_7 h1_8
theorem h1_6 : ∀ v, 6 ≤ v → v ≤ 13 → HM (envL E1_6) N1_6 L1_6 8 [8, 34] v := chain (i := 6) rfl (fun _ h => two.1 h) t1_6 r1_6 z1_6 h1_7
theorem h1_5 : ∀ v, 5 ≤ v → v ≤ 13 → HM (envL E1_5) N1_5 L1_5 9 [8, 34] v := chain (i := 5) rfl (fun _ h => two.1 h) t1_5 r1_5 z1_5 h1_6
theorem h1_4 : ∀ v, 4 ≤ v → v ≤ 13 → HM (envL E1_4) N1_4 L1_4 10 [8, 34] v := chain (i := 4) rfl (fun _ h => two.1 h) t1_4 r1_4 z1_4 h1_5
theorem h1_3 : ∀ v, 3 ≤ v → v ≤ 13 → HM (envL E1_3) N1_3 L1_3 11 [8, 34] v := chain (i := 3) rfl (fun _ h => two.1 h) t1_3 r1_3 z1_3 h1_4
theorem h1_2 : ∀ v, 2 ≤ v → v ≤ 13 → HM (envL E1_2) N1_2 L1_2 12 [8, 34] v := chain (i := 2) rfl (fun _ h => two.1 h) t1_2 r1_2 z1_2 h1_3
theorem h1_1 : ∀ v, 1 ≤ v → v ≤ 13 → HM (envL E1_1) N1_1 L1_1 13 [8, 34] v := chain (i := 1) rfl (fun _ h => two.1 h) t1_1 r1_1 z1_1 h1_2
theorem h1_0 : ∀ v, 0 ≤ v → v ≤ 13 → HM (E0 d1) Na La 14 [8] v := chain (i := 0) rfl one t1_0 r1_0 z1_0 h1_1
theorem h2_13 : ∀ v, 13 ≤ v → v ≤ 13 → HM (envL E2_13) N2_13 L2_13 1 [8, 34] v := chain_end t2_13 z2_13
theorem h2_12 : ∀ v, 12 ≤ v → v ≤ 13 → HM (envL E2_12) N2_12 L2_12 2 [8, 34] v := chain (i := 12) rfl (fun _ h => two.1 h) t2_12 r2_12 z2_12 h2_13
theorem h2_11 : ∀ v, 11 ≤ v → v ≤ 13 → HM (envL E2_11) N2_11 L2_11 3 [8, 34] v := chain (i := 11) rfl (fun _ h => two.1 h) t2_11 r2_11 z2_11 h2_12
theorem h2_10 : ∀ v, 10 ≤ v → v ≤ 13 → HM (envL E2_10) N2_10 L2_10 4 [8, 34] v := chain (i := 10) rfl (fun _ h => two.1 h) t2_10 r2_10 z2_10 h2_11
theorem h2_9 : ∀ v, 9 ≤ v → v ≤ 13 → HM (envL E2_9) N2_9 L2_9 5 [8, 34] v := chain (i := 9) rfl (fun _ h => two.1 h) t2_9 r2_9 z2_9 h2_10
theorem h2_8 : ∀ v, 8 ≤ v → v ≤ 13 → HM (envL E2_8) N2_8 L2_8 6 [8, 34] v := chain (i := 8) rfl (fun _ h => two.1 h) t2_8 r2_8 z2_8 h2_9
theorem h2_7 : ∀ v, 7 ≤ v → v ≤ 13 → HM (envL E2_7) N2_7 L2_7 7 [8, 34] v := chain (i := 7) rfl (fun _ h => two.1 h) t2_7 r2_7 z2_7 h2_8
theorem h2_6 : ∀ v, 6 ≤ v → v ≤ 13 → HM (envL E2_6) N2_6 L2_6 8 [8, 34] v := chain (i := 6) rfl (fun _ h => two.1 h) t2_6 r2_6 z2_6 h2_7
theorem h2_5 : ∀ v, 5 ≤ v → v ≤ 13 → HM (envL E2_5) N2_5 L2_5 9 [8, 34] v := chain (i := 5) rfl (fun _ h => two.1 h) t2_5 r2_5 z2_5 h2_6
theorem h2_4 : ∀ v, 4 ≤ v → v ≤ 13 → HM (envL E2_4) N2_4 L2_4 10 [8, 34] v := chain (i := 4) rfl (fun _ h => two.1 h) t2_4 r2_4 z2_4 h2_5
theorem h2_3 : ∀ v, 3 ≤ v → v ≤ 13 → HM (envL E2_3) N2_3 L2_3 11 [8, 34] v := chain (i := 3) rfl (fun _ h => two.1 h) t2_3 r2_3 z2_3 h2_4
theorem h2_2 : ∀ v, 2 ≤ v → v ≤ 13 → HM (envL E2_2) N2_2 L2_2 12 [8, 34] v := chain (i := 2) rfl (fun _ h => two.1 h) t2_2 r2_2 z2_2 h2_3
theorem h2_1 : ∀ v, 1 ≤ v → v ≤ 13 → HM (envL E2_1) N2_1 L2_1 13 [8, 34] v := chain (i := 1) rfl (fun _ h => two.1 h) t2_1 r2_1 z2_1 h2_2
theorem h2_0 : ∀ v, 0 ≤ v → v ≤ 13 → HM (E0 d2) Na La 14 [8] v := chain (i := 0) rfl one t2_0 r2_0 z2_0 h2_1
theorem h3_13 : ∀ v, 13 ≤ v → v ≤ 13 → HM (envL E3_13) N3_13 L3_13 1 [8, 34] v := chain_end t3_13 z3_13
theorem h3_12 : ∀ v, 12 ≤ v → v ≤ 13 → HM (envL E3_12) N3_12 L3_12 2 [8, 34] v := chain (i := 12) rfl (fun _ h => two.1 h) t3_12 r3_12 z3_12 h3_13
theorem h3_11 : ∀ v, 11 ≤ v → v ≤ 13 → HM (envL E3_11) N3_11 L3_11 3 [8, 34] v := chain (i := 11) rfl (fun _ h => two.1 h) t3_11 r3_11 z3_11 h3_12
theorem h3_10 : ∀ v, 10 ≤ v → v ≤ 13 → HM (envL E3_10) N3_10 L3_10 4 [8, 34] v := chain (i := 10) rfl (fun _ h => two.1 h) t3_10 r3_10 z3_10 h3_11
theorem h3_9 : ∀ v, 9 ≤ v → v ≤ 13 → HM (envL E3_9) N3_9 L3_9 5 [8, 34] v := chain (i := 9) rfl (fun _ h => two.1 h) t3_9 r3_9 z3_9 h3_10
theorem h3_8 : ∀ v, 8 ≤ v → v ≤ 13 → HM (envL E3_8) N3_8 L3_8 6 [8, 34] v := chain (i := 8) rfl (fun _ h => two.1 h) t3_8 r3_8 z3_8 h3_9
theorem h3_7 : ∀ v, 7 ≤ v → v ≤ 13 → HM (envL E3_7) N3_7 L3_7 7 [8, 34] v := chain (i := 7) rfl (fun _ h => two.1 h) t3_7 r3_7 z3_7 h3_8
theorem h3_6 : ∀ v, 6 ≤ v → v ≤ 13 → HM (envL E3_6) N3_6 L3_6 8 [8, 34] v := chain (i := 6) rfl (fun _ h => two.1 h) t3_6 r3_6 z3_6 h3_7
theorem h3_5 : ∀ v, 5 ≤ v → v ≤ 13 → HM (envL E3_5) N3_5 L3_5 9 [8, 34] v := chain (i := 5) rfl (fun _ h => two.1 h) t3_5 r3_5 z3_5 h3_6
theorem h3_4 : ∀ v, 4 ≤ v → v ≤ 13 → HM (envL E3_4) N3_4 L3_4 10 [8, 34] v := chain (i := 4) rfl (fun _ h => two.1 h) t3_4 r3_4 z3_4 h3_5
theorem h3_3 : ∀ v, 3 ≤ v → v ≤ 13 → HM (envL E3_3) N3_3 L3_3 11 [8, 34] v := chain (i := 3) rfl (fun _ h => two.1 h) t3_3 r3_3 z3_3 h3_4
theorem h3_2 : ∀ v, 2 ≤ v → v ≤ 13 → HM (envL E3_2) N3_2 L3_2 12 [8, 34] v := chain (i := 2) rfl (fun _ h => two.1 h) t3_2 r3_2 z3_2 h3_3
theorem h3_1 : ∀ v, 1 ≤ v → v ≤ 13 → HM (envL E3_1) N3_1 L3_1 13 [8, 34] v := chain (i := 1) rfl (fun _ h => two.1 h) t3_1 r3_1 z3_1 h3_2
theorem h3_0 : ∀ v, 0 ≤ v → v ≤ 13 → HM (E0 d3) Na La 14 [8] v := chain (i := 0) rfl one t3_0 r3_0 z3_0 h3_1
theorem all_run (x y : Nat) : (start x y).Means Tryz.prog post3 := by
  refine start_run x y fun v hv => ?_
  obtain h | h | h : y % 3 = 0 ∨ y % 3 = 1 ∨ y % 3 = 2 := by omega
  · rw [h]; exact h1_0 v (Nat.zero_le _) hv
  · rw [h]; exact h2_0 v (Nat.zero_le _) hv
  · rw [h]; exact h3_0 v (Nat.zero_le _) hv
end
end Go.Proofs.RepT
