/- The run of one call, as a machine's. -/
import Derived.Test.YtihkdgfmmcfpmaaGreatRepM
import Derived.Test.YtihkdgfmmcfpmaaGreatAL26
namespace Go.Proofs.RepT
open Go Go.AL Go.Proofs
set_option maxRecDepth 1000000
noncomputable section
def mapU : List Nat → List AVal := @List.rec Nat (fun _ => List AVal) [] (fun n _ ih => U n :: ih)
def Y (l : List Nat) : AVal := .slice (mapU l) false none
def zs (l : Nat) : Nat → List AVal → List AVal := @Nat.rec (fun _ => Nat → List AVal → List AVal) (fun _ a => a) (fun _ ih n a => ih (Nat.div n (nat_lit 256)) (U (Nat.mod n (nat_lit 256)) :: a)) l
def Z (l n : Nat) : AVal := .slice (zs l n []) false none
def start (x : Nat) : Cf := .go body4 [] (argsE [.int .u8 (.ofNat x)] (nat_lit 0) .lf) ⟨nat_lit 0, nat_lit 0, .lf⟩
def post4 : Ex → Env → Store → Prop := retPost c4.res fun b _ => b = .bool true
theorem start_plain (x : Nat) : (start x).plainB = true := by kernel_rfl
theorem run_end (s : Nat) {c : Cf} (hp : c.plainB = true) (h : Go.AL.endsIn c4 (.bool true) (stepsM call4 rounds s c) = true) : c.Means Tryz.prog post4 := by
  refine steps_sound call4_ok s hp (fun hh => ?_) (ends_sound h)
  rw [hh] at h; cases h
end
end Go.Proofs.RepT
