/-
  No cell of these rows narrows 'for every input' (looked for: loops, veiled, ifaces, maps, wideKeys, modest, calm, conditions, laid).
  DERIVED. THE GIVEN ROWS OF THIS SEAT. 4 by the template 'for every input the law returns true; each argument reads behind the call as it read before'; 0 by the template 'total and deterministic' (their statements: YthjhmfhmejlenaaGreatTotals.lean).
  GIVEN WITH THE SEED: the statements are not yours to turn. If you find one false, say at which input.
  Laid BY PROGRAM, IN A SANDBOX (cutbox-rows.mjs): the forced cells as the released guide's own fill.sh prints them over the translation 6112f230a7934427… (all of the seat's roots in one cut). By AI agents, Wed Nov 11 2026. No macro, syntax, notation, axiom, sorry.
-/
import Derived.Test.YthjhmfhmejlenaaGreatChecked
import GoSem.Claim
import GoSem.ClaimJoined
import GoSem.ClaimMapViews
import Derived.JoinedTies
import Derived.KernelRfl
namespace Go.Proofs.YthjhmfhmejlenaaGreat
/- THE CELL 'sum', in the pinned program and in every row, IS THE sha256 OF THE DUMP (.gsa) THAT YthjhmfhmejlenaaGreatProg.lean LOADS. Nothing in Lean hashes anything: it is a label: what it is worth is what the hold of that sum in a sandbox is worth. -/
noncomputable def Tryz.pinned : Pinned := { name := "ythjhmfhmejlenaagreat", sum := "6112f230a7934427a45b3aa0d8a90c0e8130c09a9b3a30d2cbfcf58956f135be", checked := Tryz.checked }
namespace Rows
def none {H : Type} : Left H := { results := [], args := [] }

/-- 'cohortlaw17.ReplicaAgree': WHATEVER THE INPUT: true; the input reads as it did. -/
def replicaAgreeSpec : ChangeSpec := { name := "replicaAgree", fn := fun _ => fun
  | [d1, d2] => { results := [.lit (.bool true)], args := [d1, d2] }
  | _ => none }
def replicaAgreeRow : OpenClaim := { program := "ythjhmfhmejlenaagreat", sum := "6112f230a7934427a45b3aa0d8a90c0e8130c09a9b3a30d2cbfcf58956f135be", func := "cohort/cohortlaw17.ReplicaAgree", spec := "replicaAgree", unfollowed := true, recurses := true, plainKeys := false, apart := false }
def ReplicaAgreeSaid : Prop := replicaAgreeRow.holds Tryz.pinned (OpenSpec.ofChange replicaAgreeSpec)

/-- ITS FALSE NEIGHBOUR: 'it returns false'. Refute it at one input. -/
def replicaAgreeWrong : ChangeSpec := { name := "replicaAgree", fn := fun _ => fun
  | [d1, d2] => { results := [.lit (.bool false)], args := [d1, d2] }
  | _ => none }
def ReplicaAgreeWrongFalsely : Prop := replicaAgreeRow.holds Tryz.pinned (OpenSpec.ofChange replicaAgreeWrong)

/-- 'cohortlaw17.ReplicaSays': WHATEVER THE INPUT: true; the input reads as it did. -/
def replicaSaysSpec : ChangeSpec := { name := "replicaSays", fn := fun _ => fun
  | [d1, d2] => { results := [.lit (.bool true)], args := [d1, d2] }
  | _ => none }
def replicaSaysRow : OpenClaim := { program := "ythjhmfhmejlenaagreat", sum := "6112f230a7934427a45b3aa0d8a90c0e8130c09a9b3a30d2cbfcf58956f135be", func := "cohort/cohortlaw17.ReplicaSays", spec := "replicaSays", unfollowed := true, recurses := true, plainKeys := false, apart := false }
def ReplicaSaysSaid : Prop := replicaSaysRow.holds Tryz.pinned (OpenSpec.ofChange replicaSaysSpec)

/-- ITS FALSE NEIGHBOUR: 'it returns false'. Refute it at one input. -/
def replicaSaysWrong : ChangeSpec := { name := "replicaSays", fn := fun _ => fun
  | [d1, d2] => { results := [.lit (.bool false)], args := [d1, d2] }
  | _ => none }
def ReplicaSaysWrongFalsely : Prop := replicaSaysRow.holds Tryz.pinned (OpenSpec.ofChange replicaSaysWrong)

/-- 'cohortlaw17.ReplicaDeaf': WHATEVER THE INPUT: true; the input reads as it did. -/
def replicaDeafSpec : ChangeSpec := { name := "replicaDeaf", fn := fun _ => fun
  | [d1, d2, d3, d4, d5] => { results := [.lit (.bool true)], args := [d1, d2, d3, d4, d5] }
  | _ => none }
def replicaDeafRow : OpenClaim := { program := "ythjhmfhmejlenaagreat", sum := "6112f230a7934427a45b3aa0d8a90c0e8130c09a9b3a30d2cbfcf58956f135be", func := "cohort/cohortlaw17.ReplicaDeaf", spec := "replicaDeaf", unfollowed := true, recurses := true, plainKeys := false, apart := false }
def ReplicaDeafSaid : Prop := replicaDeafRow.holds Tryz.pinned (OpenSpec.ofChange replicaDeafSpec)

/-- ITS FALSE NEIGHBOUR: 'it returns false'. Refute it at one input. -/
def replicaDeafWrong : ChangeSpec := { name := "replicaDeaf", fn := fun _ => fun
  | [d1, d2, d3, d4, d5] => { results := [.lit (.bool false)], args := [d1, d2, d3, d4, d5] }
  | _ => none }
def ReplicaDeafWrongFalsely : Prop := replicaDeafRow.holds Tryz.pinned (OpenSpec.ofChange replicaDeafWrong)

/-- 'cohortlaw17.ReplicaStays': WHATEVER THE INPUT: true; the input reads as it did. -/
def replicaStaysSpec : ChangeSpec := { name := "replicaStays", fn := fun _ => fun
  | [d1, d2] => { results := [.lit (.bool true)], args := [d1, d2] }
  | _ => none }
def replicaStaysRow : OpenClaim := { program := "ythjhmfhmejlenaagreat", sum := "6112f230a7934427a45b3aa0d8a90c0e8130c09a9b3a30d2cbfcf58956f135be", func := "cohort/cohortlaw17.ReplicaStays", spec := "replicaStays", unfollowed := true, recurses := true, plainKeys := false, apart := false }
def ReplicaStaysSaid : Prop := replicaStaysRow.holds Tryz.pinned (OpenSpec.ofChange replicaStaysSpec)

/-- ITS FALSE NEIGHBOUR: 'it returns false'. Refute it at one input. -/
def replicaStaysWrong : ChangeSpec := { name := "replicaStays", fn := fun _ => fun
  | [d1, d2] => { results := [.lit (.bool false)], args := [d1, d2] }
  | _ => none }
def ReplicaStaysWrongFalsely : Prop := replicaStaysRow.holds Tryz.pinned (OpenSpec.ofChange replicaStaysWrong)

/- THE SECOND FORM. 'bulk': how many values and letters a reading holds, each counted each time it is reached (what is shared counts as often as it is met; a slice's spare places count too). A statement '..UptoSaid' is the law's where the arguments, and the package variables that the reading takes, are together of bulk at most 1048576: NARROWER than '..Said'. Prove '..Said' where nothing that the law and all that it calls make is longer than what came in: it says more and counts as full. Else prove '..UptoSaid'. A law counts once. -/
mutual
def uptoBulk {H : Type} : DataW H → Nat
  | .lit (.string bytes) => bytes.length + 1
  | .lit _ => 1
  | .nil => 1
  | .ptr d => uptoBulk d + 1
  | .slice elems spare => uptoBulkAll elems + uptoBulkAll spare + 1
  | .agg parts => uptoBulkAll parts + 1
  | .iface _ d => uptoBulk d + 1
  | .map entries => uptoBulkEntries entries + 1
  | .held _ => 1
def uptoBulkAll {H : Type} : List (DataW H) → Nat
  | [] => 0
  | d :: r => uptoBulk d + uptoBulkAll r
def uptoBulkEntries {H : Type} : List (Lit × DataW H) → Nat
  | [] => 0
  | x :: r => uptoBulkEntry x + uptoBulkEntries r
def uptoBulkEntry {H : Type} : Lit × DataW H → Nat
  | (.string bytes, d) => bytes.length + uptoBulk d + 1
  | (_, d) => uptoBulk d + 1
 end
def uptoSmall : (H : Type) → List (DataW H) → Bool := fun _ ds => decide (uptoBulkAll ds ≤ 1048576)
def OpenSpec.upto (s : _root_.Go.ChangeSpec) : _root_.Go.OpenSpec := { _root_.Go.OpenSpec.ofChange s with cond := some uptoSmall }

/-- 'cohortlaw17.ReplicaAgree', WHERE WHAT IT READS IS OF BULK AT MOST 1048576: true; the input reads as it did. -/
def replicaAgreeUptoRow : OpenClaim := { program := "ythjhmfhmejlenaagreat", sum := "6112f230a7934427a45b3aa0d8a90c0e8130c09a9b3a30d2cbfcf58956f135be", func := "cohort/cohortlaw17.ReplicaAgree", spec := "replicaAgree", unfollowed := true, recurses := true, plainKeys := false, apart := false, narrowed := true }
def ReplicaAgreeUptoSaid : Prop := replicaAgreeUptoRow.holds Tryz.pinned (OpenSpec.upto replicaAgreeSpec)

/-- 'cohortlaw17.ReplicaSays', WHERE WHAT IT READS IS OF BULK AT MOST 1048576: true; the input reads as it did. -/
def replicaSaysUptoRow : OpenClaim := { program := "ythjhmfhmejlenaagreat", sum := "6112f230a7934427a45b3aa0d8a90c0e8130c09a9b3a30d2cbfcf58956f135be", func := "cohort/cohortlaw17.ReplicaSays", spec := "replicaSays", unfollowed := true, recurses := true, plainKeys := false, apart := false, narrowed := true }
def ReplicaSaysUptoSaid : Prop := replicaSaysUptoRow.holds Tryz.pinned (OpenSpec.upto replicaSaysSpec)

/-- 'cohortlaw17.ReplicaDeaf', WHERE WHAT IT READS IS OF BULK AT MOST 1048576: true; the input reads as it did. -/
def replicaDeafUptoRow : OpenClaim := { program := "ythjhmfhmejlenaagreat", sum := "6112f230a7934427a45b3aa0d8a90c0e8130c09a9b3a30d2cbfcf58956f135be", func := "cohort/cohortlaw17.ReplicaDeaf", spec := "replicaDeaf", unfollowed := true, recurses := true, plainKeys := false, apart := false, narrowed := true }
def ReplicaDeafUptoSaid : Prop := replicaDeafUptoRow.holds Tryz.pinned (OpenSpec.upto replicaDeafSpec)

/-- 'cohortlaw17.ReplicaStays', WHERE WHAT IT READS IS OF BULK AT MOST 1048576: true; the input reads as it did. -/
def replicaStaysUptoRow : OpenClaim := { program := "ythjhmfhmejlenaagreat", sum := "6112f230a7934427a45b3aa0d8a90c0e8130c09a9b3a30d2cbfcf58956f135be", func := "cohort/cohortlaw17.ReplicaStays", spec := "replicaStays", unfollowed := true, recurses := true, plainKeys := false, apart := false, narrowed := true }
def ReplicaStaysUptoSaid : Prop := replicaStaysUptoRow.holds Tryz.pinned (OpenSpec.upto replicaStaysSpec)

end Rows
end Go.Proofs.YthjhmfhmejlenaaGreat
