/- The law's argument, by bounds. -/
import Derived.Test.YtfoeaeeaflmkfaaGreatCfC
set_option linter.unusedSectionVars false
set_option linter.unusedVariables false
set_option linter.unusedSimpArgs false
namespace Go.Proofs.RepT
open Go Go.AL Go.AL.SX
set_option maxRecDepth 1000000
def pcT:Ty:=.agg [.str maxLen,full .i64,full .i64]
def kc (f0 f1 s0 s1:Int) (l0 l1:Nat):Con:=⟨[.agg [.int .i64 f0 f1,.int .i64 s0 s1,.sl pcT 0 maxLen,.sl (full .i64) l0 l1]],[],[([.con (.bool true)],[],[])],[],[],[],[]⟩
abbrev Ck (f0 f1 s0 s1:Int) (l0 l1:Nat):Prop:=check TB (below rank FF (rank 3)) deepN (kc f0 f1 s0 s1 l0 l1) n3 l3 c3=true
end Go.Proofs.RepT
