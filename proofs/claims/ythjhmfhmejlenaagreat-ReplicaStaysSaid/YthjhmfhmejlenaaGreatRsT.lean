/- The functions in small: each is the small form of the program's own, reckoned by the kernel. -/
import Derived.Test.YthjhmfhmejlenaaGreatProg
import Derived.Test.YthjhmfhmejlenaaGreatAL24
set_option linter.unusedSectionVars false
set_option linter.unusedVariables false
set_option linter.unusedSimpArgs false
namespace Go.Proofs.eK
open Go Go.bO Go.Proofs
set_option maxRecDepth 1000000
def nJ {α:Type} (d:α):List (Nat × α)→Nat→α
 | [],_=>d
 |(k,a)::l,n=>bif Nat.beq k n then a else nJ d l n
def Pg:List (Nat × List Nat):=[(7,[92]),(9,[23,64,96]),(11,[71]),(22,[97,122,1000069]),(23,[21]),(27,[60]),(28,[6,8,10]),(32,[5]),(33,[5]),(34,[21]),(38,[4,40,1000065]),(41,[2000072,2000083,2000190]),(45,[3000056]),(48,[2000072,2000083,2000190]),(50,[3,7]),(62,[8]),(63,[6]),(64,[3]),(65,[3]),(74,[42]),(79,[3]),(80,[3]),(83,[6]),(87,[2,3]),(90,[5]),(94,[1000063,2000072,2000083,2000190]),(112,[3]),(113,[2]),(122,[9]),(141,[30]),(151,[5]),(159,[2,3]),(168,[24]),(169,[3]),(171,[5,1000005,1000007]),(180,[5,6]),(191,[3000030]),(198,[2000072,2000083,2000190]),(201,[1000035,2000072,2000083,2000190]),(202,[31]),(241,[2,3]),(242,[11]),(262,[1]),(263,[3,4,7]),(278,[9]),(288,[2,3]),(313,[3]),(317,[2,3])]
def qA:List Nat:=[6,7,8,9,10,11,12,13,14,15,16,17,18,19,20,21,22,23,24,25,26,27,28,30,31,32,33,34,35,36,37,38,39,40,41,42,43,44,45,46,47,48,49,50,51,52,53,54,55,56,57,58,59,60,61,62,63,64,65,66,67,72,73,74,75,76,77,78,79,80,81,82,83,84,85,86,87,88,89,90,91,92,93,94,95,96,97,98,99,100,101,102,103,104,105,106,107,108,109,110,111,112,113,114,115,116,117,118,119,120,121,122,123,137,138,139,140,141,142,143,144,145,146,147,148,149,150,151,152,153,154,155,156,157,158,159,160,161,162,163,164,165,166,167,168,169,170,171,172,173,174,175,176,177,178,179,180,181,182,183,184,185,186,187,188,189,190,191,192,193,194,195,196,197,198,199,200,201,202,203,204,229,230,231,232,233,234,235,236,237,238,239,240,241,242,243,244,245,246,247,248,249,250,251,252,253,254,255,256,257,258,259,260,262,263,264,265,266,278,285,286,287,288,289,290,291,295,296,313,317,318,333,339]
noncomputable def X (f:Nat):kF:=match Tryz.prog.funcs[f]? with
 |some fn=>match xJ Tryz.prog (nJ [] Pg f) fn with
  |some a=>a
  |none=>⟨0,[],.skip⟩
 |none=>⟨0,[],.skip⟩
noncomputable def CT (f:Nat):Bool:=match Tryz.prog.funcs[f]? with
 |some fn=>match xJ Tryz.prog (nJ [] Pg f) fn with
  |some a=>fn.body.isSome&&(fn.name != "runtime.NumGoroutine" &&a.body.ha)
  |none=>false
 |none=>false
theorem ac7 {f:Nat} (h:CT f=true):AX Tryz.prog f (.code (X f))∧AX Tryz.prog f (.EY (X f)):=by
 unfold CT at h;cases ax:Tryz.prog.funcs[f]? with
 |none=>rw[ax]at h;cases h
 |some fn=>
  rw[ax]at h;simp only at h;cases aA:xJ Tryz.prog (nJ [] Pg f) fn with
  |none=>rw[aA]at h;cases h
  |some a=>
   rw[aA]at h;simp only[dF]at h;have af:X f=a:=by simp[X,ax,aA]
   rw[af];have:AX Tryz.prog f (.code a):=⟨fn,_,ax,aA,by rw[h.1,h.2.1];rfl,h.2.2⟩
   exact⟨this,this⟩
noncomputable def build (g:Nat→sU):List Nat→oO
 | []=>.dL
 |f::l=>cg.set .none (build g l) f (g f)
theorem NN (g:Nat→sU):∀(l:List Nat) (f:Nat),(f∈l→cg.get .none (build g l) f=g f)∧(f∉l→cg.get .none (build g l) f=.none)
 | [],f=>⟨fun h=>(by cases h),fun _=>cg.PH _ _⟩
 |a::l,f=>by
  obtain⟨U,aa⟩:=NN g l f;simp only[build,cg.o4];by_cases e:a=f
  ·subst e;rw[if_pos rfl];exact⟨fun _=>rfl,fun h=>absurd (cz ..) h⟩
  ·rw[if_neg e];refine⟨fun h=> ?_,fun h=>aa fun aF=>h (cv _ aF)⟩;rcases cu.1 h with h|h
   ·exact absurd h.symm e
   ·exact U h
theorem WE {g:Nat→sU} {l:List Nat} (h:∀f∈l,AX Tryz.prog f (g f)):um Tryz.prog (build g l):=by
 intro f;obtain⟨U,aa⟩:=NN g l f;by_cases ax:f∈l
 ·rw[U ax];exact h f ax
 ·rw[aa ax];trivial
theorem arH:((qA.drop 0).take 100).all CT=true:=by decide+kernel
theorem arI:((qA.drop 100).take 100).all CT=true:=by decide+kernel
theorem arJ:((qA.drop 200).take 100).all CT=true:=by decide+kernel
theorem ac_ {f:Nat} (h:f∈qA):CT f=true:=by
 have hs:qA=(qA.drop 0).take 100++(qA.drop 100).take 100++(qA.drop 200).take 100:=rfl;rw[hs]at h;simp only[fu]at h;exact(fun h=>Or.elim h (fun h=>Or.elim h (fun h=>dI.1 arH f h) (fun h=>dI.1 arI f h)) (fun h=>dI.1 arJ f h)) h
noncomputable def fb:oO:=build (fun f=>.code (X f)) qA
theorem auS:um Tryz.prog fb:=WE fun f ax=>(ac7 (ac_ ax)).1
end Go.Proofs.eK
