/- What is told by hand: the head; slices.Sorted. -/
import Derived.Test.YthjhmfhmejlenaaGreatRsM
import Derived.Test.YthjhmfhmejlenaaGreatRsV
import Derived.Test.YthjhmfhmejlenaaGreatRsC
set_option linter.unusedSectionVars false
set_option linter.unusedVariables false
set_option linter.unusedSimpArgs false
namespace Go.Proofs.eK
open Go Go.bO Go.bO.cK Go.Proofs Go.RowKit
set_option maxRecDepth 1000000
theorem agh {P:Program} {T:oO} (h:um P T) {f:Nat} {e:sU} (he:AX P f e):um P (cg.set .none T f e):=by
 intro g;rw[cg.o4];by_cases Y1:f=g
 ·subst Y1;rw[if_pos rfl];exact he
 ·rw[if_neg Y1];exact h g
noncomputable def FC:dw:=fun l V=>match l with
 | []=>.jX (.bool true) V
 |_=>.fail
theorem amW:hz Tryz.prog 7 FC:=by
 intro xs V bU h;unfold FC at h;split at h
 case h_2=>exact h.elim
 have af:=NT mixed auS 60 7;cases ad:jg fb 60 7 [] ⟨0,0,.dL⟩with
 |fail=>have aw:=Ql;rw[show jg fb (nat_lit 60) (nat_lit 7) [] ⟨nat_lit 0,nat_lit 0,.dL⟩=.fail from ad]at aw;cases aw
 |alt x y=>have aw:=Ql;rw[show jg fb (nat_lit 60) (nat_lit 7) [] ⟨nat_lit 0,nat_lit 0,.dL⟩=.alt x y from ad]at aw;cases aw
 |jX b W=>
  have aw:=Ql;rw[show jg fb (nat_lit 60) (nat_lit 7) [] ⟨nat_lit 0,nat_lit 0,.dL⟩=.jX b W from ad]at aw
  have aj:b=.bool true:=by
   unfold isTrue at aw;split at aw
   ·rename_i bQ;cases bQ;rfl
   ·cases aw
  subst aj;obtain⟨ax,avO⟩:=af.jX ad;refine⟨ax,fun bo R ag bs a1 ar=> ?_⟩;rw[ar.js];refine(af.plain ad .nil rfl ag).mono ?_;rintro c dR ⟨rfl,rfl⟩;exact⟨_,_,R,h,.refl _,.refl _,a1,aY.g_ _ rfl⟩
noncomputable def Jj (f:Nat):sU:=bif hF f KT then .EY (X f)else .code (X f)
noncomputable def fh:oO:=cg.set .none (cg.set .none (build Jj qA) 261 (.told (Aw 294))) 7 (.told FC)
theorem ahg:um Tryz.prog fh:=by
 refine agh (f:=7) (e:=.told FC) (agh (f:=261) (e:=.told (Aw 294)) (WE fun f ax=> ?_) atH) amW;obtain⟨U,aa⟩:=ac7 (ac_ ax);unfold Jj;cases hF f KT
 ·exact U
 ·exact aa
theorem amz {v:Nat} {l:List Nat} (h:hF v l=true):v∈l:=by
 obtain⟨w,U,aa⟩:=h4.1 h;rw[oT aa];exact U
theorem PL {f:Nat} {an:gE} (h:Fk f an=true):cg.get .none fh f=uQ an (X f):=by
 unfold Fk at h;obtain⟨h,ba⟩:=mc.1 h;obtain⟨U,h⟩:=mc.1 h;obtain⟨aa,au⟩:=mc.1 h;have aa:f≠7:=fun e=>by subst e;cases aa
 have au:f≠261:=fun e=>by subst e;cases au
 unfold fh;rw[cg.o4,if_neg (Ne.symm aa),cg.o4,if_neg (Ne.symm au),(NN Jj qA f).1 (amz U)];have:an.md=hF f KT:=by simpa using ba
 unfold Jj uQ;rw[this]
instance:e8 jA:=auT _ _ _ ⟨_,rfl⟩ ⟨_,rfl⟩
theorem akv (k:Nat) (aq:1≤k):kG jA (jg fh k 7) {br:=[],pre:=[],outs:=[([.aS (.bool true)],[],[])],M:=[],P:=[]}:=by
 obtain⟨k,rfl⟩:∃j,k=j+1:=⟨k-1,by omega⟩
 show kG jA (wF (jg fh k) (cg.get .none fh 7)) _;rw[show cg.get .none fh 7=.told FC from by unfold fh;rw[cg.o4,if_pos rfl]]
 refine Xe fun V G xs aC=> ?_;have:=aC.len
 match xs,this with
 | [],_=>exact⟨.bool true,.aS (.bool true),rfl,rfl,rfl,.aS _⟩
theorem aku (k:Nat) (aq:1≤k):kG jA (jg fh k 261) {br:=[(.fn [(294,[],[(.ptr 92040 false)])] false)],pre:=[],outs:=[([.bN (iC .i64) 0 2199023255552],[],[])],M:=[],P:=[]}:=by
 obtain⟨k,rfl⟩:∃j,k=j+1:=⟨k-1,by omega⟩
 show kG jA (wF (jg fh k) (cg.get .none fh 261)) _;rw[show cg.get .none fh 261=.told (Aw 294)from by unfold fh;rw[cg.o4,if_neg (by decide),cg.o4,if_pos rfl]]
 exact atG (T:=jA) (g:=294) (bc:=92040) rfl rfl (by decide) (by decide) (by decide) (by decide)
end Go.Proofs.eK
