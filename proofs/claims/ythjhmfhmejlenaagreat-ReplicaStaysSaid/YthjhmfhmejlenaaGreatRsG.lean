/- All layers. -/
import Derived.Test.YthjhmfhmejlenaaGreatRsF
import Derived.Test.YthjhmfhmejlenaaGreatRsE0
import Derived.Test.YthjhmfhmejlenaaGreatRsE1
import Derived.Test.YthjhmfhmejlenaaGreatRsE2
import Derived.Test.YthjhmfhmejlenaaGreatRsE3
import Derived.Test.YthjhmfhmejlenaaGreatRsE4
import Derived.Test.YthjhmfhmejlenaaGreatRsE5
import Derived.Test.YthjhmfhmejlenaaGreatRsE6
import Derived.Test.YthjhmfhmejlenaaGreatRsE7
import Derived.Test.YthjhmfhmejlenaaGreatRsE8
import Derived.Test.YthjhmfhmejlenaaGreatRsE9
import Derived.Test.YthjhmfhmejlenaaGreatRsE10
import Derived.Test.YthjhmfhmejlenaaGreatRsD0
import Derived.Test.YthjhmfhmejlenaaGreatRsD1
import Derived.Test.YthjhmfhmejlenaaGreatRsD2
import Derived.Test.YthjhmfhmejlenaaGreatRsD3
import Derived.Test.YthjhmfhmejlenaaGreatRsD4
import Derived.Test.YthjhmfhmejlenaaGreatRsD5
import Derived.Test.YthjhmfhmejlenaaGreatRsD6
import Derived.Test.YthjhmfhmejlenaaGreatRsD7
import Derived.Test.YthjhmfhmejlenaaGreatRsD8
import Derived.Test.YthjhmfhmejlenaaGreatAL8
set_option linter.unusedSectionVars false
set_option linter.unusedVariables false
set_option linter.unusedSimpArgs false
section
namespace Go.Proofs.eK
open Go Go.bO Go.bO.cK
set_option maxRecDepth 1000000
theorem ah3:dr 168 Ko=true:=WY [1,0,0] [5] fun q aB=>by
 simp only[ti,cu,List.not_mem_nil,or_false]at aB;rcases aB with rfl|rfl
 ·exact ar2
 ·exact ar3
theorem wi:dr 6 e'=true:=WY [1,1,1,0] [2,4,6,8,10,12,14,15] fun q aB=>by
 simp only[ti,cu,List.not_mem_nil,or_false]at aB;rcases aB with rfl|rfl|rfl|rfl|rfl|rfl|rfl|rfl|rfl
 ·exact ar4
 ·exact ar5
 ·exact ar6
 ·exact ar7
 ·exact ar8
 ·exact ar9
 ·exact ar_
 ·exact ar'
 ·exact agl
def Lj (f:Nat) (c:b9):Prop:=(∀k,1≤k→kG jA (jg fh k f) c)∨∃a,n0 f c a=true
def S8 (f:Nat):List b9→Prop
 | []=>True
 |c::l=>Lj f c∧S8 f l
def CU:List (Nat × dS)→Prop
 | []=>True
 |(f,.aS c)::l=>Lj f c∧CU l
 |(f,.cons cs)::l=>S8 f cs∧CU l
 |(_,_)::l=>CU l
theorem arG:CU uh:=⟨.inl aku,.inl akv,.inr ⟨_,a63⟩,.inr ⟨_,a64⟩,.inr ⟨_,aiH⟩,.inr ⟨_,aiS⟩,.inr ⟨_,aiT⟩,.inr ⟨_,aiU⟩,.inr ⟨_,aiV⟩,.inr ⟨_,ahY⟩,.inr ⟨_,aiW⟩,.inr ⟨_,aik⟩,.inr ⟨_,ahZ⟩,⟨.inr ⟨_,ah0⟩,.inr ⟨_,ah1⟩,trivial⟩,.inr ⟨_,ah2⟩,.inr ⟨_,aix⟩,.inr ⟨_,a35⟩,.inr ⟨_,ah3⟩,.inr ⟨_,aiX⟩,.inr ⟨_,aiy⟩,.inr ⟨_,ahX⟩,.inr ⟨_,aia⟩,.inr ⟨_,ahJ⟩,.inr ⟨_,ahS⟩,.inr ⟨_,aiw⟩,.inr ⟨_,ahU⟩,.inr ⟨_,ahC⟩,.inr ⟨_,ah6⟩,.inr ⟨_,aip⟩,.inr ⟨_,ain⟩,.inr ⟨_,ah7⟩,.inr ⟨_,aic⟩,.inr ⟨_,aid⟩,.inr ⟨_,ah8⟩,.inr ⟨_,ah9⟩,.inr ⟨_,aie⟩,.inr ⟨_,ahK⟩,.inr ⟨_,aim⟩,.inr ⟨_,ah5⟩,.inr ⟨_,aiZ⟩,.inr ⟨_,ail⟩,.inr ⟨_,ah4⟩,.inr ⟨_,aiY⟩,.inr ⟨_,aio⟩,.inr ⟨_,aib⟩,.inr ⟨_,ahD⟩,.inr ⟨_,ahE⟩,.inr ⟨_,ah'⟩,.inr ⟨_,ahI⟩,.inr ⟨_,ahG⟩,.inr ⟨_,ah_⟩,.inr ⟨_,ahF⟩,.inr ⟨_,ahH⟩,.inr ⟨_,aii⟩,.inr ⟨_,aiI⟩,.inr ⟨_,aiJ⟩,.inr ⟨_,a53⟩,.inr ⟨_,aiD⟩,.inr ⟨_,ahL⟩,.inr ⟨_,aiE⟩,.inr ⟨_,aif⟩,.inr ⟨_,ahR⟩,.inr ⟨_,aiF⟩,.inr ⟨_,aiG⟩,.inr ⟨_,a23⟩,.inr ⟨_,aiN⟩,.inr ⟨_,ahT⟩,.inr ⟨_,aih⟩,.inr ⟨_,ahV⟩,.inr ⟨_,aij⟩,.inr ⟨_,ahW⟩,.inr ⟨_,aiA⟩,.inr ⟨_,aiB⟩,.inr ⟨_,aiC⟩,.inr ⟨_,a22⟩,.inr ⟨_,aiQ⟩,.inr ⟨_,aiM⟩,.inr ⟨_,aiO⟩,.inr ⟨_,aiP⟩,.inr ⟨_,aiv⟩,.inr ⟨_,aiL⟩,⟨.inr ⟨_,aiq⟩,.inr ⟨_,air⟩,.inr ⟨_,ais⟩,.inr ⟨_,ait⟩,.inr ⟨_,aiu⟩,trivial⟩,⟨.inr ⟨_,ahM⟩,.inr ⟨_,ahN⟩,.inr ⟨_,ahO⟩,.inr ⟨_,ahP⟩,.inr ⟨_,ahQ⟩,trivial⟩,.inr ⟨_,a32⟩,.inr ⟨_,a25⟩,trivial⟩
theorem ac8 {f:Nat} {c:b9}:∀{l:List b9},S8 f l→c∈l→Lj f c
 |_::l,h,hm=>by
  rcases cu.1 hm with rfl|U
  ·exact h.1
  ·exact ac8 h.2 U
theorem ac9:∀{l:List (Nat × dS)} {f:Nat} {e:dS},CU l→(f,e)∈l→∀c∈Br (HG f e),Lj f c
 |(n_,aR)::l,f,e,h,hm,c,af=>by
  rcases cu.1 hm with U|U
  ·cases U;cases aR with
   |none=>cases af
   |code an la=>cases af
   |aS bF=>
    rw[iS.1 af];exact h.1
   |cons cs=>exact ac8 h.1 af
  ·have aa:CU l:=by
    cases aR with
    |none=>exact h
    |code an la=>exact h
    |aS bF=>exact h.2
    |cons cs=>exact h.2
   exact ac9 aa U c af
theorem Sg {α:Type} {d:α}:∀{l:List (Nat × α)} {n:Nat},nJ d l n=d∨(n,nJ d l n)∈l
 | [],_=>.inl rfl
 |(k,a)::l,n=>by
  unfold nJ;cases h:Nat.beq k n with
  |true=>rw[oT h];exact .inr (cz ..)
  |false=>exact(Sg (l:=l) (n:=n)).imp id (cv _)
def aj8 (p:Nat × dS):Bool:=match p.2 with
 |.code an _=>Fk p.1 an
 |_=>true
theorem aj7:uh.all aj8=true:=by decide+kernel
theorem aqd:H3 jA fh AW rank 1 OE where
 code f an la dg h:=by
  rcases Sg (d:=dS.none) (l:=uh) (n:=f)with aF|aF
  ·rw[show AW f=HG f (nJ .none uh f)from rfl,aF]at h;cases h
  ·have aj:=dI.1 aj7 _ aF;rw[show AW f=HG f (nJ .none uh f)from rfl]at h
   generalize nJ dS.none uh f=e at h aj;cases e<;>cases h;exact PL aj
 aS f c h:=by
  rcases Sg (d:=dS.none) (l:=uh) (n:=f)with aF|aF
  ·rw[show AW f=HG f (nJ .none uh f)from rfl,aF]at h;cases h
  ·rcases ac9 arG aF c h with U|⟨a,U⟩
   ·exact .inl U
   ·obtain⟨U,aa⟩:=mc.1 U;exact .inr ⟨a.1,a.2,X f,PL U,aa⟩
end Go.Proofs.eK
end
section
namespace Go.Proofs.eK
open Go Go.bO Go.bO.cK Go.Proofs Go.RowKit
set_option maxRecDepth 1000000
theorem WZ:Tryz.prog.cellsOf 2=1:=by kernel_rfl
theorem IS:Tryz.prog.cellsOf 3=1:=by kernel_rfl
theorem aki:Tryz.prog.cellsOf 4=1:=by kernel_rfl
theorem akj:Tryz.prog.cellsOf 5=1:=by kernel_rfl
theorem akd:Tryz.prog.cellsOf 30=1:=by kernel_rfl
theorem ake:Tryz.prog.cellsOf 31=1:=by kernel_rfl
theorem N6:Tryz.prog.cellsOf 33=3:=by kernel_rfl
theorem akf:Tryz.prog.cellsOf 34=1:=by kernel_rfl
theorem akg:Tryz.prog.cellsOf 35=1:=by kernel_rfl
theorem W0:Tryz.prog.cellsOf 37=12:=by kernel_rfl
theorem akh:Tryz.prog.cellsOf 39=18:=by kernel_rfl
theorem akc:Tryz.prog.cellsOf 134=6:=by kernel_rfl
theorem ajT:Tryz.prog.bytesOf 3=8:=by kernel_rfl
theorem ajW:Tryz.prog.bytesOf 5=1:=by kernel_rfl
theorem ajU:Tryz.prog.bytesOf 30=24:=by kernel_rfl
theorem ajV:Tryz.prog.bytesOf 39=208:=by kernel_rfl
theorem ajS:Tryz.prog.bytesOf 134=64:=by kernel_rfl
theorem ae2:ir Tryz.prog 3=false:=by unfold ir;rw[Tryz.underlying3]
theorem as6:ir Tryz.prog 5=false:=by unfold ir;rw[Tryz.underlying5]
theorem as3:ir Tryz.prog 22=false:=by unfold ir;rw[Tryz.underlying22]
theorem as4:ir Tryz.prog 30=false:=by unfold ir;rw[Tryz.underlying30]
theorem as5:ir Tryz.prog 39=true:=by unfold ir;rw[Tryz.underlying39]
theorem as2:ir Tryz.prog 134=true:=by unfold ir;rw[Tryz.underlying134]
def ix:List bb→List ab→Prop
 | [],[]=>True
 |t::ts,c::cs=>(bR jA.D lH t c∧c.plain=true)∧ix ts cs
 |_,_=>False
theorem ix.len:∀{ts:List bb} {cs:List ab},ix ts cs→ts.length=cs.length
 | [],[],_=>rfl
 |_::_,_::_,h=>congrArg (· +1) h.2.len
 | [],_::_,h=>h.elim
 |_::_,[],h=>h.elim
theorem ix.get:∀{ts:List bb} {cs:List ab},ix ts cs→∀(j:Nat) (t:bb) (c:ab),ts[j]? =some t→cs[j]? =some c→bR jA.D lH t c
 |_::_,_::_,h,0,_,_,aw,af=>by cases aw;cases af;exact h.1.1
 |_::_,_::_,h,j+1,t,c,aw,af=>h.2.get j t c aw af
 | [],[],h,_,_,_,aw,_=>by cases aw
 | [],_::_,h,_,_,_,_,_=>h.elim
 |_::_,[],h,_,_,_,_,_=>h.elim
theorem ix.plain:∀{ts:List bb} {cs:List ab},ix ts cs→gV cs=true
 | [],[],_=>rfl
 |_::_,_::_,h=>by simp only[gV,h.1.2,h.2.plain,s8]
 | [],_::_,h=>h.elim
 |_::_,[],h=>h.elim
theorem ix.append:∀{ts us:List bb} {cs ds:List ab},ix ts cs→ix us ds→ix (ts++us) (cs++ds)
 | [],_,[],_,_,k=>k
 |_::_,_,_::_,_,h,k=>⟨h.1,h.2.append k⟩
 | [],_,_::_,_,h,_=>h.elim
 |_::_,_,[],_,h,_=>h.elim
theorem ix.agg {ts:List bb} {cs:List ab} (h:ix ts cs):bR jA.D lH (.agg ts) (.agg cs)∧(ab.agg cs).plain=true:=⟨.agg _ _ h.len h.get,by simp only[ab.plain];exact h.plain⟩
theorem mZ {n:Nat} {t:TypeId} {cs:List ab} (hu:Tryz.prog.underlying t=some (.int .i64)) (h:fo Tryz.prog n t cs):ix [iC .i64] cs:=by
 obtain⟨m,rfl,hm⟩:=h.int hu;obtain⟨U,aa⟩:=ag1 hm;exact⟨⟨.int _ _ _ _ U aa,rfl⟩,trivial⟩
theorem agR {n:Nat} {cs:List ab} (h:fo Tryz.prog n 5 cs):ix [iC .u8] cs:=by
 obtain⟨m,rfl,hm⟩:=h.int Tryz.underlying5;obtain⟨U,aa⟩:=ag1 hm;exact⟨⟨.int _ _ _ _ U aa,rfl⟩,trivial⟩
theorem ajJ {n:Nat} {cs:List ab} (h:fo Tryz.prog n 4 cs):ix [.bool] cs:=by
 obtain⟨b,rfl⟩:=h.bool Tryz.underlying4;exact⟨⟨.bool _,rfl⟩,trivial⟩
theorem ae9 {n:Nat} {t e:TypeId} {cs:List ab} {ty:bb} {hi:Nat} (hu:Tryz.prog.underlying t=some (.slice e)) (h:fo Tryz.prog n t cs) (aj:∀k,k*Tryz.prog.bytesOf e≤reachBytes→k≤hi)
  (he:∀m cs,fo Tryz.prog m e cs→bR jA.D lH ty (gh (ir Tryz.prog e) cs)∧(gh (ir Tryz.prog e) cs).plain=true):
  ∃xs nl,cs=[.slice xs nl none]∧xs.length≤hi∧(nl=true→xs=[])∧(∀x∈xs,bR jA.D lH ty x)∧(ab.slice xs nl none).plain=true:=by
 obtain⟨xs,nl,m,rfl,U,_,aa,_,au⟩:=h.slice hu;have ad:∀x∈xs,bR jA.D lH ty x∧x.plain=true:=fun x ad=>by
  obtain⟨cs,rfl,hs⟩:=au x ad;exact he m cs hs
 have ae:∀l:List ab,(∀x∈l,x.plain=true)→gV l=true:=by
  intro l
  induction l with
  |nil=>intro _;rfl
  |cons a l bm=>intro h;simp only[gV,h a (cz ..),bm fun y aI=>h y (cv _ aI),s8]
 exact⟨xs,nl,rfl,aj _ aa,U,fun x h=>(ad x h).1,by simp only[ab.plain];exact ae xs fun x h=>(ad x h).2⟩
theorem Mi {n:Nat} {t e:TypeId} {cs:List ab} {ty:bb} {hi:Nat} (hu:Tryz.prog.underlying t=some (.slice e)) (h:fo Tryz.prog n t cs) (aj:∀k,k*Tryz.prog.bytesOf e≤reachBytes→k≤hi)
  (he:∀m cs,fo Tryz.prog m e cs→bR jA.D lH ty (gh (ir Tryz.prog e) cs)∧(gh (ir Tryz.prog e) cs).plain=true):ix [.bN ty 0 hi] cs:=by
 obtain⟨xs,nl,rfl,U,aa,au,ba⟩:=ae9 hu h aj he;exact⟨⟨.bN _ _ _ _ _ _ (fv _) U aa au,ba⟩,trivial⟩
theorem GK {t:bb} {cs:List ab} (h:ix [t] cs):bR jA.D lH t (gh false cs)∧(gh false cs).plain=true:=by
 match cs,h with
 | [c],h=>exact h.1
 | [],h=>exact h.elim
 |_::_::_,h=>exact h.2.elim
def agd:bb:=.bN (iC .i64) 0 17592186044416
def qq:bb:=.bN (iC .u8) 0 140737488355328
def agj:bb:=.bN qq 0 8796093022208
def UK:List bb:=[iC .i64,iC .i64,agd]
def agi:List bb:=[iC .i64,iC .i64,iC .i64]++UK
def agf:List bb:=[iC .i64,iC .i64,iC .i64,iC .i64,iC .i64,iC .i64,qq]++UK++[.rs 1000134 0 2199023255552,agj]
def Mt:List bb:=[iC .i64,iC .i64,iC .i64,iC .i64,iC .u8]++agf++[.bool]
theorem Ha {k b c:Nat} (h:k*b≤reachBytes) (aj:0<b) (af:reachBytes≤c*b):k≤c:=Nat.le_of_mul_le_mul_right (fp h af) aj
theorem aoU {n:Nat} {cs:List ab} (h:fo Tryz.prog n 31 cs):ix [agd] cs:=
 Mi Tryz.underlying31 h (fun k aq=>by rw[ajT]at aq;exact Ha aq (by decide) (by decide)) fun m cs hs=>by rw[ae2];exact GK (mZ Tryz.underlying3 hs)
theorem WJ {n:Nat} {cs:List ab} (h:fo Tryz.prog n 30 cs):ix [qq] cs:=
 Mi Tryz.underlying30 h (fun k aq=>by rw[ajW]at aq;exact Ha aq (by decide) (by decide)) fun m cs hs=>by rw[as6];exact GK (agR hs)
theorem as9 {n:Nat} {cs:List ab} (h:fo Tryz.prog n 35 cs):ix [agj] cs:=
 Mi Tryz.underlying35 h (fun k aq=>by rw[ajU]at aq;exact Ha aq (by decide) (by decide)) fun m cs hs=>by rw[as4];exact GK (WJ hs)
theorem WX {n:Nat} {cs:List ab} (h:fo Tryz.prog n 33 cs):ix UK cs:=by
 obtain⟨U,m,rfl,aa⟩:=h.struct Tryz.underlying33;rw[N6]at U
 match cs,U with
 | [a,b,c],_=>
  have f0:=mZ Tryz.underlying3 (aa _ (cz ..));have f1:=mZ Tryz.underlying3 (aa _ (cv _ (cz ..)));have f2:=aoU (aa _ (cv _ (cv _ (cz ..))));rw[IS]at f0 f1;rw[ake]at f2;exact(f0.append f1).append f2
theorem kU {α:Type} {l:List α} (j:Nat) {a:α} (h:l[j]? =some a):a∈l:=lM h
theorem asi {n:Nat} {cs:List ab} (h:fo Tryz.prog n 134 cs):ix agi cs:=by
 obtain⟨U,m,rfl,aa⟩:=h.struct Tryz.underlying134;rw[akc]at U
 match cs,U with
 | [a,b,c,d,e,f],_=>
  have f0:=mZ Tryz.underlying2 (aa _ (kU 0 rfl));have f1:=mZ Tryz.underlying2 (aa _ (kU 1 rfl));have f2:=mZ Tryz.underlying3 (aa _ (kU 2 rfl));have f3:=WX (aa _ (kU 3 rfl));rw[WZ]at f0 f1;rw[IS]at f2;rw[N6]at f3;exact((f0.append f1).append f2).append f3
theorem akJ:jA.D 1000134=.agg agi:=by kernel_rfl
theorem asj {n:Nat} {cs:List ab} (h:fo Tryz.prog n 34 cs):ix [.rs 1000134 0 2199023255552] cs:=by
 obtain⟨xs,nl,rfl,U,aa,au,ba⟩:=ae9 (ty:=jA.D 1000134) (hi:=2199023255552) Tryz.underlying34 h (fun k aq=>by rw[ajS]at aq;exact Ha aq (by decide) (by decide)) fun m cs hs=>by
  rw[as2,akJ];exact(asi hs).agg
 exact⟨⟨.nP _ _ _ _ _ _ (fv _) U aa au,ba⟩,trivial⟩
theorem aq_ {n:Nat} {cs:List ab} (h:fo Tryz.prog n 37 cs):ix agf cs:=by
 obtain⟨U,m,rfl,aa⟩:=h.struct Tryz.underlying37;rw[W0]at U
 match cs,U with
 | [a,b,c,d,e,f,g,h,i,j,k,l],_=>
  have f0:=mZ Tryz.underlying3 (aa _ (kU 0 rfl));have f1:=mZ Tryz.underlying3 (aa _ (kU 1 rfl));have f2:=mZ Tryz.underlying3 (aa _ (kU 2 rfl));have f3:=mZ Tryz.underlying2 (aa _ (kU 3 rfl));have f4:=mZ Tryz.underlying2 (aa _ (kU 4 rfl));have f5:=mZ Tryz.underlying3 (aa _ (kU 5 rfl));have f6:=WJ (aa _ (kU 6 rfl));have f7:=WX (aa _ (kU 7 rfl));have f8:=asj (aa _ (kU 8 rfl));have f9:=as9 (aa _ (kU 9 rfl));rw[IS]at f0 f1 f2 f5;rw[WZ]at f3 f4;rw[akd]at f6;rw[N6]at f7;rw[akf]at f8;rw[akg]at f9;exact((((((((f0.append f1).append f2).append f3).append f4).append f5).append f6).append f7).append f8).append f9
theorem arP {n:Nat} {cs:List ab} (h:fo Tryz.prog n 39 cs):ix Mt cs:=by
 obtain⟨U,m,rfl,aa⟩:=h.struct Tryz.underlying39;rw[akh]at U
 match cs,U with
 | [a,b,c,d,e,f,g,h,i,j,k,l,o,p,q,r,s,t],_=>
  have f0:=mZ Tryz.underlying3 (aa _ (kU 0 rfl));have f1:=mZ Tryz.underlying3 (aa _ (kU 1 rfl));have f2:=mZ Tryz.underlying3 (aa _ (kU 2 rfl));have f3:=mZ Tryz.underlying3 (aa _ (kU 3 rfl));have f4:=agR (aa _ (kU 4 rfl));have f5:=aq_ (aa _ (kU 5 rfl));have f6:=ajJ (aa _ (kU 6 rfl));rw[IS]at f0 f1 f2 f3;rw[akj]at f4;rw[W0]at f5;rw[aki]at f6;exact(((((f0.append f1).append f2).append f3).append f4).append f5).append f6
theorem arX {n:Nat} {cs:List ab} (h:fo Tryz.prog n 22 cs):ix [.bN (.agg Mt) 0 1099511627776] cs:=
 Mi Tryz.underlying22 h (fun k aq=>by rw[ajV]at aq;exact Ha aq (by decide) (by decide)) fun m cs hs=>by rw[as5];exact(arP hs).agg
theorem k8:cg.get .none fh 6=uQ (qD 6).1 (X 6):=PL (mc.1 wi).1
theorem TJ:e'.br=[iC .i64,.bN (.agg Mt) 0 1099511627776]:=by kernel_rfl
theorem arZ:e'.outs=[([.aS (.bool true)],[],[])]:=by kernel_rfl
theorem pre6:e'.pre=[]:=by kernel_rfl
theorem atn:∃k,kG jA (jg fh k 6) e':=by
 have pZ:=(mc.1 wi).2;generalize rank 6=r at pZ;exact⟨_,aqe aqd k8 pZ (b1 _)⟩
theorem as' {x y:ab} (ad:bR jA.D lH (iC .i64) x∧x.plain=true) (aI:bR jA.D lH (.bN (.agg Mt) 0 1099511627776) y∧y.plain=true):hL Tryz.prog 6 [x,y] a8.empty fun b dR=>b=.bool true∧dR=a8.empty:=by
 obtain⟨k,xk⟩:=atn;have ae:gV [x,y]=true:=by simp only[gV,ad.2,aI.2];rfl
 have he:cK.Entry jA e' sY lH [x,y]:=by
  refine ak0 (by rw[TJ];rfl) (by rw[TJ];rfl) (fun j t a aU aA=> ?_) (by kernel_rfl) (fun l ak=>by rw[pre6]at ak;cases ak) (by kernel_rfl) (by kernel_rfl)
  rw[TJ]at aU
  match j with
  |0=>cases aU;cases aA;exact ad.1
  |1=>cases aU;cases aA;exact aI.1
  |j+2=>cases aU
 exact au8 mixed ahg xk arZ ae he _
theorem ata (je:List ab) (h:HV Tryz.prog 9 [3,22] je):hL Tryz.prog 6 je a8.empty fun a _=>a=.bool true:=by
 cases je with
 |nil=>exact h.elim
 |cons a l=>
  cases l with
  |nil=>exact h.2.elim
  |cons b l=>
   cases l with
   |nil=>
    obtain⟨⟨cs,rfl,hs⟩,⟨ds,rfl,aQ⟩,_⟩:=h;rw[ae2,as3];exact(as' (GK (mZ Tryz.underlying3 hs)) (GK (arX aQ))).mono fun _ _ h=>h.1
   |cons c l=>exact h.2.2.elim
end Go.Proofs.eK
end
