/-
  AN ABSTRACT LOGIC OVER THE MODEL, part 8: rules by which what the code asks is reckoned; loops' heads; results told dimly.
-/
import Derived.Test.YthjhmfhmejlenaaGreatAL7
import Derived.SizedLaws
import Derived.ChangeArms
import Derived.DataReads
import Derived.Carry
import Derived.ProofKit
set_option linter.unusedSectionVars false
set_option linter.unusedVariables false
set_option linter.unusedSimpArgs false
section
namespace Go.bO
open Go.RowKit
theorem o4 (env:bt) (d:Nat) (e:aJ) (t:Nat):bt.set env (some d) e t=bif t==d then e else env t:=rfl
theorem atu (env:bt) (e:aJ):bt.set env none e=env:=rfl
theorem alG (env:bt) (d:Nat) (cs:List ab) (t:Nat):bt.nK env d cs t=bif t==d then .box cs else(env t).kill d:=rfl
theorem alI (env:bt) (d:Nat) (cs:List ab) (t:Nat):bt.m9 env d cs t=bif t==d then .box cs else env t:=rfl
theorem RS (s:Nat) (a:ab):aJ.kill s (.val a)=.val a:=rfl
theorem apU (s:Nat) (a:List ab):aJ.kill s (.box a)=.box a:=rfl
theorem apV (s q o:Nat):aJ.kill s (.b7 q o)=bif q==s then .val .top else .b7 q o:=rfl
theorem alF (as:List ab) (t:Nat):bt.args as t=match as[t]? with
 |some a=>.val a
 |none=>.val .top:=rfl
def bt.of (l:List (Nat × aJ)):bt:=fun t=>match l.find? (fun p=>p.1==t)with
 |some p=>p.2
 |none=>.val .top
theorem alH (l:List (Nat × aJ)) (t:Nat):bt.of l t=match l.find? (fun p=>p.1==t)with
 |some p=>p.2
 |none=>.val .top:=rfl
def Vy (Q:ab→a8→Prop) (a:ab) (ag:a8):Prop:=∃b dR,a.dY b∧dR.Sub ag∧Q b dR
theorem Vy.of {Q:ab→a8→Prop} {a:ab} {ag:a8} (h:Q a ag):Vy Q a ag:=⟨a,ag,.refl a,.refl ag,h⟩
theorem XG (sz:Nat):sT sz []:=fun y h=>by cases h
theorem Vh {P:Program} {o:a2} {d:Option Nat} {k k':bt→a8→Prop} {env:bt} {ag:a8} (h:bH P o d k env ag) (aq:∀env ag,k env ag→k' env ag):bH P o d k' env ag:=by
 by_cases aw:o.xA=true
 ·exact Vb (W:=[]) o aw (d1:=none) (e1:=.val .top) (.inl id) (fun _ _ _ _=>by simp) (.inl rfl) (fun _ _ _ h=>aq _ _ h) h
 by_cases ae:o.sq=true
 ·rw[HO P o d _ env ag ae]at h⊢;cases aB:bX env o with
  |none=>rw[aB]at h;exact h.elim
  |some e=>rw[aB]at h;exact aq _ _ h
 cases o<;>first|exact absurd rfl ae|exact absurd rfl aw|skip
 all_goals simp only[bH]at h⊢
 case pick c a b=>
  split at h
  ·exact⟨fun aw=>aq _ _ (h.1 aw),fun aw=>aq _ _ (h.2 aw)⟩
  ·exact h.elim
 case box cs=>split at h<;>first|exact aq _ _ h|exact h.elim
 case boxv x=>split at h<;>first|exact⟨h.1,aq _ _ h.2⟩|exact h.elim
 case bslice own sz e n z br=>
  split at h
  ·cases own
   ·simp only[lK,if_false]at h⊢;exact aq _ _ h
   ·simp only[if_true]at h⊢;exact fun g av=>aq _ _ (h g av)
  ·exact h.elim
 case bytesStr x=>split at h<;>first|(obtain⟨l,U,aa⟩:=h;exact⟨l,U,aq _ _ aa⟩)|exact h.elim
 case strBytes q x=>split at h<;>first|exact⟨h.1,aq _ _ h.2⟩|exact h.elim
 case cut sz x lo hi=>
  generalize a_ env x=ex at h⊢;split at h
  ·exact⟨h.1,jB (fun n h=>⟨h.1,jB (fun m h=>⟨h.1,aq _ _ h.2⟩) h.2⟩) h.2⟩
  ·exact jB (fun n h=>⟨h.1,jB (fun m h=>⟨h.1,aq _ _ h.2⟩) h.2⟩) h
  ·exact jB (fun n h=>⟨h.1,jB (fun m h=>⟨h.1,aq _ _ h.2⟩) h.2⟩) h
  ·exact h.elim
 case cut3 sz x lo hi mx=>
  split at h
  ·exact⟨h.1,jB (fun n h=>⟨h.1,jB (fun m h=>⟨h.1,jB (fun q h=>⟨h.1,aq _ _ h.2⟩) h.2⟩) h.2⟩) h.2⟩
  ·exact h.elim
 case cutStr x lo hi=>
  split at h
  ·exact jB (fun n h=>⟨h.1,jB (fun m h=>⟨h.1,aq _ _ h.2⟩) h.2⟩) h
  ·exact h.elim
 case iaddr sz x i=>
  generalize a_ env x=ex at h⊢;split at h
  ·split at h
   ·obtain⟨U,a,aa,au,ba⟩:=h;exact⟨U,a,aa,au,aq _ _ ba⟩
   ·exact⟨h.1,h.2.1,aq _ _ h.2.2⟩
   ·exact h.elim
  ·exact h.elim
 case istr x i=>
  split at h
  ·obtain⟨U,a,aa,ba⟩:=h;exact⟨U,a,aa,aq _ _ ba⟩
  ·exact h.elim
theorem MP {P:Program} {o:ca} {k k':bt→a8→Prop} {env:bt} {ag:a8} (h:jd P o k env ag) (aq:∀env ag,k env ag→k' env ag):jd P o k' env ag:=by
 unfold jd at h⊢;split at h
 ·exact Vh h aq
 ·split at h
  ·exact⟨fun aw=>Vh (h.1 aw) aq,fun aw=>aq _ _ (h.2 aw)⟩
  ·exact aq _ _ h
  ·exact h.elim
theorem AT {P:Program} {k k':bt→a8→Prop} (aq:∀env ag,k env ag→k' env ag):∀{l:List ca} {env:bt} {ag:a8},pC P l k env ag→pC P l k' env ag
 | [],_,_,h=>aq _ _ h
 |_::_,_,_,h=>MP (k:=pC P _ k) h fun _ _ h=>AT aq h
theorem agW {P:Program} {W:List Nat} {o:a2} {d:Option Nat} {k k':bt→a8→Prop} {env:bt} {ag:a8} (h:f_ P W o d k env ag) (aq:∀env ag,k env ag→k' env ag):f_ P W o d k' env ag:=by
 cases o
 case load agg n x=>
  simp only[f_]at h⊢;split at h
  ·obtain⟨cs,U,aa,au⟩:=h;exact⟨cs,U,aa,aq _ _ au⟩
  ·exact⟨h.1,aq _ _ h.2⟩
  ·refine⟨h.1,?_⟩;have h:=h.2;split at h
   ·exact⟨h.1,aq _ _ h.2⟩
   ·exact h.elim
  ·exact h.elim
 case call f as=>
  simp only[f_]at h⊢;split at h
  ·obtain⟨c,U,aa⟩:=h;exact⟨c,U,aq _ _ aa⟩
  ·exact h.elim
 case callv f as=>
  simp only[f_]at h⊢;split at h
  ·obtain⟨aV,c,U,aa⟩:=h;exact⟨aV,c,U,aq _ _ aa⟩
  ·exact h.elim
 case inv eg x as=>
  simp only[f_]at h⊢;split at h
  ·obtain⟨f,aV,c,U,aa⟩:=h;exact⟨f,aV,c,U,aq _ _ aa⟩
  ·exact h.elim
 case cut sz x lo hi=>
  simp only[f_]at h⊢;generalize a_ env x=ex at h⊢;split at h
  ·exact⟨h.1,jB (fun n h=>⟨h.1,jB (fun m h=>⟨h.1,aq _ _ h.2⟩) h.2⟩) h.2⟩
  ·exact jB (fun n h=>⟨h.1,jB (fun m h=>⟨h.1,aq _ _ h.2⟩) h.2⟩) h
  ·exact h.elim
 all_goals (simp only[f_]at h⊢;exact Vh h aq)
theorem Vi {P:Program} {W:List Nat} {o:ca} {k k':bt→a8→Prop} {env:bt} {ag:a8} (h:qv P W o k env ag) (aq:∀env ag,k env ag→k' env ag):qv P W o k' env ag:=by
 unfold qv at h⊢;split at h
 ·exact agW h aq
 ·split at h
  ·exact⟨fun aw=>agW (h.1 aw) aq,fun aw=>aq _ _ (h.2 aw)⟩
  ·exact aq _ _ h
  ·exact h.elim
theorem agV {P:Program} {W:List Nat} {k k':bt→a8→Prop} (aq:∀env ag,k env ag→k' env ag):∀{l:List (Nat × ca)} {env:bt} {ag:a8},kC P W l k env ag→kC P W l k' env ag
 | [],_,_,h=>aq _ _ h
 |(c9,o)::r,env,ag,h=>by
  have bm:=fun env ag (h:kC P W r k env ag)=>agV (k:=k) (k':=k') aq h;simp only[kC]at h⊢;by_cases aa:c9=2
  ·rw[if_pos aa]at h⊢;exact⟨h.1,MP h.2 bm⟩
  rw[if_neg aa]at h⊢;by_cases au:c9=3
  ·rw[if_pos au]at h⊢;exact MP h bm
  rw[if_neg au]at h⊢;by_cases ba:c9=4
  ·rw[if_pos ba]at h⊢;exact⟨h.1,h.2.1,MP h.2.2 bm⟩
  rw[if_neg ba]at h⊢;by_cases cb:c9=5
  ·rw[if_pos cb]at h⊢;exact⟨h.1,Vi h.2 bm⟩
  rw[if_neg cb]at h⊢;by_cases du:c9=6
  ·rw[if_pos du]at h⊢;exact⟨h.1,Vi h.2 bm⟩
  ·rw[if_neg du]at h⊢;exact Vi h bm
theorem nc {P:Program}:∀{c:fK} {K K':dT→bt→a8→Prop} {env:bt} {ag:a8},jy P c K env ag→(∀e env ag,K e env ag→K' e env ag)→jy P c K' env ag
 |.skip,_,_,_,_,h,aq=>aq _ _ _ h
 |.region _,_,_,_,_,h,aq=>AT (aq .normal) h
 |.drawn _ _,_,_,_,_,h,aq=>agV (aq .normal) h
 |.seq a b,K,K',_,_,h,aq=>nc (c:=a) h fun e env ag h=>by
  cases e with
  |normal=>exact nc (c:=b) h aq
  |exit id=>exact aq _ _ _ h
  |ret=>exact aq _ _ _ h
 |.cond c a b,_,_,env,_,h,aq=>by
  simp only[jy]at h⊢;split at h
  ·exact⟨fun aw=>nc (h.1 aw) aq,fun aw=>nc (h.2 aw) aq⟩
  ·exact h.elim
 |.block id b,K,K',_,_,h,aq=>nc (c:=b) h fun e env ag h=>by
  cases e with
  |normal=>exact aq _ _ _ h
  |ret=>exact aq _ _ _ h
  |exit so=>
   simp only[dT.inBlock]at h⊢;cases aB:(so==id)with
   |true=>rw[aB]at h;exact aq _ _ _ h
   |false=>rw[aB]at h;exact aq _ _ _ h
 |.loop b,K,K',_,_,h,aq=>by
  obtain⟨Inv,aV,ah⟩:=h;refine⟨Inv,aV,fun n env ag hi=>nc (c:=b) (ah n env ag hi) fun e env ag h=> ?_⟩;cases e with
  |normal=>exact h
  |exit id=>exact aq _ _ _ h
  |ret=>exact aq _ _ _ h
 |.exit _,_,_,_,_,h,aq=>aq _ _ _ h
 |.ret,_,_,_,_,h,aq=>aq _ _ _ h
attribute [simp] pC jd bH Vj bX a_ dT.then dT.inBlock o4 alG alI atu RS apU apV alF rK iZ F_ yV qe TY LV vK sG gh ft pt tn ql iQ kC qv f_ c1 fz alH
end Go.bO
end
section
namespace Go.bO
open Go.RowKit
def cf.world (w:World):cf:=⟨fun b o=>match w.heap[b]? with
 |some (.cells cs _ _)=>cs[o]?
 |_=>none,fun _=>none⟩
theorem aq4 (w:World):e0 (cf.world w) a8.empty w where
 cell b o v h:=by
  simp only[cf.world]at h;split at h
  ·rename_i cs T eo aF;exact⟨cs,T,eo,aF,h⟩
  ·cases h
 cap b n h:=by cases h
 obj b as h:=by cases h
 cF b n sz e h:=by cases h
 mp b es h:=by cases h
theorem ag2 {w:World} {b o:Nat} {sp:Option Nat} {v:Value} (h:w.cell? ⟨b,o,sp⟩=some v):sp=none∧(cf.world w).cell b o=some v:=by
 unfold World.cell? at h;simp only[cf.world];split at h
 ·rename_i cs T eo aF;simp only at aF;rw[aF];cases sp with
  |none=>exact⟨rfl,by simpa using h⟩
  |some s=>simp at h
 ·cases h
section
variable (P:Program)
def yi:List Field→Nat→Nat→Bool
 | [],off,nQ=>off==nQ
 |f::r,off,nQ=>f.offset==off&&yi r (off+P.cellsOf f.type) nQ
def xM:Nat→TypeId→Bool
 |0,_=>false
 |n+1,t=>match P.underlying t with
  |some .bool|some (.int _)|some .string=>P.cellsOf t==1
  |some (.slice e)=>P.cellsOf t==1&&xM n e&&decide (0<P.cellsOf e)
  |some (.struct fs)=>yi P fs.toList 0 (P.cellsOf t)&&fs.toList.all fun f=>xM n f.type
  |_=>false
def ir (t:TypeId):Bool:=match P.underlying t with
 |some (.struct _)=>true
 |_=>false
def fo:Nat→TypeId→List ab→Prop
 |0,_,_=>False
 |n+1,t,as=>match P.underlying t with
  |some .bool=>∃b,as=[.bool b]
  |some (.int k)=>∃m,as=[.int k m]∧(Lit.int k m).wf=true
  |some .string=>∃l,as=[.str l]∧l.length≤reachBytes
  |some (.slice e)=>as=[.slice [] true none]∨∃xs,as=[.slice xs false none]∧xs.length≤maxLen∧xs.length*P.bytesOf e≤reachBytes∧∀x∈xs,∃cs,x=gh (ir P e) cs∧fo n e cs
  |some (.struct fs)=>as.length=P.cellsOf t∧∀f∈fs.toList,fo n f.type ((as.drop f.offset).take (P.cellsOf f.type))
  |_=>False
end
theorem XV {α:Type} [Inhabited α] (bo:Nat→α→Prop):∀(n:Nat),(∀i,i<n→∃x,bo i x)→∃xs:List α,xs.length=n∧∀i x,xs[i]? =some x→bo i x
 |0,_=>⟨[],rfl,fun i x h=>by simp at h⟩
 |n+1,h=>by
  obtain⟨xs,ak,ad⟩:=XV bo n fun i hi=>h i (by omega)
  obtain⟨x,iq⟩:=h n (by omega)
  refine⟨xs++[x],by simp[ak],fun i y aI=> ?_⟩
  rcases lJ i n with hi|hi
  ·rw[kl (by omega)]at aI;exact ad i y aI
  ·rw[km (by omega)]at aI
   have:i-xs.length=0:=by
    rcases uv (i-xs.length)with aV|aV
    ·exact aV
    ·rw[kI (by simp;omega)]at aI;cases aI
   rw[this]at aI;simp only[l5,bk]at aI;have:i=n:=by omega
   subst this;subst aI;exact iq
section
variable {P:Program} {w:World} {H:Type} {enc:TypeId × Value→H}
def qC (I:cf) (cs:List Value) (as:List ab):Prop:=∀j,aZ I (cs.getD j undef) (as.getD j .top)
theorem qC.one {I:cf} {v:Value} {a:ab} (h:aZ I v a):qC I [v] [a]:=fun j=>by
 cases j with
 |zero=>exact h
 |succ j=>simpa using aZ.top _
theorem qC.append {I:cf} {cs:List Value} {as bs:List ab} (U:qC I (cs.take as.length) as) (_hl:as.length≤cs.length) (aa:qC I (cs.drop as.length) bs):qC I cs (as++bs):=fun j=>by
 by_cases aU:j<as.length
 ·have:=U j;rw[cM,l9,if_pos aU,←cM]at this;rw[cM (l:=as++bs),kl aU,←cM];exact this
 ·have:=aa (j-as.length);rw[cM,k4,←cM,OD (by omega)]at this
  rw[cM (l:=as++bs),km (by omega),←cM]
  exact this
theorem U5:∀{r:List Field} {off nQ:Nat},yi P r off nQ=true→off≤nQ∧∀f∈r,off≤f.offset
 | [],off,nQ,h=>by
  simp only[yi,beq_iff_eq]at h;exact⟨by omega,fun f ax=>by cases ax⟩
 |f::r,off,nQ,h=>by
  simp only[yi,dF,beq_iff_eq]at h;obtain⟨U,aa⟩:=U5 h.2;exact⟨by omega,fun g av=>by
   rcases cu.1 av with rfl|av
   ·omega
   ·have:=aa g av;omega⟩
theorem agD {I:cf} {Q:Field→List ab→Prop} {cs:List Value} {nQ:Nat} (_hl:cs.length=nQ):∀(r:List Field) (off:Nat),yi P r off nQ=true→
  (∀f∈r,∃as,as.length=P.cellsOf f.type∧qC I ((cs.drop f.offset).take (P.cellsOf f.type)) as∧Q f as)→
  ∃as,as.length=nQ-off∧qC I (cs.drop off) as∧∀f∈r,Q f ((as.drop (f.offset-off)).take (P.cellsOf f.type))
 | [],off,h,_=>by
  simp only[yi,beq_iff_eq]at h;refine⟨[],by simp;omega,fun j=> ?_,fun f ax=>by cases ax⟩
  simpa using aZ.top _
 |f::r,off,h,aB=>by
  have aw:=U5 h;simp only[yi,dF,beq_iff_eq]at h;obtain⟨ay,h⟩:=h;obtain⟨bz,d_⟩:=U5 h;obtain⟨as,BV,y_,an9⟩:=aB f cz;obtain⟨bs,BY,pY,FX⟩:=agD _hl r _ h fun g av=>aB g (cv _ av);refine⟨as++bs,by simp;omega,qC.append ?_ (by simp;omega) ?_,fun g av=> ?_⟩
  ·rw[BV,←ay];exact y_
  ·rw[BV,Bt];exact pY
  ·rcases cu.1 av with rfl|av
   ·rw[ay,ID,IE,←BV,List.take_left];exact an9
   ·have tt:=d_ g av;have:(as++bs).drop (g.offset-off)=bs.drop (g.offset-(off+P.cellsOf f.type)):=by
     rw[List.drop_append,List.drop_eq_nil_of_le (by omega),EB]
     congr 1;omega
    rw[this];exact FX g av
theorem ag0 {e:TypeId}:∀{l:List (DataW H)} {d:DataW H},d∈l→∀n∈d.weights P e,n∈DataW.weightsAll P e l
 |a::r,d,h,n,aK=>by
  simp only[DataW.weightsAll,fu];rcases cu.1 h with rfl|h
  ·exact .inl aK
  ·exact .inr (ag0 h n aK)
theorem fo.cells {n:Nat} {t:TypeId} {as:List ab} (h:fo P n t as):(gh (ir P t) as).cells=as∧(ir P t=false→as.length=1):=by
 cases n with
 |zero=>exact h.elim
 |succ n=>
  unfold fo at h;unfold ir;split at h
  ·rename_i hu;rw[hu];obtain⟨b,rfl⟩:=h;exact⟨rfl,fun _=>rfl⟩
  ·rename_i hu;rw[hu];obtain⟨b,rfl,_⟩:=h;exact⟨rfl,fun _=>rfl⟩
  ·rename_i hu;rw[hu];obtain⟨b,rfl,_⟩:=h;exact⟨rfl,fun _=>rfl⟩
  ·rename_i hu;rw[hu];rcases h with rfl|⟨b,rfl,_⟩<;>exact⟨rfl,fun _=>rfl⟩
  ·rename_i hu;rw[hu];exact⟨rfl,fun h=>by cases h⟩
  ·exact h.elim
theorem au7:∀(fuel n:Nat) (t:TypeId) (cs:List Value) (x:DataW H × List MemPlace),xM P n t=true→DataW.trod enc P w 0 (fun _=>true) true fuel t cs=some x→(∀m∈x.1.weights P t,m≤reachBytes)→
  cs.length=P.cellsOf t∧∃as,as.length=P.cellsOf t∧qC (cf.world w) cs as∧fo P n t as:=by
 intro fuel
 induction fuel with
 |zero=>intro n t cs x _ h;simp[DataW.trod]at h
 |succ fuel bm=>
  intro n t cs x fB h hw;cases n with
  |zero=>cases fB
  |succ n=>
   unfold xM at fB;split at fB
   ·rename_i hu;obtain⟨b,rfl,rfl⟩:=DataW.trod_bool hu h;have af:P.cellsOf t=1:=by simpa using fB
    exact⟨by rw[af];rfl,[.bool b],by rw[af];rfl,.one (.bool b),by unfold fo;rw[hu];exact⟨b,rfl⟩⟩
   ·rename_i k hu;obtain⟨m,rfl,rfl,Ch⟩:=DataW.trod_int hu h;have af:P.cellsOf t=1:=by simpa using fB
    exact⟨by rw[af];rfl,[.int k m],by rw[af];rfl,.one (.int k m),by unfold fo;rw[hu];exact⟨m,rfl,Ch⟩⟩
   ·rename_i hu;obtain⟨s,rfl,rfl,hs⟩:=DataW.trod_string hu h;have af:P.cellsOf t=1:=by simpa using fB
    exact⟨by rw[af];rfl,[.str s.data.toList],by rw[af];rfl,.one (.str s _ rfl),by unfold fo;rw[hu];exact⟨_,rfl,hw _ (by simp[DataW.weights])⟩⟩
   ·rename_i e hu;simp only[dF,beq_iff_eq,decide_eq_true_eq]at fB;obtain⟨⟨af,anL⟩,FU⟩:=fB;rcases DataW.trod_slice hu h with⟨rfl,rfl⟩|⟨a,len,cap,tj,rest,m,hm,rfl,rfl,_,cl,mm,hP,he,ah,_⟩
    ·exact⟨by rw[af];rfl,[.slice [] true none],by rw[af];rfl,.one .qg,by unfold fo;rw[hu];exact .inl rfl⟩
    ·obtain rfl:fuel=m:=by omega
     obtain⟨avV,ah⟩:=ah rfl;simp only[DataW.weights,hu]at hw;have Rj:len*P.bytesOf e≤reachBytes:=by
      have U:=hw _ cz;simp only[ng]at U;exact fp (l_ _ (by omega)) U
     have aoA:∀y∈tj,∀q∈y.1.weights P e,q≤reachBytes:=fun y aI q aB=>
      hw q (cv _ (oS _ (ag0 (eO.2 ⟨y,aI,rfl⟩) q aB)))
     refine⟨by rw[af];rfl,?_⟩
     obtain⟨b,off,sp⟩:=a;by_cases amL:cap=0
     ·subst amL;obtain rfl:len=0:=by omega
      exact⟨[.slice [] false none],by rw[af];rfl,.one (.tZ _),by unfold fo;rw[hu];exact .inr ⟨[],rfl,by simp[maxLen],by simp,fun x ad=>by cases ad⟩⟩
     ·
      have mV:sp=none:=by
       have aV:∃us,w.cells? 0 ((⟨b,off,sp⟩:Addr).add (0*P.cellsOf e)) (P.cellsOf e)=some us:=by
        by_cases lX:0<len
        ·have:=he 0 lX;rw[eU (by omega),OF]at this
         obtain⟨us,U,_⟩:=this;exact⟨us,U⟩
        ·have:=ah 0 (by omega)
         rw[eU (by omega),OF]at this
         obtain⟨us,U,_⟩:=this;rw[show(len+0)=0 by omega]at U
         exact⟨us,U⟩
       obtain⟨us,aV⟩:=aV;obtain⟨_,aov,Rh⟩:=World.cells?_some aV;have:=Rh 0 FU;rw[eU (by omega)]at this
       simp only[IF,Addr.add,if_true]at this;exact(ag2 this).1
      subst mV;have each:∀i,i<len→∃x:ab,∃as,x=gh (ir P e) as∧as.length=P.cellsOf e∧fo P n e as∧∀j,j<P.cellsOf e→∃v,(cf.world w).cell b (off+(i*P.cellsOf e+j))=some v∧aZ (cf.world w) v (as.getD j .top):=by
       intro i hi;have:=he i hi;rw[eU (by omega),OF]at this
       obtain⟨us,U,aa⟩:=this;obtain⟨_,as,BV,y_,has⟩:=bm n e us _ anL aa (aoA _ (l' _));obtain⟨_,aov,Rh⟩:=World.cells?_some U;refine⟨_,as,rfl,BV,has,fun j aU=> ?_⟩;have r1:=Rh j aU;rw[eU (by omega)]at r1
       have jY:((⟨b,off,none⟩:Addr).add (i*P.cellsOf e)).add j=⟨b,off+(i*P.cellsOf e+j),none⟩:=by
        unfold Addr.add;by_cases U:i*P.cellsOf e=0<;>by_cases aa:j=0<;>simp[U,aa]<;>omega
       rw[jY]at r1;refine⟨_,(ag2 r1).2,?_⟩;have:=y_ j;rw[cM,eU (by omega)]at this
       exact this
      obtain⟨xs,sn,ad⟩:=XV _ len each;have fV:∀i,i<len→∃as,xs.getD i .top=gh (ir P e) as∧as.length=P.cellsOf e∧fo P n e as∧∀j,j<P.cellsOf e→∃v,(cf.world w).cell b (off+(i*P.cellsOf e+j))=some v∧aZ (cf.world w) v (as.getD j .top):=by
       intro i hi;rw[cM,eU (by omega)]
       exact ad i _ (eU (by omega))
      refine⟨[.slice xs false none],by rw[af];rfl,.one ?_,?_⟩
      ·refine aZ.slice b off len cap (P.cellsOf e) xs none (fun i j=>if i<len∧j<P.cellsOf e then((cf.world w).cell b (off+(i*P.cellsOf e+j))).getD undef else undef) sn cl mm (fun i hi=> ?_) (fun i j hi aU=> ?_) (fun i j=> ?_) (fun g av=>by cases av)
       ·obtain⟨as,U,aa,au,_⟩:=fV i hi;rw[U,au.cells.1,aa]
       ·obtain⟨as,U,aa,au,ba⟩:=fV i hi;obtain⟨v,ar,_⟩:=ba j aU;rw[if_pos ⟨hi,aU⟩,ar];rfl
       ·by_cases lj:i<len∧j<P.cellsOf e
        ·obtain⟨as,U,aa,au,ba⟩:=fV i lj.1;obtain⟨v,ar,B'⟩:=ba j lj.2;rw[if_pos lj,ar,U,au.cells.1];exact B'
        ·rw[if_neg lj];by_cases hi:i<len
         ·obtain⟨as,U,aa,au,_⟩:=fV i hi;rw[U,au.cells.1,cM,kI (by omega)]
          exact .top _
         ·rw[cM (l:=xs),kI (by omega)]
          cases j<;>simpa[ab.cells]using aZ.top _
      ·unfold fo;rw[hu];refine .inr ⟨xs,rfl,by omega,by rw[sn];exact Rj,fun x aoC=> ?_⟩
       obtain⟨i,hi⟩:=s6 aoC;obtain⟨as,U,_,au,_⟩:=ad i x hi;exact⟨as,U,au⟩
   ·rename_i fs hu;simp only[dF]at fB;obtain⟨aoq,jk⟩:=fB;obtain⟨ys,m,hm,rfl,ej,mY,ax⟩:=DataW.trod_struct hu h;obtain rfl:fuel=m:=by omega
    refine⟨ej,?_⟩;have am7:∀f∈fs.toList,∃as,as.length=P.cellsOf f.type∧qC (cf.world w) ((cs.drop f.offset).take (P.cellsOf f.type)) as∧fo P n f.type as:=by
     intro f JP;obtain⟨i,hi⟩:=s6 JP;have ei:fs[i]? =some f:=by simpa using hi
     have bw:i<fs.size:=(OG.1 ei).1;have aI:=ax i f ei;rw[eU (by omega)]at aI
     obtain⟨_,as,U,aa,au⟩:=bm n f.type _ _ (dI.1 jk f JP) aI (fun q aB=>hw q (by
      simp only[DataW.weights,hu];refine DataW.weights_mem_each (j:=i) (t:=f.type) (d:=ys[i].1) ?_ ?_ q aB
      ·rw[ic,hi];rfl
      ·rw[ic,eU (by omega)];rfl))
     exact⟨as,U,aa,au⟩
    obtain⟨as,U,aa,au⟩:=agD ej fs.toList 0 aoq am7;refine⟨as,by simpa using U,by simpa using aa,?_⟩
    unfold fo;rw[hu];exact⟨by simpa using U,fun f JP=>by simpa using au f JP⟩
   ·cases fB
theorem aji {n fuel:Nat} {t:TypeId} {v:Value} {x:DataW H × List MemPlace} {r:Reach} {oV:Nat} (fB:xM P n t=true) (nE:Value.okWide P w r oV t v) (h:DataW.trod enc P w 0 (fun _=>true) true fuel t v.cells.toList=some x)
  (hw:∀m∈x.1.weights P t,m≤reachBytes):∃as,aZ (cf.world w) v (gh (ir P t) as)∧fo P n t as:=by
 obtain⟨ak,as,BV,y_,hs⟩:=au7 fuel n t _ x fB h hw;refine⟨as,?_,hs⟩;cases j6:ir P t with
 |true=>
  have hu:∃fs,P.underlying t=some (.struct fs):=by
   unfold ir at j6;split at j6
   ·exact⟨_,‹_›⟩
   ·cases j6
  obtain⟨fs,hu⟩:=hu;unfold Value.okWide at nE;rw[hu]at nE;obtain⟨cs,rfl,gd,_⟩:=nE;refine aZ.agg cs as (by omega) fun j=> ?_
  have:=y_ j;simpa[Value.cells,gl,cM]using this
 |false=>
  have U:=hs.cells.2 j6;have ar:v.cells= #[v]:=by
   cases v<;>try rfl
   rename_i cs;exfalso;unfold ir at j6;unfold Value.okWide Cell.okWide Cell.ok at nE;cases n with
   |zero=>cases fB
   |succ n=>
    unfold xM at fB;split at fB<;>rename_i hu<;>simp[hu]at nE j6 fB
  rw[ar]at y_;have:=y_ 0
  match as,U with
  | [a],_=>exact this
def HV (P:Program) (n:Nat):List TypeId→List ab→Prop
 | [],[]=>True
 |t::ts,a::as=>(∃cs,a=gh (ir P t) cs∧fo P n t cs)∧HV P n ts as
 |_,_=>False
theorem V6 {n:Nat} {r:Reach} {oV:Nat}:∀{ts:List TypeId} {vs:List Value} {ds:List (DataW H)} {br:List MemPlace},ts.all (xM P n)=true→(∀(j:Nat) t v,ts[j]? =some t→vs[j]? =some v→Value.okWide P w r oV t v)→
  DataW.TrodAll enc P w 0 (fun _=>true) true ts vs ds br→(∀m∈DataW.weightsEach P ts ds,m≤reachBytes)→
  ∃as,HV P n ts as∧vs.length=as.length∧qC (cf.world w) vs as
 | [],[],[],_,_,_,_,_=>⟨[],trivial,rfl,fun j=>by simpa using aZ.top _⟩
 |t::ts,v::vs,d::ds,_,fB,nE,⟨p,q,⟨fuel,U⟩,aa,_⟩,hw=>by
  simp only[rG,dF]at fB;simp only[DataW.weightsEach,fu]at hw;obtain⟨cs,ah,hs⟩:=aji (x:=(d,p)) fB.1 (nE 0 t v rfl rfl) U fun m hm=>hw m (.inl hm);obtain⟨as,aA,ak,sj⟩:=V6 fB.2 (fun j t v aw ar=>nE (j+1) t v aw ar) aa fun m hm=>hw m (.inr hm);refine⟨_::as,⟨⟨cs,rfl,hs⟩,aA⟩,by simp[ak],fun j=> ?_⟩
  cases j with
  |zero=>exact ah
  |succ j=>exact sj j
theorem agJ {oV:Nat} {sp:Nat→Bool} {amZ:Bool}:∀{ts:List TypeId} {vs:List Value} {ds:List (DataW H)} {br:List MemPlace},DataW.TrodAll enc P w oV sp amZ ts vs ds br→ds.length=ts.length
 | [],[],[],_,_=>rfl
 |_::_,_::_,_::_,_,⟨_,_,_,aa,_⟩=>by simp[agJ aa]
theorem agI (ak:laidOutB P=true) {W W':World} (aj:RowKit.Below W.heap.size W W'):∀{ts:List TypeId} {vs:List Value} {ds:List (DataW H)} {br:List MemPlace},(∀t∈ts,P.readableRec t=true∧t<P.types.size)→
  DataW.TrodAll enc P W 0 (fun _=>true) true ts vs ds br→(∀x∈br,x.block<W.heap.size)→DataW.TrodAll enc P W' 0 (fun b=>decide (b<W.heap.size)) true ts vs ds br
 | [],[],[],_,_,h,_=>h
 |t::ts,v::vs,d::ds,_,aw,⟨p,q,U,aa,he⟩,ae=>by
  subst he;obtain⟨bu,bC⟩:=aw t cz;exact⟨p,q,Below.trod ak bu bC U aj fun x ad=>ae x (oS _ ad),agI ak aj (fun t h=>aw t (cv _ h)) aa fun x ad=>ae x (nh _ ad),rfl⟩
theorem ash {f:Func} {s:ChangeSpec} {W W':World} {args:Array Value} {ds gs:List (DataW H)} {Er:List MemPlace} {yg:TypeId} (ak:laidOutB P=true) (aw:f.params.toList.all (fun t=>P.readableRec t&&decide (t<P.types.size))=true) (ar:s.vars=[])
  (B_:f.resultTypes= #[yg]) (Rg:P.underlying yg=some .bool) (ij:DataW.Whole enc P f.params.toList s.vars false W args.toList ds gs Er)
  (u2:s.fn H (ds++gs)= {results:=[.lit (.bool true)],args:=ds}) (aj:RowKit.Below W.heap.size W W'):s.post enc P f false true false false W args (.bool true) W':=by
 have bw:∀p∈Er,p.block<W.heap.size:=fun p ae=>ij.lt p ae;have Fv:=ij;obtain⟨p,q,U,aa,rfl,_,_⟩:=ij;have aB:q=[]∧gs=[]:=by
  rw[ar]at aa
  match gs,aa with
  | [],aa=>exact⟨aa,rfl⟩
 obtain⟨rfl,rfl⟩:=aB;refine⟨ds,[],p++[],[],p,[],Fv,?_,?_,?_,World.keptBut_mono (fun p ae=>⟨ae,.inr (.inl (by simpa using ae))⟩) (aj.frame (· ∈p++[])),fun h=>by cases h⟩
 ·rw[u2,B_];refine⟨[],[],⟨1,?_⟩,rfl,rfl⟩;simp[DataW.trod,Rg,Value.cells]
 ·rw[u2];exact agI ak aj (fun t h=>by simpa using dI.1 aw t h) U fun x ad=>bw x (oS _ ad)
 ·rw[u2,ar];exact rfl
theorem aj1 {k n:Nat} {f:Func} {s:ChangeSpec} {W:World} {args:Array Value} {ds gs:List (DataW H)} {Er:List MemPlace} {yg:TypeId} {oV:Nat} (ans:∀as,HV P n f.params.toList as→hL P k as a8.empty fun a _=>a=.bool true)
  (ak:laidOutB P=true) (aw:f.params.toList.all (fun t=>P.readableRec t&&decide (t<P.types.size))=true) (fB:f.params.toList.all (xM P n)=true) (ar:s.vars=[])
  (B_:f.resultTypes= #[yg]) (Rg:P.underlying yg=some .bool) (nE:∀(j:Nat) t v,f.params[j]? =some t→args[j]? =some v→Value.okWide P W .any oV t v)
  (ij:DataW.Whole enc P f.params.toList s.vars false W args.toList ds gs Er) (dj:(DataW.weightsEach P (f.params.toList++s.plain.varTypes P) (ds++gs)).all (· ≤reachBytes)=true)
  (u2:s.fn H (ds++gs)= {results:=[.lit (.bool true)],args:=ds}):Calls P k args W fun e W'=>∃v,e=.returned v∧s.post enc P f false true false false W args v W':=by
 have Fv:=ij;obtain⟨p,q,U,aa,_,_,_⟩:=ij;have Qt:gs=[]:=by
  rw[ar]at aa
  match gs,aa with
  | [],_=>rfl
 subst Qt;have Rc:∀m∈DataW.weightsEach P f.params.toList ds,m≤reachBytes:=by
  intro m hm;have vd:s.plain.varTypes P=[]:=by
   simp[DataSpec.varTypes,ChangeSpec.plain,ar]
  rw[vd,wB,wB]at dj;simpa using dI.1 dj m hm
 obtain⟨as,aA,qX,sj⟩:=V6 (w:=W) fB (fun j t v aw ar=>nE j t v (by simpa using aw) (by simpa using ar)) U Rc
 refine(ans as aA (cf.world W) W args (aq4 W) (by simpa using qX) fun j=> ?_).mono ?_
 ·have:=sj j;simpa[gl,cM]using this
 ·rintro e W' ⟨v,a,I',bp,rfl,ah,eI,ai,rfl⟩;have xl:=aZ.Ey ah;subst xl;exact⟨_,rfl,ash ak aw ar B_ Rg Fv u2 ⟨ai.os,ai.tape,ai.output,ai.size,fun b aj=>(ai.iJ b aj ⟨rfl,rfl,rfl⟩).1⟩⟩
end
section
variable {P:Program}
theorem fo.bool {n:Nat} {t:TypeId} {as:List ab} (h:fo P n t as) (hu:P.underlying t=some .bool):∃b,as=[.bool b]:=by
 cases n with
 |zero=>exact h.elim
 |succ n=>unfold fo at h;rw[hu]at h;exact h
theorem fo.int {n:Nat} {t:TypeId} {k:IntKind} {as:List ab} (h:fo P n t as) (hu:P.underlying t=some (.int k)):∃m,as=[.int k m]∧(Lit.int k m).wf=true:=by
 cases n with
 |zero=>exact h.elim
 |succ n=>unfold fo at h;rw[hu]at h;exact h
theorem fo.slice {n:Nat} {t e:TypeId} {as:List ab} (h:fo P n t as) (hu:P.underlying t=some (.slice e)):∃xs nl m,as=[.slice xs nl none]∧(nl=true→xs=[])∧xs.length≤maxLen∧xs.length*P.bytesOf e≤reachBytes∧
  n=m+1∧∀x∈xs,∃cs,x=gh (ir P e) cs∧fo P m e cs:=by
 cases n with
 |zero=>exact h.elim
 |succ n=>
  unfold fo at h;rw[hu]at h;rcases h with rfl|⟨xs,rfl,U,aa,au⟩
  ·exact⟨[],true,n,rfl,fun _=>rfl,by simp[maxLen],by simp,rfl,fun x ad=>by cases ad⟩
  ·exact⟨xs,false,n,rfl,fun h=>(by cases h),U,aa,rfl,au⟩
theorem fo.struct {n:Nat} {t:TypeId} {fs:Array Field} {as:List ab} (h:fo P n t as) (hu:P.underlying t=some (.struct fs)):as.length=P.cellsOf t∧∃m,n=m+1∧∀f∈fs.toList,fo P m f.type ((as.drop f.offset).take (P.cellsOf f.type)):=by
 cases n with
 |zero=>exact h.elim
 |succ n=>unfold fo at h;rw[hu]at h;exact⟨h.1,n,rfl,h.2⟩
theorem ag1 {k:IntKind} {n:Int} (h:(Lit.int k n).wf=true):k.min≤n∧n≤k.max:=by
 simpa[Lit.wf]using h
end
end Go.bO
end
