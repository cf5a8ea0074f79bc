/- Sorted keys of a map (keys that are numbers): what is told of slices.Sorted. -/
import Derived.Test.YthjhmfhmejlenaaGreatAL23
import Derived.Shelf.SlIterI.Sorted
import Derived.Test.YthjhmfhmejlenaaGreatSX25
set_option linter.unusedSectionVars false
set_option linter.unusedVariables false
set_option linter.unusedSimpArgs false
section
namespace Go.Proofs.eK
open Go Go.bO Go.Proofs Go.RowKit Go.Maps Go.Sort Go.Shelf
set_option maxRecDepth 100000
def p_:ab × ab→Bool
 |(.int .i64 n,_)=>(Lit.int .i64 n).wf
 |_=>false
def kT:ab × ab→Int
 |(.int _ n,_)=>n
 |_=>0
def Hi:List Int→ab
 | []=>.slice [] true none
 |x::l=>.slice ((x::l).map (.int .i64)) false none
open Classical in
noncomputable def Mm (V:aO):eA→eS
 |.map _ es=>if(∀e∈es,p_ e=true)∧(es.map kT).Nodup∧es.length*8≤140737488355328 then .jX (Hi ((es.map kT).mergeSort leI)) V else .fail
 |_=>.fail
noncomputable def Ml (V:aO):eA→eS
 |.obj [.map (some r)]=>Mm V (V.at r)
 |.obj [.map none]=>.jX (.slice [] true none) V
 |_=>.fail
noncomputable def Aw (g:Nat):dw:=fun l V=>match l with
 | [.func (.func f) [] [.ptr i 0]]=>if f=g then Ml V (V.at i)else .fail
 |_=>.fail
theorem atl {I:cf} {ag:a8} {w:World} (m:e0 I ag w) {w':World} {cap:Nat × Nat} {e:TypeId} {cur:Array Value} {eo:Nat × Nat} {g:Nat}
  (av:w.heap.size≤g) (fF:RowKit.Below w.heap.size w w') (aj:w'.heap[g]? =some (.cells cur e eo)):
  e0 (I.grow g cap fun o=>cur[o]?) ag w'∧fC I ag w (I.grow g cap fun o=>cur[o]?) ag w':=by
 have anc:g<w'.heap.size:=g8 aj;have nD:∀x,x<w.heap.size→w'.heap[x]? =w.heap[x]? :=fun x ad=>fF.block x ad;have bz:I.dY (I.grow g cap fun o=>cur[o]?):=by
  refine⟨fun x o v h=> ?_,fun x k h=> ?_⟩
  ·have:=m.N1 h;have ad:(x==g)=false:=by simp;omega
   simpa[cf.grow,ad]using h
  ·have:=m.cap x k h;have ad:(x==g)=false:=by simp;omega
   simpa[cf.grow,ad]using h
 have g':∀{x:Nat} {mA:Obj},w.heap[x]? =some mA→w'.heap[x]? =some mA∧(x==g)=false:=by
  intro x mA h;have:=g8 h;exact⟨(nD x this).trans h,by simp;omega⟩
 refine⟨⟨fun x o v h=> ?_,fun x k h=> ?_,fun x bs h=> ?_,fun x k s t h=> ?_,fun x es h=> ?_⟩,⟨bz,fF.size,fF.os,fF.tape,fF.output,fun x ad ax=> ?_⟩⟩
 ·by_cases ad:x=g
  ·subst ad;simp only[cf.grow,beq_self_eq_true,cond_true]at h;exact⟨cur,e,eo,aj,h⟩
  ·have ff:(x==g)=false:=by simpa using ad
   simp only[cf.grow,ff,cond_false]at h;obtain⟨c,T,f,az,ao⟩:=m.cell x o v h;exact⟨c,T,f,(g' az).1,ao⟩
 ·by_cases ad:x=g
  ·subst ad;exact anc
  ·have ff:(x==g)=false:=by simpa using ad
   simp only[cf.grow,ff,cond_false]at h;have:=m.cap x k h;have:=fF.size;omega
 ·obtain⟨c,T,az,ao,aX,bD,c8⟩:=m.obj x bs h;have ff:=(g' az).2;exact⟨c,T,(g' az).1,ao,fun j=>(aX j).mono bz,by simpa[cf.grow,ff]using bD,by simpa[cf.grow,ff]using c8⟩
 ·obtain⟨jo,c,E0,az,ao,aX,bD,c8,e'⟩:=m.cF x k s t h;have ff:=(g' az).2;exact⟨jo,c,E0,(g' az).1,by simpa[cf.grow,ff]using ao,aX,bD,c8,by simpa[cf.grow,ff]using e'⟩
 ·obtain⟨az,ao,aX,bD⟩:=m.mp x es h;exact⟨az,ao,fun cU kH pV af=>aX cU kH pV ((nD x bD.lt).symm.trans af),bD.iJ bz fF.size fun y o aI _=>(g' aI).1⟩
 ·have ff:(x==g)=false:=by simp;omega
  exact⟨nD x ad,ax,by simp[cf.grow,ff],by simp[cf.grow,ff]⟩
def xG:Value→Option (DataW Unit × List MemPlace):=fun _=>some (.nil,[])
theorem apO {P:Program} {k:TypeId} (aq:P.underlying k=some (.int .i64)) {n:Int} (hw:(Lit.int .i64 n).wf=true) {x:MapEntry} (ad:x.key=.int .i64 n):Go.WideElems.rd P k xG x=some (.int .i64 n,.nil):=by
 unfold Go.WideElems.rd;rw[ad];simp[keyOf,aq,mapKey,hw,xG]
theorem apM {e:ab × ab} (h:p_ e=true):e.1=.int .i64 (kT e)∧(Lit.int .i64 (kT e)).wf=true:=by
 obtain⟨a,b⟩:=e;cases a<;>simp only[p_,lK]at h;rename_i k n;cases k<;>simp only[p_,lK]at h;exact⟨rfl,h⟩
theorem aqM {P:Program} {k:TypeId} (aq:P.underlying k=some (.int .i64)) {I:cf} {w:World} {r:Nat} {ms:Array MapEntry} {oZ:Nat} {es:List (ab × ab)} (aj:w.heap[r]? =some (.map ms oZ)) (ay:oP ms.toList oZ) (hm:jS I ms.toList es)
  (U:∀e∈es,p_ e=true) (aa:(es.map kT).Nodup) (au:es.length≤maxLen):∃D:DataW Unit,w.ownsMap P k xG r es.length D∧(Go.intKeys D).Perm (es.map kT)∧Maps.size D=es.length:=by
 have di:∀(j:Nat) (x:MapEntry) (e:ab × ab),ms.toList[j]? =some x→es[j]? =some e→x.key=.int .i64 (kT e)∧Go.WideElems.rd P k xG x=some (.int .i64 (kT e),.nil):=by
  intro j x e ad he;obtain⟨az,ao⟩:=apM (U e (lM he));have ah:=(hm.2 j x e ad he).1;rw[az]at ah;have inv:∀{u:Value} {n:Int},aZ I u (.int .i64 n)→u=.int .i64 n:=fun h=>by cases h;rfl
  have:x.key=.int .i64 (kT e):=inv ah;exact⟨this,apO aq ao this⟩
 have bM:∀(j:Nat) (x:MapEntry),ms.toList[j]? =some x→∃e,es[j]? =some e:=by
  intro j x ad;have aU:j<es.length:=by rw[←hm.1];exact(hn.1 ad).1
  exact⟨es[j],eU aU⟩
 have B4:ms.toList.map (·.key)=(es.map kT).map (Value.int .i64):=by
  apply Bw;intro j;simp only[ic];cases ad:ms.toList[j]? with
  |none=>
   have aU:es.length≤j:=by rw[←hm.1];exact EE.1 ad
   rw[kI aU];rfl
  |some x=>
   obtain⟨e,he⟩:=bM j x ad;rw[he];simp[(di j x e ad he).1]
 have aob:ms.toList.map (Go.WideElems.rg P k xG)=(es.map kT).map fun n=>(Lit.int .i64 n,DataW.nil):=by
  apply Bw;intro j;simp only[ic];cases ad:ms.toList[j]? with
  |none=>
   have aU:es.length≤j:=by rw[←hm.1];exact EE.1 ad
   rw[kI aU];rfl
  |some x=>
   obtain⟨e,he⟩:=bM j x ad;rw[he];simp[Go.WideElems.rg_of (di j x e ad he).2]
 have dj:ms.size=es.length:=by have:=hm.1;simpa using this
 refine⟨.map ((ms.toList.map (Go.WideElems.rg P k xG)).foldr DataW.insert []),⟨ms,oZ,aj,⟨by omega,⟨ay.2,?_,?_⟩,fun x ad=> ?_⟩,by omega,rfl⟩,?_,?_⟩
 ·have:=ay.1;exact this.imp fun h=>by omega
 ·rw[B4];refine IB.2 (aa.imp fun {a b} uX e=>uX ?_);simpa using e
 ·obtain⟨j,aU⟩:=Ow.1 ad;obtain⟨e,he⟩:=bM j x aU;exact⟨_,(di j x e aU he).2⟩
 ·show(((ms.toList.map (Go.WideElems.rg P k xG)).foldr DataW.insert []).map fun p=>Go.intOf p.1).Perm _;refine((Go.WideShapes.sorted_perm _).map _).trans ?_;rw[aob,List.map_map];refine Ox ?_;have:((fun p:Lit × DataW Unit=>Go.intOf p.1)∘fun n=>(Lit.int .i64 n,DataW.nil))=id:=by funext n;rfl
  rw[this,List.map_id]
 ·show Maps.size (.map _)=_;simp only[Maps.size];rw[(Go.WideShapes.sorted_perm _).length_eq];simp[dj]
theorem ae8 {P:Program} {k:TypeId} {f:Nat} {bo:a8} {R:cV} {V:aO} {ag:a8} {I:cf} {w:World} {vs:Array Value} {ks:List Int} (a1:cT bo R V ag) (m:e0 I ag w)
  (h:Calls P f vs w fun e w'=>∃(v:Value) (ss:List Int),e=.returned v∧ss.Perm ks∧w'.ownsRow w.heap.size k 1 v ss.length ((ss.mergeSort leI).map encZ)∧(v=.slice none 0 0↔ss=[])∧RowKit.Below w.heap.size w w'):
  Calls P f vs w fun e w'=>∃v a I' bp,e=.returned v∧aZ I' v a∧e0 I' bp w'∧fC I ag w I' bp w'∧∃aL,R.dY aL∧jR V V∧cT bo aL V bp∧aY aL (Hi (ks.mergeSort leI)) a:=by
 refine h.mono ?_;rintro e w' ⟨v,ss,rfl,ae,j6,zm,fF⟩;have aon:ss.mergeSort leI=ks.mergeSort leI:=mergeSort_of_perm_i ae;rw[aon]at j6;have cl:(ks.mergeSort leI).length=ss.length:=by rw[List.length_mergeSort];exact ae.length_eq.symm
 rcases j6.2 with⟨rfl,a'⟩|⟨g,cap,cur,rfl,amD,mn,cc,b4,dP,kb⟩
 ·have J5:ss=[]:=rJ a';have anp:ks.mergeSort leI=[]:=rJ (by rw[cl,a'])
  rw[anp];have bQ:∀{b:Nat} {o:Obj},w.heap[b]? =some o→w'.heap[b]? =some o:=fun {b o} aj=>(fF.block b (g8 aj)).trans aj;have hm:e0 I ag w'∧fC I ag w I ag w':=by
   refine⟨⟨fun b o v af=> ?_,fun b n af=>eE (m.cap b n af) fF.size,fun b xs ay=> ?_,fun b n sz e ay=> ?_,fun b ed hm=> ?_⟩,⟨.refl I,fF.size,fF.os,fF.tape,fF.output,fun b aj ax=>⟨fF.block b aj,ax,fun _=>rfl,rfl⟩⟩⟩
   ·obtain⟨cs,T,eo,U,aa⟩:=m.cell b o v af;exact⟨cs,T,eo,bQ U,aa⟩
   ·obtain⟨cs,T,U,aa⟩:=m.obj b xs ay;exact⟨cs,T,bQ U,aa⟩
   ·obtain⟨U,cs,cap,aa,au⟩:=m.cF b n sz e ay;exact⟨U,cs,cap,bQ aa,au⟩
   ·obtain⟨U,aa,au,ba⟩:=m.mp b ed hm;refine⟨U,aa,fun cs T eo aF=>au cs T eo ?_,ba.iJ (.refl I) fF.size fun x o ad _=>bQ ad⟩;rw[←fF.block b ba.lt];exact aF
  exact⟨_,.slice [] true none,I,ag,rfl,.qg,hm.1,hm.2,R,.refl _,.refl _,a1,aY.g_ _ rfl⟩
 ·have cm:ss≠[]:=fun aF=>by have:=zm.2 aF;cases this
  obtain⟨x,l,sn⟩:∃x l,ks.mergeSort leI=x::l:=by
   cases af:ks.mergeSort leI with
   |nil=>rw[af]at cl;exact absurd (rJ cl.symm) cm
   |cons x l=>exact⟨x,l,rfl⟩
  obtain⟨bx,n4⟩:=atl m (cap:=(cap,1)) amD fF mn;rw[sn]at cl kb⊢;have hP:∀i (hi:i<(x::l).length),cur[i]? =some (.int .i64 ((x::l)[i])):=by
   intro i hi;have U:(cur.toList.take (ss.length*1))[i]? =some (.int .i64 ((x::l)[i])):=by
    rw[kb,ic,eU hi];rfl
   rw[l9]at U;split at U
   ·simpa using U
   ·cases U
  refine⟨_,Hi (x::l),_,ag,rfl,?_,bx,n4,R,.refl _,.refl _,a1,aY.g_ _ ?_⟩
  ·refine afy (sz:=1) (cur:=cur) (vs:=fun i j=>.int .i64 ((x::l).getD i 0)) (by simpa using cl) cc b4 (fun i hi=> ?_) (fun i j hi aU=> ?_) (fun i j=> ?_) (cf.JA _ _ _ _)
   ·have ei:i<((x::l).map (ab.int .i64)).length:=by rw[ng,cl];exact hi
    rw[cM,eU ei];simp only[List.getElem_map,lL,ab.cells,List.length_singleton]
   ·have r':j=0:=by omega
    subst r';have ei:i<(x::l).length:=by rw[cl];exact hi
    rw[IA,pN,hP i ei,cM,eU ei];rfl
   ·simp only[cM (l:=List.map (ab.int .i64) (x::l)),ic,cM (l:=x::l)];cases af:(x::l)[i]? with
    |none=>
     have:((Option.map (ab.int .i64) none).getD ab.top).cells.getD j .top=.top:=by cases j<;>rfl
     rw[this];exact aZ.top _
    |some y=>
     simp only[nj,lL,ab.cells];cases j with
     |zero=>exact aZ.int _ _
     |succ j=>exact aZ.top _
  ·show ab.plain (.slice ((x::l).map (.int .i64)) false none)=true;simp only[ab.plain];have:∀l:List Int,gV (l.map (.int .i64))=true:=by
    intro l
    induction l with
    |nil=>rfl
    |cons a l bm=>simp only[gM,gV,ab.plain,bm];rfl
   exact this _
structure VC (P:Program) (f g:Nat) (k:TypeId):Prop where
 fn:∃fn,P.funcs[f]? =some fn∧(fn.body.isSome&&fn.name != "runtime.NumGoroutine")=true
 key:P.underlying k=some (.int .i64)
 has:∀(w:Go.World) (b r bB:Nat) (D:DataW Unit),w.cell? ⟨b,0,.none⟩=some (.map (some r))→w.ownsMap P k xG r bB D→Maps.size D≤maxLen→Maps.size D*8≤140737488355328→
  Calls P f #[.func (.func g) #[] #[.pointer (some ⟨b,0,none⟩)]] w fun e w'=>∃(v:Value) (ss:List Int),e=.returned v∧ss.Perm (Go.intKeys D)∧w'.ownsRow w.heap.size k 1 v ss.length ((ss.mergeSort leI).map encZ)∧(v=.slice none 0 0↔ss=[])∧RowKit.Below w.heap.size w w'
 no:∀(w:Go.World) (b:Nat),w.cell? ⟨b,0,.none⟩=some (.map none)→
  Calls P f #[.func (.func g) #[] #[.pointer (some ⟨b,0,none⟩)]] w fun e w'=>∃(v:Value) (ss:List Int),e=.returned v∧ss.Perm []∧w'.ownsRow w.heap.size k 1 v ss.length ((ss.mergeSort leI).map encZ)∧(v=.slice none 0 0↔ss=[])∧RowKit.Below w.heap.size w w'
theorem WA {I:cf} {vs:Array Value} {g b:Nat} (hs:vs.size=1) (ah:∀j,aZ I (vs.getD j undef) (([.func (.func g) [] [.ptr b 0]]:List ab).getD j .top)):vs= #[.func (.func g) #[] #[.pointer (some ⟨b,0,none⟩)]]:=by
 obtain⟨ia,q3⟩:∃ia,vs= #[ia]:=by
  obtain⟨l⟩:=vs
  match l,hs with
  | [ia],_=>exact⟨ia,rfl⟩
 subst q3;have U:aZ I ia (.func (.func g) [] [.ptr b 0]):=ah 0;have e1:ia=.func (.func g) #[] #[.pointer (some ⟨b,0,none⟩)]:=by
  cases U with
  |func fn f c xs bs az ao cc b4=>
   have ax:f= #[]:=Array.eq_empty_of_size_eq_zero az;have af:c.size=1:=ao;obtain⟨l⟩:=c
   match l,af with
   | [x],_=>
    have ad:aZ I x (.ptr b 0):=b4 0;cases ad;rw[ax]
 rw[e1]
theorem WB {I:cf} {ag:a8} {w:World} (m:e0 I ag w) {b:Nat} {q:Option Nat} (h:ag.obj b=some [.map q]):w.cell? ⟨b,0,.none⟩=some (.map q):=by
 obtain⟨cs,T,az,ao,aX,_⟩:=m.obj b _ h;have gd:cs= #[.map q]:=by
  have il:cs.size=1:=ao;obtain⟨l⟩:=cs
  match l,il with
  | [x],_=>
   have ad:aZ I x (.map q):=aX 0;cases ad;rfl
 unfold World.cell?;rw[az,gd];rfl
theorem gS.keys_eq {R:cV}:∀{es es':List (ab × ab)},gS R es es'→es'.map kT=es.map kT∧(es'.map p_=es.map p_)
 | [],es',h=>by cases h;exact⟨rfl,rfl⟩
 |e::r,es',h=>by
  obtain⟨v,ys,_,aa,rfl⟩:=h;obtain⟨i1,i2⟩:=gS.keys_eq aa;obtain⟨a,b⟩:=e;refine⟨?_,?_⟩
  ·rw[gM,gM,i1];cases a<;>rfl
  ·rw[gM,gM,i2];have:∀ea,p_ (a,ea)=p_ (a,b):=fun ea=>by
    unfold p_;split<;>simp_all
   rw[this]
theorem atE {P:Program} {f g:Nat} {k:TypeId} (L:VC P f g k):hz P f (Aw g):=by
 intro xs V bU h;unfold Aw at h;split at h
 case h_2=>exact h.elim
 rename_i n_ i;split at h
 case isFalse=>exact h.elim
 rename_i ax;subst ax;refine⟨L.fn,fun bo R ag bs a1 ar=> ?_⟩;obtain⟨cp,avD,v3,v4,rfl⟩:=ar.cons_inv;have:=v4.js;subst this;simp only[aY]at v3;obtain⟨f1,bF,f2,bf,rfl⟩:=v3;have:=f2.js;subst this;obtain⟨p,br,et,eY,rfl⟩:=bf.cons_inv;have:=eY.js;subst this;simp only[aY]at et;obtain⟨z,a',rfl⟩:=et;unfold Ml at h;split at h
 case h_3=>exact h.elim
 ·rename_i r bM;obtain⟨nS,fZ,⟨ds,d1,d2⟩,_⟩:=a1.get bM (by intro aF;cases aF)
  rw[a']at fZ;cases fZ;obtain⟨dm,wQ,d3,d4,rfl⟩:=d1.cons_inv;have:=d4.js;subst this;simp only[aY]at d3;obtain⟨y,aI,rfl⟩:=d3;unfold Mm at h;split at h
  case h_2=>exact h.elim
  rename_i a7 es BW;split at h
  case isFalse=>exact h.elim
  rename_i ane;obtain⟨bu,bC,c4⟩:=ane;obtain⟨es',bg,bl,bS,cP,_⟩:=xx a1 BW aI;obtain⟨az,ao⟩:=gS.keys_eq bg;have ak:es'.length=es.length:=by have:=congrArg List.length az;simpa using this
  intro I w vs m hs ah;have q3:=WA hs ah;subst q3;obtain⟨_,_,_,ms,oZ,bd,bx,bT⟩:=m.mp y.b _ cP;have oi:(140737488355328:Nat)≤maxLen:=by decide
  obtain⟨D,de,cy,e5⟩:=aqM L.key bd bx bT (fun e he=>by
   obtain⟨j,aU⟩:=Ow.1 he;have U:(es'.map p_)[j]? =some (p_ e):=by rw[ic,aU];rfl
   rw[ao,ic]at U;cases af:es[j]? with
   |none=>rw[af]at U;cases U
   |some cE=>
    rw[af]at U;have:=bu cE (lM af);simp only[nj,bk]at U;rw[←U];exact this) (by rw[az];exact bC) (by omega)
  have af:=L.has w z.b y.b _ D (WB m (ig d2).1) de (by omega) (by omega)
  have:=ae8 (ks:=es.map kT) a1 m (af.mono (by
   rintro e w' ⟨v,ss,bf,c2,fU⟩;exact⟨v,ss,bf,c2.trans (cy.trans (Ox az)),fU⟩))
  refine this.mono ?_;rintro e w' ⟨v,a,I',bp,bf,c2,fU,rN,aL,td,Be,Bf,Iz⟩;exact⟨v,a,I',bp,bf,c2,fU,rN,_,V,aL,h,td,Be,Bf,Iz⟩
 ·rename_i bM;obtain⟨nS,fZ,⟨ds,d1,d2⟩,_⟩:=a1.get bM (by intro aF;cases aF)
  rw[a']at fZ;cases fZ;obtain⟨dm,wQ,d3,d4,rfl⟩:=d1.cons_inv;have:=d4.js;subst this;simp only[aY]at d3;subst d3;intro I w vs m hs ah;have q3:=WA hs ah;subst q3;have af:=L.no w z.b (WB m (ig d2).1);have:=ae8 (ks:=[]) a1 m af;refine this.mono ?_;rintro e w' ⟨v,a,I',bp,bf,c2,fU,rN,aL,td,Be,Bf,Iz⟩;exact⟨v,a,I',bp,bf,c2,fU,rN,_,V,aL,h,td,Be,Bf,by rw[show([]:List Int).mergeSort leI=[]from by simp]at Iz;exact Iz⟩
end Go.Proofs.eK
end
section
namespace Go.Proofs.eK
open Go Go.bO Go.bO.cK Go.Proofs Go.RowKit
set_option maxRecDepth 100000
theorem Xe {T:bG} [e8 T] {call:dw} {aS:b9} (h:∀V G xs,Entry T aS V G xs→∃r t,call xs V=.jX r V∧aS.outs=[([t],[],[])]∧kB t=false∧bR T.D G t r):kG T call aS:=by
 intro V G xs aC;obtain⟨r,t,U,aa,au,ba⟩:=h V G xs aC;rw[U];refine eS.ato ⟨[r],G,_,rfl,by rw[aa];exact iS.2 rfl,aC.wd,rfl,fun j cn a aU aA=> ?_,?_,fun l ak=>(by cases ak),fun q aB=>(by cases aB),fun i hi=>rfl⟩
 ·cases j with
  |zero=>
   cases aU;cases aA;refine⟨by rw[aeJ au];exact ba,fun cn sz e lo hi he=> ?_⟩
   rw[he]at au;cases au
  |succ j=>cases aU
 ·rw[JC (fun cn aw=>by rw[iS.1 aw];exact au)];exact .nil
theorem ave {lo hi n:Int} (U: -9223372036854775808≤lo) (aa:hi≤9223372036854775807) (au:lo≤n) (ba:n≤hi):(Lit.int .i64 n).wf=true:=by
 show(decide (IntKind.min .i64≤n)&&decide (n≤IntKind.max .i64))=true;rw[show IntKind.min .i64= -9223372036854775808 from by decide,show IntKind.max .i64=9223372036854775807 from by decide,decide_eq_true (by omega),decide_eq_true (by omega)]
 rfl
theorem atG {T:bG} [e8 T] {g bc c:Nat} {nl:Bool} {a7:cL} {t:bb} {lo hi:Int} (aj:T.K bc=.obj [.map c nl]) (af:T.K c=.map a7 t (.int .i64 lo hi)) (U: -9223372036854775808≤lo) (aa:hi≤9223372036854775807) (aV:lo≤hi)
  (au:hi-lo+1≤2199023255552):kG T (Aw g) {br:=[.fn [(g,[],[.ptr bc false])] false],pre:=[],outs:=[([.bN (.int .i64 (-9223372036854775808) 9223372036854775807) 0 2199023255552],[],[])],M:=[],P:=[]}:=by
 refine Xe fun V G xs aC=> ?_;obtain⟨a,rfl⟩:∃a,xs=[a]:=by
  have:=aC.len
  match xs,this with
  | [a],_=>exact⟨a,rfl⟩
 have aA:=(aC.y4 0 _ a rfl rfl).1;have key:∀ks:List Int,(∀x∈ks,lo≤x∧x≤hi)→ks.length≤2199023255552→bR T.D G (.bN (.int .i64 (-9223372036854775808) 9223372036854775807) 0 2199023255552) (Hi ks):=by
  intro ks aq ak;cases ks with
  |nil=>exact .bN _ _ _ _ _ _ (fv _) (fv _) (fun _=>rfl) (fun x ad=>by cases ad)
  |cons x l=>
   refine .bN _ _ _ _ _ _ (fv _) (by rw[ng];exact ak) (fun h=>by cases h) fun v ar=> ?_
   obtain⟨y,aI,rfl⟩:=eO.1 ar;obtain⟨az,ao⟩:=aq y aI;exact .int _ _ _ _ (by omega) (by omega)
 have cY:∀t:bb,(t=.fn [(g,[],[.ptr bc false])] false)→bR T.D G (l0 t) a→∃i,a=.func (.func g) [] [.ptr i 0]∧G i=.cls bc:=by
  rintro _ rfl aF;have aF:bR T.D G (.fn [(g,[],[.ptr bc false])] false) a:=aF;cases aF with
  |fn _ _ f fs cs x y hm ep dV bg bl=>
   have hm:=iS.1 hm;simp only[Prod.mk.injEq]at hm;obtain⟨rfl,rfl,rfl⟩:=hm;have ad:x=[]:=rJ ep.symm;subst ad
   match y,dV with
   | [v],_=>
    have:=bl 0 _ v rfl rfl;cases this with
    |ptr _ _ i h=>exact⟨i,rfl,h⟩
 obtain⟨i,rfl,ei⟩:=cY _ rfl aA;obtain⟨_,g5⟩:=aC.wd.wf i bc ei;rw[aj]at g5;obtain⟨cs,bM,ak,ik⟩:=g5
 match cs,ak with
 | [x],_=>
  have ad:=(ik 0 _ x rfl rfl).1;have ad:bR T.D G (.map c nl) x:=ad;cases ad with
  |map _ _ r ah=>
   obtain⟨_,hm⟩:=aC.wd.wf r c ah;rw[af]at hm;obtain⟨ko,es,BW,⟨_,aQ⟩,hr⟩:=hm;have aq:∀e∈es,∃n,e.1=.int .i64 n∧lo≤n∧n≤hi:=by
    intro e he;have:=(hr e he).2;revert this;generalize e.1=q;intro this;cases this with
    |int _ _ _ n a b=>exact⟨n,rfl,a,b⟩
   have a':∀e∈es,e.1=.int .i64 (kT e)∧lo≤kT e∧kT e≤hi:=by
    intro e he;obtain⟨n,e1,aN,bL⟩:=aq e he;obtain⟨p,q⟩:=e;cases e1;exact⟨rfl,aN,bL⟩
   have cl:=abI (G:=G) aV aQ fun e he=>(hr e he).2;have j3:(es.map kT).Nodup:=by
    refine IB.2 (aQ.imp_of_mem fun {p q} ae aB cm e=> ?_);exact cm .i64 .i64 (kT q) (by rw[(a' p ae).1,e]) (a' q aB).1
   have lT:(∀e∈es,p_ e=true)∧(es.map kT).Nodup∧es.length*8≤140737488355328:=by
    refine⟨fun e he=> ?_,j3,by omega⟩
    obtain⟨e1,aN,bL⟩:=a' e he;obtain⟨p,q⟩:=e;simp only at e1;have hw:=ave U aa aN bL;rw[e1];rw[e1]at hw;exact hw
   refine⟨Hi ((es.map kT).mergeSort leI),_,?_,rfl,rfl,key _ (fun x ad=> ?_) (by rw[List.length_mergeSort,ng];omega)⟩
   ·show(if g=g then Ml V (V.at i)else .fail)=_
    rw[if_pos rfl,bM];show Mm V (V.at r)=_;rw[BW];unfold Mm;simp only;rw[if_pos lT]
   ·have:=(List.mergeSort_perm _ leI).mem_iff.1 ad;obtain⟨e,he,rfl⟩:=eO.1 this;exact(a' e he).2
  |qf _=>
   refine⟨.slice [] true none,_,?_,rfl,rfl,key [] (fun x ad=>by cases ad) (fv _)⟩
   show(if g=g then Ml V (V.at i)else .fail)=_
   rw[if_pos rfl,bM];rfl
end Go.Proofs.eK
end
