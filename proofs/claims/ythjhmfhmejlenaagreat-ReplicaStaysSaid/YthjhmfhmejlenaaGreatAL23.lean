/-
  AN ABSTRACT LOGIC OVER THE MODEL, part 23: the evaluator is sound: calls, operations all together, regions, code, functions.
-/
import Derived.Test.YthjhmfhmejlenaaGreatAL21
set_option linter.unusedSectionVars false
set_option linter.unusedVariables false
set_option linter.unusedSimpArgs false
namespace Go.bO
open Go.RowKit
mutual
theorem Up:∀(a:ab),a.plain=true→a.shut=a
 |.top,h=>by cases h
 |.bool _,_=>rfl
 |.int _ _,_=>rfl
 |.str _,_=>rfl
 |.cX,_=>rfl
 |.ptr _ _,_=>rfl
 |.dK cs,h=>by simp only[ab.shut];rw[As cs (by simpa[ab.plain]using h)]
 |.slice xs nl none,h=>by simp only[ab.shut];rw[As xs (by simpa[ab.plain]using h)]
 |.slice xs nl (some g),h=>by simp[ab.plain]at h
 |.raw _ _,h=>by cases h
 |.ref _ _ _ _,_=>rfl
 |.agg cs,h=>by simp only[ab.shut];rw[As cs (by simpa[ab.plain]using h)]
 |.tuple cs,h=>by simp only[ab.shut];rw[As cs (by simpa[ab.plain]using h)]
 |.iface t v,h=>by simp only[ab.shut];rw[Up v (by simpa[ab.plain]using h)]
 |.dC,_=>rfl
 |.func fn f c,h=>by
  simp only[ab.plain,dF]at h;simp only[ab.shut];rw[As f h.1,As c h.2]
 |.fj,_=>rfl
 |.map _,_=>rfl
theorem As:∀(l:List ab),gV l=true→hI l=l
 | [],_=>rfl
 |x::l,h=>by
  simp only[gV,dF]at h;simp only[hI];rw[Up x h.1,As l h.2]
end
mutual
theorem aY.shut {R:cV}:∀(v:ab) {y:ab},aY R v y→aY R v.shut y.shut
 |.top,y,h=>by rw[aY]at h;subst h;simp only[ab.shut,aY]
 |.bool _,y,h=>by rw[aY]at h;subst h;simp only[ab.shut,aY]
 |.int _ _,y,h=>by rw[aY]at h;subst h;simp only[ab.shut,aY]
 |.str _,y,h=>by rw[aY]at h;subst h;simp only[ab.shut,aY]
 |.cX,y,h=>by rw[aY]at h;subst h;simp only[ab.shut,aY]
 |.ptr i o,y,h=>by have b0:=h;rw[aY]at h;obtain⟨x,U,rfl⟩:=h;exact b0
 |.dK cs,y,h=>by rw[aY]at h;obtain⟨ds,U,rfl⟩:=h;simp only[ab.shut,aY];exact⟨_,bW.shut cs U,rfl⟩
 |.slice xs nl tok,y,h=>by obtain⟨ds,t,U,rfl,_⟩:=h.jb;simp only[ab.shut,aY];exact⟨_,bW.shut xs U,rfl⟩
 |.raw i n,y,h=>by have b0:=h;rw[aY]at h;obtain⟨x,U,aa⟩:=h;rw[Up y aa.1];exact b0
 |.ref i o n c,y,h=>by have b0:=h;rw[aY]at h;obtain⟨x,U,rfl⟩:=h;exact b0
 |.agg cs,y,h=>by rw[aY]at h;obtain⟨ds,U,rfl⟩:=h;simp only[ab.shut,aY];exact⟨_,bW.shut cs U,rfl⟩
 |.tuple cs,y,h=>by rw[aY]at h;obtain⟨ds,U,rfl⟩:=h;simp only[ab.shut,aY];exact⟨_,bW.shut cs U,rfl⟩
 |.iface t v,y,h=>by rw[aY]at h;obtain⟨w,U,rfl⟩:=h;simp only[ab.shut,aY];exact⟨_,aY.shut v U,rfl⟩
 |.dC,y,h=>by rw[aY]at h;subst h;simp only[ab.shut,aY]
 |.func fn f c,y,h=>by rw[aY]at h;obtain⟨n_,bF,U,aa,rfl⟩:=h;simp only[ab.shut,aY];exact⟨_,_,bW.shut f U,bW.shut c aa,rfl⟩
 |.fj,y,h=>by rw[aY]at h;subst h;simp only[ab.shut,aY]
 |.map none,y,h=>by rw[aY]at h;subst h;simp only[ab.shut,aY]
 |.map (some i),y,h=>by have b0:=h;rw[aY]at h;obtain⟨x,U,rfl⟩:=h;exact b0
theorem bW.shut {R:cV}:∀(vs:List ab) {ys:List ab},bW R vs ys→bW R (hI vs) (hI ys)
 | [],ys,h=>by rw[h.js];simp only[hI];exact .nil
 |x::xs,ys,h=>by obtain⟨y,fm,U,aa,rfl⟩:=h.cons_inv;simp only[hI];exact .cons (aY.shut x U) (bW.shut xs aa)
end
def bj.all:bj→(dT→aP→aO→Prop)→Prop
 |.done x env V,bU=>bU x env V
 |.bad,_=>False
 |.alt a b,bU=>a.all bU∧b.all bU
def eS.all:eS→(ab→aO→Prop)→Prop
 |.jX a V,bU=>bU a V
 |.fail,_=>False
 |.alt a b,bU=>a.all bU∧b.all bU
theorem Fl (bU:dT→aP→aO→Prop):Good (fun r=>r.all bU):=⟨fun h=>h,fun h=>h⟩
theorem bj.s0 {bU oK:dT→aP→aO→Prop} (hm:∀x env V,bU x env V→oK x env V):∀{r:bj},r.all bU→r.all oK
 |.done _ _ _,h=>hm _ _ _ h
 |.bad,h=>h
 |.alt _ _,h=>⟨bj.s0 hm h.1,bj.s0 hm h.2⟩
theorem eS.s0 {bU oK:ab→aO→Prop} (hm:∀a V,bU a V→oK a V):∀{r:eS},r.all bU→r.all oK
 |.jX _ _,h=>hm _ _ h
 |.fail,h=>h
 |.alt _ _,h=>⟨eS.s0 hm h.1,eS.s0 hm h.2⟩
def hz (P:Program) (f:Nat) (c:dw):Prop:=∀as V bU,(c as V).all bU→
 (∃fn,P.funcs[f]? =some fn∧(fn.body.isSome&&fn.name != "runtime.NumGoroutine")=true)∧
 ∀bo R ag bs,cT bo R V ag→bW R as bs→hL P f bs ag fun b bp=>∃a V' aL,bU a V'∧R.dY aL∧jR V V'∧cT bo aL V' bp∧aY aL a b
theorem hz.jX {P:Program} {f:Nat} {c:dw} (af:hz P f c) {as:List ab} {V:aO} {a:ab} {V':aO} (h:c as V=.jX a V'):
  (∃fn,P.funcs[f]? =some fn∧(fn.body.isSome&&fn.name != "runtime.NumGoroutine")=true)∧
  ∀bo R ag bs,cT bo R V ag→bW R as bs→hL P f bs ag fun b bp=>∃aL,R.dY aL∧jR V V'∧cT bo aL V' bp∧aY aL a b:=by
 obtain⟨U,aa⟩:=af as V (fun b W=>b=a∧W=V') (by rw[h];exact⟨rfl,rfl⟩)
 refine⟨U,fun bo R ag bs a1 ar=>(aa bo R ag bs a1 ar).mono ?_⟩;rintro b bp ⟨_,_,aL,⟨rfl,rfl⟩,aF⟩;exact⟨aL,aF⟩
section
variable {P:Program} {bo:a8} {R:cV} {V:aO} {ag:a8} {env:aP} {aR:bt} {k:bI} {bA:bj→Prop} {K:bt→a8→Prop} {d:Option Nat} {call:Nat→dw}
noncomputable def a8.Es (ag:a8) (R:cV) (V:aO):a8:=
 open Classical in
 ⟨fun b=>if∃i y,V.at i≠.dead∧R i=some y∧y.b=b then none else ag.obj b,
  fun b=>if∃i y,V.at i≠.dead∧R i=some y∧y.b=b then none else ag.cF b,
  fun b=>if∃i y,V.at i≠.dead∧R i=some y∧y.b=b then none else ag.mp b⟩
theorem asC {c:dw} {f:Nat} (af:hz P f c) (a1:cT bo R V ag) {as bs:List ab} (ar:bW R as bs) {a:ab} {V':aO} (h:c as V.guard=.jX a V') (ae:a.shut.plain=true):
  hL P f bs ag fun b bp=>b=a.shut∧bp=ag:=by
 have pX:cT (ag.Es R V) R V.guard ag:=by
  refine⟨b1 _,a1.wP,fun i hi=> ?_,a1.inj,?_⟩
  ·obtain⟨x,U,aa,_⟩:=a1.obj i hi;have Qf:∃i y,V.at i≠.dead∧R i=some y∧y.b=x.b:=⟨i,x,hi,U,rfl⟩;exact⟨x,U,aa,if_pos Qf,if_pos Qf,if_pos Qf⟩
  ·refine⟨fun b q e=> ?_,fun b q e=> ?_,fun b q e=> ?_⟩<;>
   ·simp only[a8.Es]at e;split at e
    ·cases e
    ·exact e
 refine((af.jX h).2 _ R ag bs pX ar).agZ ?_;rintro b bp ⟨aL,bz,av,JE,uX⟩;refine⟨a.shut,ag,?_,?_,rfl,rfl⟩
 ·have hs:=aY.shut a uX;rw[←aY.aen hs ae];exact ab.ly b
 ·have key:∀x:Nat,(∃i y,V.at i≠.dead∧R i=some y∧y.b=x)→bp.fL x=ag.fL x:=by
   rintro x ⟨i,y,hi,aI,rfl⟩;obtain⟨z,bZ,cB,_⟩:=a1.obj i hi;rw[aI]at bZ;cases bZ;have bw:i<V.n:=a1.wP i y aI;have bM:V'.at i=V.at i:=av.iJ i bw;obtain⟨w,hc,fJ,_⟩:=JE.obj i (by rw[bM];exact hi)
   rw[bz i y aI]at hc;cases hc;rw[bM]at fJ;exact cB.same bz fJ hi
  refine⟨fun x q e=> ?_,fun x q e=> ?_,fun x q e=> ?_⟩
  ·by_cases ad:∃i y,V.at i≠.dead∧R i=some y∧y.b=x
   ·rw[(ig (key x ad)).1];exact e
   ·exact JE.sub.obj x q (by simp only[a8.Es];rw[if_neg ad];exact e)
  ·by_cases ad:∃i y,V.at i≠.dead∧R i=some y∧y.b=x
   ·rw[(ig (key x ad)).2.1];exact e
   ·exact JE.sub.cF x q (by simp only[a8.Es];rw[if_neg ad];exact e)
  ·by_cases ad:∃i y,V.at i≠.dead∧R i=some y∧y.b=x
   ·rw[(ig (key x ad)).2.2];exact e
   ·exact JE.sub.mp x q (by simp only[a8.Es];rw[if_neg ad];exact e)
theorem TX:∀{x:eS},bA (x0 d k env x)→Good bA→x.all fun a V'=>bA (k (dc d (.val a) env) V')
 |.jX _ _,h,_=>h
 |.fail,h,ah=>ah.bad h
 |.alt _ _,h,ah=>⟨TX (ah.alt h).1 ah,TX (ah.alt h).2 ah⟩
theorem NU {c:dw} {f:Nat} (af:hz P f c) (aq:e7 bo R V k bA K) (ah:Good bA) (a1:cT bo R V ag) (aC:cq R env aR) {as bs:List ab} (ar:bW R as bs) (h:bA (x0 d k env (c as V))):
  (∃fn,P.funcs[f]? =some fn∧(fn.body.isSome&&fn.name != "runtime.NumGoroutine")=true)∧hL P f bs ag fun a bp=>K (aR.set d (.val a)) bp:=by
 obtain⟨bf,c2⟩:=af as V _ (TX h ah);refine⟨bf,(c2 bo R ag bs a1 ar).mono ?_⟩;rintro b bp ⟨a,V',aL,aa,bz,av,pX,uX⟩;exact aq.n' aC bz av pX (.dx uX) aa
theorem aj0 (af:∀f,hz P f (call f)) (aq:e7 bo R V k bA K) (ah:Good bA) (a1:cT bo R V ag) (aC:cq R env aR) {f:Nat} {as:List aG} (ae:∀x∈as,x.plain=true) (h:bA (adi call f as d k env V)):bH P (.call f as) d K aR ag:=by
 obtain⟨vs,U,aa⟩:=oB h ah;obtain⟨bs,az,ao⟩:=uN aC U ae;simp only[bH,az];exact(NU (af f) aq ah a1 aC ao aa).2
theorem aj3 (af:∀f,hz P f (call f)) (aq:e7 bo R V k bA K) (ah:Good bA) (a1:cT bo R V ag) (aC:cq R env aR) {f:aG} {as:List aG} (ax:f.plain=true) (ae:∀x∈as,x.plain=true) (h:bA (adj call f as d k env V)):bH P (.callv f as) d K aR ag:=by
 obtain⟨vs,U,aa⟩:=oB h ah;obtain⟨bs,az,ao⟩:=uN aC U ae;have ad:=dA aC ax;unfold NX at aa;split at aa
 ·rename_i g fs cs bQ;rw[bQ]at ad;obtain⟨w,bd,bx⟩:=ad.cJ;simp only[aY]at bd;obtain⟨fs',cU,f1,f2,rfl⟩:=bd;simp only[bH,az,bx];exact NU (af g) aq ah a1 aC ((f1.append ao).append f2) aa
 ·exact absurd aa ah.bad
theorem aoX (af:∀f,hz P f (call f)) (aq:e7 bo R V k bA K) (ah:Good bA) (a1:cT bo R V ag) (aC:cq R env aR) {eg:List (Nat × Nat)} {x:aG} {as:List aG} (ax:x.plain=true) (ae:∀x∈as,x.plain=true) (h:bA (adn call eg x as d k env V)):bH P (.inv eg x as) d K aR ag:=by
 obtain⟨vs,U,aa⟩:=oB h ah;obtain⟨bs,az,ao⟩:=uN aC U ae;have ad:=dA aC ax;unfold RD at aa;split at aa
 ·rename_i t v bQ;rw[bQ]at ad;obtain⟨w,bd,bx⟩:=ad.cJ;simp only[aY]at bd;obtain⟨jx,f1,rfl⟩:=bd;unfold RC at aa;split at aa
  ·rename_i g av;rw[HE]at av;simp only[bH,az,bx];exact⟨g,av,(NU (af g) aq ah a1 aC (.cons f1 ao) aa).2⟩
  ·exact absurd aa ah.bad
 ·exact absurd aa ah.bad
theorem TO {c:dw} {f:Nat} (af:hz P f c) (aq:e7 bo R V k bA K) (ah:Good bA) (a1:cT bo R V ag) (aC:cq R env aR) {as bs:List ab} (ar:bW R as bs) (h:bA (LM d k env V (c as V.guard))):
  (∃fn,P.funcs[f]? =some fn∧(fn.body.isSome&&fn.name != "runtime.NumGoroutine")=true)∧∃x,hL P f bs ag (fun a bp=>a=x∧bp=ag)∧K (aR.set d (.val x)) ag:=by
 cases ad:c as V.guard with
 |fail=>rw[ad]at h;exact absurd h ah.bad
 |alt a b=>rw[ad]at h;exact absurd h ah.bad
 |jX a V'=>
  rw[ad]at h;obtain⟨ae,h⟩:=gO h ah;exact⟨(af.jX ad).1,a.shut,asC af a1 ar ad ae,aq.fin a1 aC (.plain ae) h⟩
theorem ajY (af:∀f,hz P f (call f)) (aq:e7 bo R V k bA K) (ah:Good bA) (a1:cT bo R V ag) (aC:cq R env aR) {W:List Nat} {f:Nat} {as:List aG} (ae:∀x∈as,x.plain=true) (h:bA (WL call f as d k env V)):f_ P W (.call f as) d K aR ag:=by
 obtain⟨vs,U,aa⟩:=oB h ah;obtain⟨bs,az,ao⟩:=uN aC U ae;simp only[f_,az];exact(TO (af f) aq ah a1 aC ao aa).2
theorem aj2 (af:∀f,hz P f (call f)) (aq:e7 bo R V k bA K) (ah:Good bA) (a1:cT bo R V ag) (aC:cq R env aR) {W:List Nat} {f:aG} {as:List aG} (ax:f.plain=true) (ae:∀x∈as,x.plain=true) (h:bA (WQ call f as d k env V)):f_ P W (.callv f as) d K aR ag:=by
 obtain⟨vs,U,aa⟩:=oB h ah;obtain⟨bs,az,ao⟩:=uN aC U ae;have ad:=dA aC ax;unfold NW at aa;split at aa
 ·rename_i g fs cs bQ;rw[bQ]at ad;obtain⟨w,bd,bx⟩:=ad.cJ;simp only[aY]at bd;obtain⟨fs',cU,f1,f2,rfl⟩:=bd;simp only[f_,az,bx];exact TO (af g) aq ah a1 aC ((f1.append ao).append f2) aa
 ·exact absurd aa ah.bad
theorem aoW (af:∀f,hz P f (call f)) (aq:e7 bo R V k bA K) (ah:Good bA) (a1:cT bo R V ag) (aC:cq R env aR) {W:List Nat} {eg:List (Nat × Nat)} {x:aG} {as:List aG} (ax:x.plain=true) (ae:∀x∈as,x.plain=true) (h:bA (ZW call eg x as d k env V)):f_ P W (.inv eg x as) d K aR ag:=by
 obtain⟨vs,U,aa⟩:=oB h ah;obtain⟨bs,az,ao⟩:=uN aC U ae;have ad:=dA aC ax;unfold RB at aa;split at aa
 ·rename_i t v bQ;rw[bQ]at ad;obtain⟨w,bd,bx⟩:=ad.cJ;simp only[aY]at bd;obtain⟨jx,f1,rfl⟩:=bd;unfold RA at aa;split at aa
  ·rename_i g av;rw[HE]at av;simp only[f_,az,bx];exact⟨g,av,(TO (af g) aq ah a1 aC (.cons f1 ao) aa).2⟩
  ·exact absurd aa ah.bad
 ·exact absurd aa ah.bad
theorem asL (aq:e7 bo R V k bA K) (ah:Good bA) (a1:cT bo R V ag) (aC:cq R env aR) {x:aG} (ae:x.plain=true) (h:bA (CW x d k env V)):bH P (.range x) d K aR ag:=by
 have ad:=dA aC ae;unfold CW LP at h;split at h
 ·rename_i lE bQ;rw[bQ]at ad;obtain⟨w,bd,bx⟩:=ad.cJ;simp only[aY]at bd;obtain⟨y,aI,rfl⟩:=bd;unfold TP at h;split at h
  ·rename_i ko es bM;obtain⟨av,h⟩:=gO h ah;obtain⟨es',bg,bl,bS,cP,eC,iM⟩:=xx a1 bM aI;simp only[bH,bx];refine⟨es',cP,fun b aj=> ?_⟩;have cm:b≠y.b:=by rintro rfl;rw[aj.2.2]at cP;cases cP
   obtain⟨cc,b4⟩:=a1.put (bp:=ag.c5 y.b .eL) aI (tJ bM (by intro aF;cases aF)) (s_ av) (nX ag y.b _) (o:=.eL) (by show a8.fL _ _=_;rw[uB,bl,bS])
   have ax:(ag.c5 y.b .eL).fresh b:=by
    rw[Fh,nX ag y.b _ b cm,←Fh];exact aj
   have bz:=KD cc ⟨b,0,[]⟩;obtain⟨U,aa,au⟩:=Lb cc (bp:=(ag.c5 y.b .eL).c5 b (.iter (some y.b) es' es' none)) ax (x:=⟨b,0,[]⟩) rfl (o:=.iter lE ko es es none) (nX _ b _)
    ⟨y,es',es',none,bz _ _ aI,bg.mono bz,bg.mono bz,rfl,by rw[uB,ax.1,ax.2.1],eC,iM⟩
   exact aq.n' aC aa (b4.trans au) U (.dx (by simp only[aY];exact⟨_,cV.add_get ..,rfl⟩)) h
  ·exact absurd h ah.bad
 ·rename_i bQ;rw[bQ]at ad;obtain⟨w,bd,bx⟩:=ad.cJ;simp only[aY]at bd;subst bd;simp only[bH,bx];intro b aj;obtain⟨U,aa,au⟩:=Lb a1 (bp:=ag.c5 b (.iter none [] [] none)) aj (x:=⟨b,0,[]⟩) rfl (o:=.q5) (nX _ b _) (by show a8.fL _ _=_;rw[uB,aj.1,aj.2.1])
  exact aq.n' aC aa au U (.dx (by simp only[aY];exact⟨_,cV.add_get ..,rfl⟩)) h
 ·exact absurd h ah.bad
theorem RK (a1:cT bo R V ag) {i m:Nat} {ko:Option cL} {es left:List (ab × ab)} {cur:Option (ab × ab)} (bM:V.at i=.iter m ko es left cur) {z:nT} (a':R i=some z):
  ∃y es' iK jV,R m=some y∧gS R es es'∧gS R left iK∧wb R cur jV∧ag.obj z.b=none∧ag.cF z.b=none∧ag.mp z.b=some (.iter (some y.b) es' iK jV)∧(∀a7,ko=some a7→∀e∈es,a7.is e.1=true)∧(ko=none→es=[]):=by
 obtain⟨nS,fZ,⟨y,es',iK,jV,bd,bx,bT,dp,g9,vr,Sl⟩,_⟩:=a1.get bM (by intro aF;cases aF)
 rw[a']at fZ;cases fZ;obtain⟨de,cy,e5⟩:=ig g9;exact⟨y,es',iK,jV,bd,bx,bT,dp,de,cy,e5,vr,Sl⟩
theorem aY.pair {a b c ea:ab} (aA:a.plain=true) (af:c.plain=true) (aj:aY R b ea):aY R (.tuple [c,a,b]) (.tuple [c,a,ea]):=by
 simp only[aY];exact⟨_,.cons (aY.g_ c af) (.cons (aY.g_ a aA) (.cons aj .nil)),rfl⟩
theorem ak2 (aq:e7 bo R V k bA K) (ah:Good bA) (a1:cT bo R V ag) (aC:cq R env aR) {x:aG} (ae:x.plain=true) (h:bA (Ln x d k env V)):bH P (.entry x) d K aR ag:=by
 have ad:=dA aC ae;unfold Ln O5 at h;split at h
 ·rename_i i bQ;rw[bQ]at ad;obtain⟨w,bd,bx⟩:=ad.cJ;simp only[aY]at bd;obtain⟨z,a',rfl⟩:=bd;unfold O6 at h;split at h
  ·rename_i m ko es left e bM;obtain⟨hG,h⟩:=gO h ah;obtain⟨y,es',iK,jV,bg,bl,bS,cP,de,cy,e5,_⟩:=RK a1 bM a';obtain⟨v,v1,rfl⟩:=cP;simp only[bH,bx];refine⟨y.b,es',iK,(e.1,v),e5,aq.fin a1 aC (.dx ?_) h⟩;simp only[aY];exact⟨_,.cons (aY.g_ _ hG) (.cons v1 .nil),rfl⟩
  ·exact absurd h ah.bad
 ·exact absurd h ah.bad
def a2.avx:a2→Bool
 |.box cs|.obj cs=>gV cs
 |.build z _=>gV z
 |.bslice _ _ _ _ z _=>z.plain
 |.mslice _ _ _ z _=>z.plain
 |.mget _ z _ _ _=>z.plain
 |.clearS _ z _=>z.plain
 |_=>true
def a2.ha (o:a2):Bool:=o.bq.all aG.plain&&o.avx
theorem adm (af:∀f,hz P f (call f)) (aq:e7 bo R V k bA K) (ah:Good bA) (a1:cT bo R V ag) (aC:cq R env aR) {o:a2} (ae:o.ha=true) (h:bA (vz call o d k env V)):bH P o d K aR ag:=by
 simp only[a2.ha,dF]at ae;have a':=ae.2;have q:∀x∈o.bq,x.plain=true:=dI.1 ae.1;cases o with
 |mv x=>exact(er aq ah a1 aC (fun e he=>fN rfl (fun _ _ _ _=>rfl) (ad3 aC (q x (by simp[a2.bq])) he)) h []).1
 |nilCheck x=>exact(er aq ah a1 aC (fun e he=>fN rfl (fun _ _ _ _=>rfl) (ad5 aC (q x (by simp[a2.bq])) he)) h []).1
 |bin op eq x y=>exact(er aq ah a1 aC (fun e he=>fN rfl (fun _ _ _ _=>rfl) (adJ aC (q x (by simp[a2.bq])) (q y (by simp[a2.bq])) he)) h []).1
 |not x=>exact(er aq ah a1 aC (fun e he=>fN rfl (fun _ _ _ _=>rfl) (ad6 aC (q x (by simp[a2.bq])) he)) h []).1
 |rR q6 x=>exact(er aq ah a1 aC (fun e he=>fN rfl (fun _ _ _ _=>rfl) (adL aC (q x (by simp[a2.bq])) he)) h []).1
 |same x=>exact(er aq ah a1 aC (fun e he=>fN rfl (fun _ _ _ _=>rfl) (ad8 aC (q x (by simp[a2.bq])) he)) h []).1
 |iface t x=>exact(er aq ah a1 aC (fun e he=>fN rfl (fun _ _ _ _=>rfl) (adV aC (q x (by simp[a2.bq])) he)) h []).1
 |tN fn f c=>exact(er aq ah a1 aC (fun e he=>fN rfl (fun _ _ _ _=>rfl) (ad2 aC (fun x ad=>q x (by simp[a2.bq,ad])) (fun x ad=>q x (by simp[a2.bq,ad])) he)) h []).1
 |foff off x=>exact(er aq ah a1 aC (fun e he=>fN rfl (fun _ _ _ _=>rfl) (adR aC (q x (by simp[a2.bq])) he)) h []).1
 |aidx n sz x i=>exact(er aq ah a1 aC (fun e he=>fN rfl (fun _ _ _ _=>rfl) (adH aC (q x (by simp[a2.bq])) (q i (by simp[a2.bq])) he)) h []).1
 |arr n x=>exact(er aq ah a1 aC (fun e he=>fN rfl (fun _ _ _ _=>rfl) (adI aC (q x (by simp[a2.bq])) he)) h []).1
 |neg x=>exact(er aq ah a1 aC (fun e he=>fN rfl (fun _ _ _ _=>rfl) (ad4 aC (q x (by simp[a2.bq])) he)) h []).1
 |wm m n agg x i=>exact(er aq ah a1 aC (fun e he=>fN rfl (fun _ _ _ _=>rfl) (adG aC (q x (by simp[a2.bq])) (q i (by simp[a2.bq])) he)) h []).1
 |ua t x=>exact(er aq ah a1 aC (fun e he=>fN rfl (fun _ _ _ _=>rfl) (ad_ aC (q x (by simp[a2.bq])) he)) h []).1
 |extract x i=>exact(er aq ah a1 aC (fun e he=>fN rfl (fun _ _ _ _=>rfl) (adP aC (q x (by simp[a2.bq])) he)) h []).1
 |field off n agg x=>exact(er aq ah a1 aC (fun e he=>fN rfl (fun _ _ _ _=>rfl) (adQ aC (q x (by simp[a2.bq])) he)) h []).1
 |build fm br=>exact(er aq ah a1 aC (fun e he=>fN rfl (fun _ _ _ _=>rfl) (WD aC a' (fun p ae=>q p.2.2 (eO.2 ⟨p,ae,rfl⟩)) he)) h []).1
 |len x=>exact(er aq ah a1 aC (fun e he=>fN rfl (fun _ _ _ _=>rfl) (adY aC (q x (by simp[a2.bq])) he)) h []).1
 |tI x=>exact(er aq ah a1 aC (fun e he=>fN rfl (fun _ _ _ _=>rfl) (adX aC (q x (by simp[a2.bq])) he)) h []).1
 |min x y=>exact(er aq ah a1 aC (fun e he=>fN rfl (fun _ _ _ _=>rfl) (ad1 aC (q x (by simp[a2.bq])) (q y (by simp[a2.bq])) he)) h []).1
 |max x y=>exact(er aq ah a1 aC (fun e he=>fN rfl (fun _ _ _ _=>rfl) (ad0 aC (q x (by simp[a2.bq])) (q y (by simp[a2.bq])) he)) h []).1
 |tM x y z=>exact(er aq ah a1 aC (fun e he=>fN rfl (fun _ _ _ _=>rfl) (adZ aC (q x (by simp[a2.bq])) (q y (by simp[a2.bq])) (q z (by simp[a2.bq])) he)) h []).1
 |pick c a b=>exact(er aq ah a1 aC (fun e he=>ad7 aC (q c (by simp[a2.bq])) (q a (by simp[a2.bq])) (q b (by simp[a2.bq])) he) h []).1
 |bytesStr x=>exact(er aq ah a1 aC (fun e he=>adK aC (q x (by simp[a2.bq])) he) h []).1
 |strBytes t x=>exact(er aq ah a1 aC (fun e he=>ad9 aC (q x (by simp[a2.bq])) he) h []).1
 |cut sz x lo hi=>exact(er aq ah a1 aC (fun e he=>adO aC (q x (by simp[a2.bq])) (fun y aI=>q y (by simp[a2.bq,aI])) (fun y aI=>q y (by simp[a2.bq,aI])) he) h []).1
 |cut3 sz x lo hi mx=>exact(er aq ah a1 aC (fun e he=>adM aC (q x (by simp[a2.bq])) (fun y aI=>q y (by simp[a2.bq,aI])) (q hi (by simp[a2.bq])) (q mx (by simp[a2.bq])) he) h []).1
 |cutStr x lo hi=>exact(er aq ah a1 aC (fun e he=>adN aC (q x (by simp[a2.bq])) (fun y aI=>q y (by simp[a2.bq,aI])) (fun y aI=>q y (by simp[a2.bq,aI])) he) h []).1
 |iaddr sz x i=>exact(er aq ah a1 aC (fun e he=>adU aC (q x (by simp[a2.bq])) (q i (by simp[a2.bq])) he) h []).1
 |istr x i=>exact(er aq ah a1 aC (fun e he=>adW aC (q x (by simp[a2.bq])) (q i (by simp[a2.bq])) he) h []).1
 |box cs=>exact ajL aq ah a1 aC a' h
 |boxv x=>exact ajM aq ah a1 aC (q x (by simp[a2.bq])) h
 |obj cs=>exact arz aq a1 aC a' h
 |objv x=>exact arA aq ah a1 aC (q x (by simp[a2.bq])) h
 |bslice own sz t n z br=>exact ajO aq ah a1 aC a' (fun p ae=>q p.2 (eO.2 ⟨p,ae,rfl⟩)) h
 |load agg n x=>exact aqD aq ah a1 aC (q x (by simp[a2.bq])) h
 |store n x v=>exact aus aq ah a1 aC (q x (by simp[a2.bq])) (q v (by simp[a2.bq])) h
 |mark x=>exact aqN aq ah a1 aC (q x (by simp[a2.bq])) h
 |call f as=>exact aj0 af aq ah a1 aC (fun x ad=>q x (by simp[a2.bq,ad])) h
 |callv f as=>exact aj3 af aq ah a1 aC (q f (by simp[a2.bq])) (fun x ad=>q x (by simp[a2.bq,ad])) h
 |inv eg x as=>exact aoX af aq ah a1 aC (q x (by simp[a2.bq])) (fun x ad=>q x (by simp[a2.bq,ad])) h
 |append sz t lO x y=>exact ajc aq ah a1 aC (q x (by simp[a2.bq])) (q y (by simp[a2.bq])) h
 |appendZ sz t lO x y=>exact absurd (show bA .bad from h) ah.bad
 |appendM sz t lO x y=>exact ai' aq ah a1 aC (q x (by simp[a2.bq])) (q y (by simp[a2.bq])) h
 |mslice sz t n z br=>exact ara aq ah a1 aC a' (fun p ae=>q p.2 (eO.2 ⟨p,ae,rfl⟩)) h
 |cap x=>
  obtain⟨e,U,aa⟩:=oB (show bA (dN (Tt x) d k env V)from h) ah
  have ad:=dA aC (q x (by simp[a2.bq]))
  unfold Tt WR at U;split at U
  ·rename_i bQ;cases U;rw[bQ]at ad;obtain⟨b,au,ba⟩:=ad.cJ;have au:=au.Av;subst au;simp only[bH,ba];intro c _ _ aV;rw[aV trivial];exact aq.fin a1 aC (.plain rfl) aa
  ·cases U
 |mmap=>exact aq2 aq a1 aC h
 |mget a7 z ok x i=>exact acB aq ah a1 aC a' (q x (by simp[a2.bq])) (q i (by simp[a2.bq])) h
 |mset a7 x i v=>exact aq9 aq ah a1 aC (q x (by simp[a2.bq])) (q i (by simp[a2.bq])) (q v (by simp[a2.bq])) h
 |mdel a7 x i=>exact aqS aq ah a1 aC (q x (by simp[a2.bq])) (q i (by simp[a2.bq])) h
 |mlen x=>exact acE aq ah a1 aC (q x (by simp[a2.bq])) h
 |range x=>exact asL aq ah a1 aC (q x (by simp[a2.bq])) h
 |next x=>exact absurd (show bA .bad from h) ah.bad
 |entry x=>exact ak2 aq ah a1 aC (q x (by simp[a2.bq])) h
 |clearS sz z x=>exact akm aq ah a1 aC a' (q x (by simp[a2.bq])) h
 |clearM x=>exact akk aq ah a1 aC (q x (by simp[a2.bq])) h
 |dead=>exact absurd (show bA .bad from h) ah.bad
theorem adl (af:∀f,hz P f (call f)) (aq:e7 bo R V k bA K) (ah:Good bA) (a1:cT bo R V ag) (aC:cq R env aR) {W:List Nat} {o:a2} (ae:o.ha=true) (h:bA (sE call W o d k env V)):f_ P W o d K aR ag:=by
 simp only[a2.ha,dF]at ae;have a':=ae.2;have q:∀x∈o.bq,x.plain=true:=dI.1 ae.1;cases o with
 |mv x=>exact(er aq ah a1 aC (fun e he=>fN rfl (fun _ _ _ _=>rfl) (ad3 aC (q x (by simp[a2.bq])) he)) h W).2
 |nilCheck x=>exact(er aq ah a1 aC (fun e he=>fN rfl (fun _ _ _ _=>rfl) (ad5 aC (q x (by simp[a2.bq])) he)) h W).2
 |bin op eq x y=>exact(er aq ah a1 aC (fun e he=>fN rfl (fun _ _ _ _=>rfl) (adJ aC (q x (by simp[a2.bq])) (q y (by simp[a2.bq])) he)) h W).2
 |not x=>exact(er aq ah a1 aC (fun e he=>fN rfl (fun _ _ _ _=>rfl) (ad6 aC (q x (by simp[a2.bq])) he)) h W).2
 |rR q6 x=>exact(er aq ah a1 aC (fun e he=>fN rfl (fun _ _ _ _=>rfl) (adL aC (q x (by simp[a2.bq])) he)) h W).2
 |same x=>exact(er aq ah a1 aC (fun e he=>fN rfl (fun _ _ _ _=>rfl) (ad8 aC (q x (by simp[a2.bq])) he)) h W).2
 |iface t x=>exact(er aq ah a1 aC (fun e he=>fN rfl (fun _ _ _ _=>rfl) (adV aC (q x (by simp[a2.bq])) he)) h W).2
 |tN fn f c=>exact(er aq ah a1 aC (fun e he=>fN rfl (fun _ _ _ _=>rfl) (ad2 aC (fun x ad=>q x (by simp[a2.bq,ad])) (fun x ad=>q x (by simp[a2.bq,ad])) he)) h W).2
 |foff off x=>exact(er aq ah a1 aC (fun e he=>fN rfl (fun _ _ _ _=>rfl) (adR aC (q x (by simp[a2.bq])) he)) h W).2
 |aidx n sz x i=>exact(er aq ah a1 aC (fun e he=>fN rfl (fun _ _ _ _=>rfl) (adH aC (q x (by simp[a2.bq])) (q i (by simp[a2.bq])) he)) h W).2
 |arr n x=>exact(er aq ah a1 aC (fun e he=>fN rfl (fun _ _ _ _=>rfl) (adI aC (q x (by simp[a2.bq])) he)) h W).2
 |neg x=>exact(er aq ah a1 aC (fun e he=>fN rfl (fun _ _ _ _=>rfl) (ad4 aC (q x (by simp[a2.bq])) he)) h W).2
 |wm m n agg x i=>exact(er aq ah a1 aC (fun e he=>fN rfl (fun _ _ _ _=>rfl) (adG aC (q x (by simp[a2.bq])) (q i (by simp[a2.bq])) he)) h W).2
 |ua t x=>exact(er aq ah a1 aC (fun e he=>fN rfl (fun _ _ _ _=>rfl) (ad_ aC (q x (by simp[a2.bq])) he)) h W).2
 |extract x i=>exact(er aq ah a1 aC (fun e he=>fN rfl (fun _ _ _ _=>rfl) (adP aC (q x (by simp[a2.bq])) he)) h W).2
 |field off n agg x=>exact(er aq ah a1 aC (fun e he=>fN rfl (fun _ _ _ _=>rfl) (adQ aC (q x (by simp[a2.bq])) he)) h W).2
 |build fm br=>exact(er aq ah a1 aC (fun e he=>fN rfl (fun _ _ _ _=>rfl) (WD aC a' (fun p ae=>q p.2.2 (eO.2 ⟨p,ae,rfl⟩)) he)) h W).2
 |len x=>exact(er aq ah a1 aC (fun e he=>fN rfl (fun _ _ _ _=>rfl) (adY aC (q x (by simp[a2.bq])) he)) h W).2
 |tI x=>exact(er aq ah a1 aC (fun e he=>fN rfl (fun _ _ _ _=>rfl) (adX aC (q x (by simp[a2.bq])) he)) h W).2
 |min x y=>exact(er aq ah a1 aC (fun e he=>fN rfl (fun _ _ _ _=>rfl) (ad1 aC (q x (by simp[a2.bq])) (q y (by simp[a2.bq])) he)) h W).2
 |max x y=>exact(er aq ah a1 aC (fun e he=>fN rfl (fun _ _ _ _=>rfl) (ad0 aC (q x (by simp[a2.bq])) (q y (by simp[a2.bq])) he)) h W).2
 |tM x y z=>exact(er aq ah a1 aC (fun e he=>fN rfl (fun _ _ _ _=>rfl) (adZ aC (q x (by simp[a2.bq])) (q y (by simp[a2.bq])) (q z (by simp[a2.bq])) he)) h W).2
 |pick c a b=>exact(er aq ah a1 aC (fun e he=>ad7 aC (q c (by simp[a2.bq])) (q a (by simp[a2.bq])) (q b (by simp[a2.bq])) he) h W).2
 |bytesStr x=>exact(er aq ah a1 aC (fun e he=>adK aC (q x (by simp[a2.bq])) he) h W).2
 |strBytes t x=>exact(er aq ah a1 aC (fun e he=>ad9 aC (q x (by simp[a2.bq])) he) h W).2
 |cut sz x lo hi=>exact(er aq ah a1 aC (fun e he=>adO aC (q x (by simp[a2.bq])) (fun y aI=>q y (by simp[a2.bq,aI])) (fun y aI=>q y (by simp[a2.bq,aI])) he) h W).2
 |cut3 sz x lo hi mx=>exact(er aq ah a1 aC (fun e he=>adM aC (q x (by simp[a2.bq])) (fun y aI=>q y (by simp[a2.bq,aI])) (q hi (by simp[a2.bq])) (q mx (by simp[a2.bq])) he) h W).2
 |cutStr x lo hi=>exact(er aq ah a1 aC (fun e he=>adN aC (q x (by simp[a2.bq])) (fun y aI=>q y (by simp[a2.bq,aI])) (fun y aI=>q y (by simp[a2.bq,aI])) he) h W).2
 |iaddr sz x i=>exact(er aq ah a1 aC (fun e he=>adU aC (q x (by simp[a2.bq])) (q i (by simp[a2.bq])) he) h W).2
 |istr x i=>exact(er aq ah a1 aC (fun e he=>adW aC (q x (by simp[a2.bq])) (q i (by simp[a2.bq])) he) h W).2
 |box cs=>exact absurd (show bA .bad from h) ah.bad
 |boxv x=>exact absurd (show bA .bad from h) ah.bad
 |obj cs=>exact absurd (show bA .bad from h) ah.bad
 |objv x=>exact absurd (show bA .bad from h) ah.bad
 |bslice own sz t n z br=>exact(er aq ah a1 aC (fun e he=>asa aC a' (fun p ae=>q p.2 (eO.2 ⟨p,ae,rfl⟩)) he) h W).2
 |load agg n x=>exact aqy aq ah a1 aC (q x (by simp[a2.bq])) h
 |store n x v=>exact absurd (show bA .bad from h) ah.bad
 |mark x=>exact absurd (show bA .bad from h) ah.bad
 |call f as=>exact ajY af aq ah a1 aC (fun x ad=>q x (by simp[a2.bq,ad])) h
 |callv f as=>exact aj2 af aq ah a1 aC (q f (by simp[a2.bq])) (fun x ad=>q x (by simp[a2.bq,ad])) h
 |inv eg x as=>exact aoW af aq ah a1 aC (q x (by simp[a2.bq])) (fun x ad=>q x (by simp[a2.bq,ad])) h
 |append sz t lO x y=>exact absurd (show bA .bad from h) ah.bad
 |appendZ sz t lO x y=>exact absurd (show bA .bad from h) ah.bad
 |appendM sz t lO x y=>exact absurd (show bA .bad from h) ah.bad
 |mslice sz t n z br=>exact absurd (show bA .bad from h) ah.bad
 |cap x=>exact absurd (show bA .bad from h) ah.bad
 |mmap=>exact absurd (show bA .bad from h) ah.bad
 |mget a7 z ok x i=>exact acB (P:=P) aq ah a1 aC a' (q x (by simp[a2.bq])) (q i (by simp[a2.bq])) h
 |mset a7 x i v=>exact absurd (show bA .bad from h) ah.bad
 |mdel a7 x i=>exact absurd (show bA .bad from h) ah.bad
 |mlen x=>exact acE (P:=P) aq ah a1 aC (q x (by simp[a2.bq])) h
 |range x=>exact absurd (show bA .bad from h) ah.bad
 |next x=>exact absurd (show bA .bad from h) ah.bad
 |entry x=>exact absurd (show bA .bad from h) ah.bad
 |clearS sz z x=>exact absurd (show bA .bad from h) ah.bad
 |clearM x=>exact absurd (show bA .bad from h) ah.bad
 |dead=>exact absurd (show bA .bad from h) ah.bad
theorem Wj {t w:Bool}:(t==w)=true→t=w:=by cases t<;>cases w<;>simp
theorem ef.h2:ef R h2 h2:=.plain rfl
theorem Lv (af:∀f,hz P f (call f)) (aq:e7 bo R V k bA K) (ah:Good bA) (a1:cT bo R V ag) (aC:cq R env aR) {o:ca} (ae:o.op.ha=true) (h:bA (vC call o k env V)):jd P o K aR ag:=by
 obtain⟨d,g,op⟩:=o;cases g with
 |none=>exact adm af aq ah a1 aC ae h
 |some pk=>
  obtain⟨j,cO⟩:=pk
  replace h:bA (GS call op d cO k env V (c7 env j)):=h
  have aU:=aC j;unfold GS at h;split at h
  ·rename_i t bQ;rw[bQ]at aU;obtain⟨v,az,ao⟩:=aU.cJ;simp only[aY]at az;subst az;simp only[jd,ao];cases aw:(t==cO)with
   |true=>
    rw[aw,cond_true]at h;have:=Wj aw;subst this;refine⟨fun _=>adm af aq ah a1 (aC.Mf j (by rw[bQ];exact .plain rfl)) ae h,fun aF=> ?_⟩
    cases t<;>cases aF
   |false=>
    rw[aw,cond_false]at h;have aw:t= !cO:=by cases t<;>cases cO<;>simp_all
    subst aw;refine⟨fun aF=>(by cases cO<;>cases aF),fun _=> ?_⟩
    exact aq.fin a1 (aC.Mf j (by rw[bQ];exact .plain rfl)) .h2 h
  ·rename_i bQ;rw[bQ]at aU;obtain⟨v,az,ao⟩:=aU.cJ;simp only[aY]at az;obtain⟨ds,aX,rfl⟩:=az;rw[aX.js]at ao;simp only[jd,ao];exact aq.fin a1 aC .h2 h
  ·exact absurd h ah.bad
theorem GR (af:∀f,hz P f (call f)) (aq:e7 bo R V k bA K) (ah:Good bA) (a1:cT bo R V ag) (aC:cq R env aR) {W:List Nat} {o:ca} (ae:o.op.ha=true) (h:bA (xR call W o k env V)):qv P W o K aR ag:=by
 obtain⟨d,g,op⟩:=o;cases g with
 |none=>exact adl af aq ah a1 aC ae h
 |some pk=>
  obtain⟨j,cO⟩:=pk
  replace h:bA (z8 call W op d cO k env V (c7 env j)):=h
  have aU:=aC j;unfold z8 at h;split at h
  ·rename_i t bQ;rw[bQ]at aU;obtain⟨v,az,ao⟩:=aU.cJ;simp only[aY]at az;subst az;simp only[qv,ao];cases aw:(t==cO)with
   |true=>
    rw[aw,cond_true]at h;have:=Wj aw;subst this;refine⟨fun _=>adl af aq ah a1 (aC.Mf j (by rw[bQ];exact .plain rfl)) ae h,fun aF=> ?_⟩
    cases t<;>cases aF
   |false=>
    rw[aw,cond_false]at h;have aw:t= !cO:=by cases t<;>cases cO<;>simp_all
    subst aw;refine⟨fun aF=>(by cases cO<;>cases aF),fun _=> ?_⟩
    exact aq.fin a1 (aC.Mf j (by rw[bQ];exact .plain rfl)) .h2 h
  ·rename_i bQ;rw[bQ]at aU;obtain⟨v,az,ao⟩:=aU.cJ;simp only[aY]at az;obtain⟨ds,aX,rfl⟩:=az;rw[aX.js]at ao;simp only[qv,ao];exact aq.fin a1 aC .h2 h
  ·exact absurd h ah.bad
theorem Tm (af:∀f,hz P f (call f)) (ah:Good bA):∀{l:List ca} {R:cV} {V:aO} {ag:a8} {env:aP} {aR:bt},(∀o∈l,o.op.ha=true)→e7 bo R V k bA K→cT bo R V ag→cq R env aR→bA (vD call l k env V)→pC P l K aR ag
 | [],R,V,ag,env,aR,_,aq,a1,aC,h=>aq R env V aR ag (.refl _) (.refl _) a1 aC h
 |o::l,R,V,ag,env,aR,ae,aq,a1,aC,h=>by
  have h:bA (vC call o (vD call l k) env V):=h;refine Lv (K:=pC P l K) af ?_ ah a1 aC (ae o (cz ..)) h;intro aL bP V' akR bp U aa au ba cb;exact Tm af ah (fun x ad=>ae x (cv _ ad)) (aq.next U aa) au ba cb
theorem Lk {b:Bool} {m:bI} (h:bA (GH b m env V)) (ah:Good bA):b=true∧bA (m env V):=gO h ah
theorem af4 (aC:cq R env aR) {W:List Nat} {o:a2} (ae:o.ha=true) (h:DK W env o=true):rm W aR o:=by
 cases o<;>try trivial
 rename_i n x v;intro s q hs;simp only[a2.ha,dF]at ae;have ad:=dA aC (dI.1 ae.1 x (by simp[a2.bq]))
 have h:UA W (bV x env)=true:=h;rw[hs]at ad;cases he:bV x env with
 |val a=>rw[he]at ad;obtain⟨_,_,aF⟩:=ad.cJ;cases aF
 |box a=>rw[he]at ad;obtain⟨_,_,aF⟩:=ad.Bb;cases aF
 |b7 dy ey=>
  rw[he]at ad h;have:=ad.q9;cases this;have h:rY W s=true:=h;rw[←JG];exact h
theorem Z2 {x y:aJ} (ad:ef R x y) (h:F' x=true):∃s q,y=.b7 s q:=by
 cases x with
 |b7 s o=>exact⟨s,o,ad.q9⟩
 |val a=>cases h
 |box a=>cases h
theorem aup (aC:cq R env aR) {o:a2} (ae:o.ha=true) (h:Mp env o=true):vQ aR o:=by
 cases o<;>try cases h
 rename_i n x v;simp only[a2.ha,dF]at ae;exact Z2 (dA aC (dI.1 ae.1 x (by simp[a2.bq]))) h
theorem ab2 (aC:cq R env aR) {o:a2} (ae:o.ha=true) (h:zM env o=true):zL aR o:=by
 cases o<;>try cases h
 rename_i agg n x;simp only[a2.ha,dF]at ae;exact Z2 (dA aC (dI.1 ae.1 x (by simp[a2.bq]))) h
theorem abZ (aC:cq R env aR) {o:ca} (ae:o.op.ha=true) (h:KA env o.op o.guard=true):sv aR o:=by
 obtain⟨d,g,op⟩:=o;cases g with
 |none=>exact ab2 aC ae h
 |some pk=>
  obtain⟨j,cO⟩:=pk;intro aU;have h:KB cO env op (c7 env j)=true:=h;have ad:=aC j;rw[aU]at ad;cases he:c7 env j with
  |val a=>
   rw[he]at ad h;obtain⟨b,U,aa⟩:=ad.cJ;cases aa;have aA:a=.bool cO:=by
    cases a with
    |slice xs nl tok=>obtain⟨_,_,_,aF,_⟩:=U.jb;cases aF
    |map m=>cases m<;>simp[aY]at U
    |bool t=>simp only[aY,ab.bool.injEq]at U;rw[U]
    |raw i n=>simp only[aY]at U;obtain⟨_,_,ay⟩:=U;exact absurd ay uj.ars
    |_=>simp[aY]at U
   subst aA;have h:(bif cO==cO then zM env op else true)=true:=h
   rw[beq_self_eq_true,cond_true]at h;exact ab2 aC ae h
  |box a=>rw[he]at ad;obtain⟨_,_,aF⟩:=ad.Bb;cases aF
  |b7 dy ey=>rw[he]at ad;have:=ad.q9;cases this
theorem XA (af:∀f,hz P f (call f)) (ah:Good bA) {W:List Nat}:∀{l:List (Nat × ca)} {R:cV} {V:aO} {ag:a8} {env:aP} {aR:bt},(∀o∈l,o.2.op.ha=true)→e7 bo R V k bA K→cT bo R V ag→cq R env aR→bA (BA call W l k env V)→kC P W l K aR ag
 | [],R,V,ag,env,aR,_,aq,a1,aC,h=>aq R env V aR ag (.refl _) (.refl _) a1 aC h
 |(c9,o)::l,R,V,ag,env,aR,ae,aq,a1,aC,h=>by
  have h:bA (RT call W c9 o (BA call W l k) env V):=h;have p4:=ae _ (cz ..);have ek:e7 bo R V (BA call W l k) bA (kC P W l K):=by
   intro aL bP V' akR bp U aa au ba cb;exact XA af ah (fun x ad=>ae x (cv _ ad)) (aq.next U aa) au ba cb
  unfold kC
  match c9,h with
  |0,h=>exact GR af ek ah a1 aC p4 h
  |1,h=>exact GR af ek ah a1 aC p4 h
  |2,h=>
   obtain⟨U,aa⟩:=Lk h ah;exact⟨af4 aC p4 U,Lv af ek ah a1 aC p4 aa⟩
  |3,h=>exact Lv af ek ah a1 aC p4 h
  |4,h=>
   obtain⟨U,aa⟩:=Lk h ah;simp only[dF]at U;exact⟨af4 aC p4 U.1,aup aC p4 U.2,Lv af ek ah a1 aC p4 aa⟩
  |5,h=>
   obtain⟨U,aa⟩:=Lk h ah;exact⟨abZ aC p4 U,GR af ek ah a1 aC p4 aa⟩
  |6,h=>
   obtain⟨U,aa⟩:=Lk h ah;exact⟨abZ aC p4 U,GR af ek ah a1 aC p4 aa⟩
  |n+7,h=>
   rw[if_neg (by omega),if_neg (by omega),if_neg (by omega),if_neg (by omega),if_neg (by omega)]
   exact GR af ek ah a1 aC p4 h
theorem apT {B:List Nat} {x:aJ} {t:Nat} (ad:ef R x (aR t)):ef R (Kt B x) (aR.zJ B t):=by
 unfold bt.zJ;cases x with
 |val a=>obtain⟨b,U,aa⟩:=ad.cJ;rw[aa];exact⟨b,U,rfl⟩
 |box cs=>obtain⟨b,U,aa⟩:=ad.Bb;rw[aa];exact⟨b,U,rfl⟩
 |b7 s o=>
  rw[ad.q9];show ef R (bif rY B s then .val .top else .b7 s o) (bif B.contains s then .val .top else .b7 s o)
  rw[JG];cases B.contains s with
  |true=>exact .top
  |false=>exact rfl
theorem alC (aC:cq R env aR) (l:List (Nat × ca)):cq R (Fe l env) (aR.forget l):=by
 unfold Fe bt.forget;cases zX l with
 |nil=>exact aC
 |cons b B=>
  intro t;show ef R (c7 (vu (Kt (b::B)) env) t) _;rw[I9 rfl];exact apT (aC t)
theorem akM (af:∀f,hz P f (call f)) (ah:Good bA) {W:List Nat} {l:List (Nat × ca)} (ae:∀o∈l,o.2.op.ha=true) (aq:e7 bo R V k bA K) (a1:cT bo R V ag) (aC:cq R env aR) (h:bA (OQ call W l k env V)):kC P W l K (aR.forget l) ag:=
 XA af ah ae aq a1 (alC aC l) h
end
def fK.ha:fK→Bool
 |.region l=>l.all fun o=>o.op.ha
 |.drawn _ l=>l.all fun o=>o.2.op.ha
 |.seq a b=>a.ha&&b.ha
 |.cond c a b=>c.plain&&(a.ha&&b.ha)
 |.block _ b=>b.ha
 |.loop b=>b.ha
 |_=>true
def AX (P:Program) (f:Nat):sU→Prop
 |.none=>True
 |.code dg=>∃fn esc,P.funcs[f]? =some fn∧xJ P esc fn=some dg∧(fn.body.isSome&&fn.name != "runtime.NumGoroutine")=true∧dg.body.ha=true
 |.told g=>hz P f g
 |.EY dg=>∃fn esc,P.funcs[f]? =some fn∧xJ P esc fn=some dg∧(fn.body.isSome&&fn.name != "runtime.NumGoroutine")=true∧dg.body.ha=true
def um (P:Program) (T:oO):Prop:=∀f,AX P f (cg.get .none T f)
def l2 (bo:a8) (R:cV) (V:aO) (bU:dT→aP→aO→Prop):dT→bt→a8→Prop:=fun y aR ag=>
 ∃env V' aL,bU y env V'∧R.dY aL∧jR V V'∧cT bo aL V' ag∧cq aL env aR
theorem Bz {K:bt→a8→Prop} {env:bt} {ag:a8} (h:K env ag):mJ K env ag:=⟨env,ag,fun _=>.inr (.inl rfl),.refl _,h⟩
section
variable {P:Program} {T:oO}
def kh (P:Program) (c:Option ab→dd) (b:fK):Prop:=b.ha=true→
 (∀(env:aP) (V:aO) (bU:dT→aP→aO→Prop),(c none env V).all bU→∀(bo:a8) (R:cV) (ag:a8) (aR:bt),cT bo R V ag→cq R env aR→jy P b (l2 bo R V bU) aR ag)∧
 (∀(d:Option Nat) (s:Nat) (l:List ca) (q:fK),b=.seq (.region (⟨d,none,.next (.tmp s)⟩::l)) q→∀(v:ab) (env:aP) (V:aO) (bU:dT→aP→aO→Prop),(c (some v) env V).all bU→
  ∀(bo:a8) (R:cV) (ag:a8) (aR:bt) (jx:ab),cT bo R V ag→cq R env aR→aY R v jx→pC P l (jy P q (l2 bo R V bU)) (aR.set d (.val jx)) ag)
theorem l2.next {bo:a8} {R aL:cV} {V V':aO} {bU:dT→aP→aO→Prop} {y:dT} {aR:bt} {ag:a8} (bz:R.dY aL) (av:jR V V') (h:l2 bo aL V' bU y aR ag):l2 bo R V bU y aR ag:=by
 obtain⟨env,uq,dQ,U,aa,au,ba⟩:=h;exact⟨env,uq,dQ,U,bz.trans aa,av.trans au,ba⟩
theorem asX {bo:a8} {R:cV} {V:aO} {ag:a8} {env:aP} {aR:bt} (a1:cT bo R V ag) (aC:cq R env aR) {q:kg} {a:ab} (h:ri env V q=some a):∃b,aY R a b∧∀k:ab→Prop,k b→sG aR ag q k:=by
 cases q with
 |tmp t=>
  have ad:=dA aC (x:=.tmp t) rfl;simp only[ri]at h;split at h
  ·rename_i v bQ;cases h;rw[bQ]at ad;obtain⟨b,U,aa⟩:=ad.cJ;exact⟨b,U,fun k aq=>by simp only[sG,aa];exact aq⟩
  ·cases h
 |cell agg n t=>
  have ad:=dA aC (x:=.tmp t) rfl;simp only[ri]at h;split at h
  ·rename_i s o bQ;rw[bQ]at ad;have aa:=ad.q9;obtain⟨cs,bd,bx,bT⟩:=Sb (aC s) h;exact⟨_,bT,fun k aq=>by simp only[sG,aa,bd];exact⟨bx,aq⟩⟩
  ·rename_i i o bQ;rw[bQ]at ad;obtain⟨b,U,aa⟩:=ad.cJ;simp only[aY]at U;obtain⟨z,a',rfl⟩:=U;obtain⟨x,cs,bd,bx,bT,dp⟩:=Sc a1 h;rw[a']at bd;cases bd;exact⟨_,dp,fun k aq=>by simp only[sG,aa];exact⟨cs,bx,bT,aq⟩⟩
  ·cases h
theorem aeU {bo:a8} {R:cV} {V:aO} {ag:a8} {env:aP} {aR:bt} (a1:cT bo R V ag) (aC:cq R env aR):∀{jt:List kg} {as:List ab},tW env V jt=some as→∃bs,bW R as bs∧∀k:List ab→Prop,k bs→vK aR ag jt k
 | [],as,h=>by
  have h:some []=some as:=h;cases h;exact⟨[],.nil,fun k aq=>aq⟩
 |q::jt,as,h=>by
  have h:TW (ri env V q) (tW env V jt)=some as:=h;cases aB:ri env V q with
  |none=>rw[aB]at h;cases h
  |some a=>
   rw[aB]at h;obtain⟨hC,U,rfl⟩:=Of (o:=tW env V jt) h;obtain⟨b,cp,b_⟩:=asX a1 aC aB;obtain⟨bs,bf,c2⟩:=aeU a1 aC U;exact⟨b::bs,.cons cp bf,fun k aq=>b_ _ (c2 _ aq)⟩
theorem V4:∀(as:List ab) (i:Nat) (env:aP) (t:Nat),c7 (wo as i env) t=match(if i≤t then as[t-i]? else none)with|some a=>.val a|none=>c7 env t
 | [],i,env,t=>by simp[wo]
 |a::as,i,env,t=>by
  show c7 (wo as (i+1) (wV env i (.val a))) t=_;rw[V4 as (i+1),I8];by_cases U:i+1≤t
  ·have e:t-i=(t-(i+1))+1:=by omega
   have b3:i≤t:=by omega
   have cI:¬i=t:=by omega
   simp only[U,b3,cI,if_true,if_false,e,nV]
  ·rw[if_neg U];by_cases aa:i=t
   ·subst aa;simp
   ·have b3:¬i≤t:=by omega
    simp only[b3,aa,if_false]
theorem ajj {R:cV} {as bs:List ab} (h:bW R as bs):cq R (wo as 0 .dL) (bt.args bs):=by
 intro t;rw[V4,akT];unfold bt.args;simp only[fv,if_true,Nat.sub_zero];have ak:=h.length;cases he:as[t]? with
 |some a=>
  obtain⟨b,U,aa⟩:=h.get he;rw[U];exact⟨b,aa,rfl⟩
 |none=>
  have:bs[t]? =none:=by rw[EE]at he⊢;omega
  rw[this];exact .top
theorem Hp {b:dd} {bU:dT→aP→aO→Prop}:∀{r:bj},(Ho b r).all bU→r.all fun x env V=>(x=.normal→(b env V).all bU)∧(x≠.normal→bU x env V)
 |.bad,h=>h
 |.alt _ _,h=>⟨Hp h.1,Hp h.2⟩
 |.done .normal env V,h=>⟨fun _=>h,fun aF=>absurd rfl aF⟩
 |.done (.exit i) env V,h=>⟨fun aF=>(by cases aF),fun _=>h⟩
 |.done .ret env V,h=>⟨fun aF=>(by cases aF),fun _=>h⟩
theorem NC {id:Nat} {bU:dT→aP→aO→Prop}:∀{r:bj},(Iu id r).all bU→r.all fun x env V=>(ND id env V x).all bU
 |.bad,h=>h
 |.alt _ _,h=>⟨NC h.1,NC h.2⟩
 |.done _ _ _,h=>h
theorem GC {bU:dT→aP→aO→Prop}:∀{r:bj},(xH r).all bU→r.all fun x env V=>x≠.normal∧bU x env V
 |.bad,h=>h
 |.alt _ _,h=>⟨GC h.1,GC h.2⟩
 |.done .normal _ _,h=>(by cases h)
 |.done (.exit i) _ _,h=>⟨by(intro aF;cases aF),h⟩
 |.done .ret _ _,h=>⟨by(intro aF;cases aF),h⟩
theorem PJ {go:aP→aO→bj} {bU:dT→aP→aO→Prop}:∀{r:bj},(Jz go r).all bU→r.all fun x env V=>x=.normal∧(go env V).all bU
 |.bad,h=>h
 |.alt _ _,h=>⟨PJ h.1,PJ h.2⟩
 |.done .normal _ _,h=>⟨rfl,h⟩
 |.done (.exit i) _ _,h=>(by cases h)
 |.done .ret _ _,h=>(by cases h)
theorem VQ {bU:dT→aP→aO→Prop}:∀{l:List bj},(yw l).all bU→∀r∈l,r.all bU
 | [],h,r,ah=>by cases ah
 | [lE],h,r,ah=>by rw[iS.1 ah];exact h
 |lE::s::l,h,r,ah=>by
  have h:lE.all bU∧(yw (s::l)).all bU:=h;rcases cu.1 ah with rfl|ah
  ·exact h.1
  ·exact VQ h.2 r ah
theorem ard {b:fK} {s:Nat} (h:vw b=some s):∃d l q,b=.seq (.region (⟨d,none,.next (.tmp s)⟩::l)) q:=by
 unfold vw at h;split at h
 ·unfold acP at h;split at h
  ·unfold acN at h;split at h
   ·unfold acO at h;split at h
    ·cases h;exact⟨_,_,_,rfl⟩
    ·cases h
   ·cases h
  ·cases h
 ·cases h
theorem ak9 {a b:Int} (h:mh a b=true):a=b:=by rw[uM]at h;simpa using h
theorem beq_true {a b:Nat} (h:Nat.beq a b=true):a=b:=oT h
mutual
theorem yS:∀(a b:ab),n2 a b=true→a=b
 |.top,b,h=>by cases b<;>first|rfl|exact(g0 h).elim
 |.cX,b,h=>by cases b<;>first|rfl|exact(g0 h).elim
 |.dC,b,h=>by cases b<;>first|rfl|exact(g0 h).elim
 |.fj,b,h=>by cases b<;>first|rfl|exact(g0 h).elim
 |.raw _ _,b,h=>by cases b<;>exact(g0 h).elim
 |.func (.func f) xs ys,b,h=>by
  cases b<;>first|exact(g0 h).elim|skip
  rename_i fn fm ws;cases fn<;>first|exact(g0 h).elim|skip
  rename_i g;have h:(Nat.beq f g&&(mO xs fm&&mO ys ws))=true:=h;simp only[dF]at h;have U:f=g:=beq_true h.1;rw[U,rT xs fm h.2.1,rT ys ws h.2.2]
 |.func (.method _) xs ys,b,h=>by cases b<;>exact(g0 h).elim
 |.func (.methodOf _ _) xs ys,b,h=>by cases b<;>exact(g0 h).elim
 |.func (.via _ _ _ _) xs ys,b,h=>by cases b<;>exact(g0 h).elim
 |.func (.yield _) xs ys,b,h=>by cases b<;>exact(g0 h).elim
 |.bool x,b,h=>by
  cases b<;>first|exact(g0 h).elim|skip
  rename_i y;have h:(x==y)=true:=h;rw[beq_iff_eq.1 h]
 |.int k n,b,h=>by
  cases b<;>first|exact(g0 h).elim|skip
  rename_i k' m;have h:(bif mw k k' then mh n m else false)=true:=h
  rw[abA]at h;by_cases aq:k=k'
  ·rw[decide_eq_true aq,cond_true]at h;rw[aq,ak9 h]
  ·rw[decide_eq_false aq]at h;cases h
 |.str s,b,h=>by
  cases b<;>first|exact(g0 h).elim|skip
  rename_i y;have h:tk s y=true:=h;rw[E5]at h;rw[beq_iff_eq.1 h]
 |.ptr a o,b,h=>by
  cases b<;>first|exact(g0 h).elim|skip
  rename_i cI cy;have h:(Nat.beq a cI&&Nat.beq o cy)=true:=h;simp only[dF]at h;rw[beq_true h.1,beq_true h.2]
 |.ref a o n c,b,h=>by
  cases b<;>first|exact(g0 h).elim|skip
  rename_i cI cy ct c2;have h:(Nat.beq a cI&&(Nat.beq o cy&&(Nat.beq n ct&&Nat.beq c c2)))=true:=h;simp only[dF]at h;rw[beq_true h.1,beq_true h.2.1,beq_true h.2.2.1,beq_true h.2.2.2]
 |.slice xs nl (some g),b,h=>by
  cases b<;>first|exact(g0 h).elim|skip
  rename_i ys sB t2;cases t2<;>first|exact(g0 h).elim|skip
  rename_i bC;have h:(Nat.beq g bC&&((nl==sB)&&mO xs ys))=true:=h;simp only[dF,beq_iff_eq]at h;rw[beq_true h.1,h.2.1,rT xs ys h.2.2]
 |.slice xs nl none,b,h=>by
  cases b<;>first|exact(g0 h).elim|skip
  rename_i ys sB t2;cases t2<;>first|exact(g0 h).elim|skip
  have h:((nl==sB)&&mO xs ys)=true:=h;simp only[dF,beq_iff_eq]at h;rw[h.1,rT xs ys h.2]
 |.agg xs,b,h=>by
  cases b<;>first|exact(g0 h).elim|skip
  rename_i ys;rw[rT xs ys h]
 |.dK xs,b,h=>by
  cases b<;>first|exact(g0 h).elim|skip
  rename_i ys;rw[rT xs ys h]
 |.tuple xs,b,h=>by
  cases b<;>first|exact(g0 h).elim|skip
  rename_i ys;rw[rT xs ys h]
 |.iface t v,b,h=>by
  cases b<;>first|exact(g0 h).elim|skip
  rename_i u w;have h:(Nat.beq t u&&n2 v w)=true:=h;simp only[dF]at h;have U:t=u:=beq_true h.1;rw[U,yS v w h.2]
 |.map none,b,h=>by
  cases b<;>first|exact(g0 h).elim|skip
  rename_i n;cases n<;>first|rfl|exact(g0 h).elim
 |.map (some p),b,h=>by
  cases b<;>first|exact(g0 h).elim|skip
  rename_i n;cases n<;>first|exact(g0 h).elim|skip
  rename_i q;have h:Nat.beq p q=true:=h;rw[beq_true h]
theorem rT:∀(as bs:List ab),mO as bs=true→as=bs
 | [],[],_=>rfl
 | [],_::_,h=>(g0 h).elim
 |_::_,[],h=>(g0 h).elim
 |x::xs,y::ys,h=>by
  have h:(bif n2 x y then mO xs ys else false)=true:=h
  cases he:n2 x y with
  |false=>rw[he]at h;cases h
  |true=>rw[he,cond_true]at h;rw[yS x y he,rT xs ys h]
end
theorem ak7 {a b:aJ} (h:Pa a b=true):a=b:=by
 cases a<;>cases b<;>first|exact(g0 h).elim|skip
 ·rw[yS _ _ h]
 ·rw[rT _ _ h]
 ·rename_i s o t p;have h:(Nat.beq s t&&Nat.beq o p)=true:=h;simp only[dF]at h;rw[beq_true h.1,beq_true h.2]
theorem aqT (a b:aJ):(CI a b=a∨CI a b=.val .top)∧(CI a b=b∨CI a b=.val .top):=by
 unfold CI;cases h:Pa a b with
 |false=>exact⟨.inr rfl,.inr rfl⟩
 |true=>rw[←ak7 h];exact⟨.inl rfl,.inl rfl⟩
theorem KU:∀(p:iR) (a b:aP),(cg.jG (.val .top) p (xC a b)=cg.jG (.val .top) p a∨cg.jG (.val .top) p (xC a b)=.val .top)∧(cg.jG (.val .top) p (xC a b)=cg.jG (.val .top) p b∨cg.jG (.val .top) p (xC a b)=.val .top)
 |_,.dL,_=>⟨.inr (cg.y3 _ _),.inr (cg.y3 _ _)⟩
 |_,.fr _ _ _,.dL=>⟨.inr (cg.y3 _ _),.inr (cg.y3 _ _)⟩
 |.z,.fr v _ _,.fr w _ _=>aqT v w
 |.a p,.fr _ l _,.fr _ m _=>KU p l m
 |.b p,.fr _ _ r,.fr _ _ s=>KU p r s
theorem Jg:∀{a b:List (ab × ab)},BE a b=true→a=b
 | [],[],_=>rfl
 | [],_::_,h=>(g0 h).elim
 |_::_,[],h=>(g0 h).elim
 |x::xs,y::ys,h=>by
  have h:(n2 x.1 y.1&&(n2 x.2 y.2&&BE xs ys))=true:=h;simp only[dF]at h;obtain⟨hd,kD⟩:=x;obtain⟨cQ,eR⟩:=y;have U:hd=cQ:=yS _ _ h.1;have aa:kD=eR:=yS _ _ h.2.1;rw[U,aa,Jg h.2.2]
theorem XK {a b:Option cL} (h:Pb a b=true):a=b:=by
 cases a<;>cases b<;>first|rfl|exact(g0 h).elim|skip
 exact congrArg _ (abQ h)
theorem ak6 {a b:Option (ab × ab)} (h:XJ a b=true):a=b:=by
 cases a<;>cases b<;>first|rfl|exact(g0 h).elim|skip
 rename_i x y;have h:(n2 x.1 y.1&&n2 x.2 y.2)=true:=h;simp only[dF]at h;obtain⟨hd,kD⟩:=x;obtain⟨cQ,eR⟩:=y;have U:hd=cQ:=yS _ _ h.1;have aa:kD=eR:=yS _ _ h.2;rw[U,aa]
theorem XM {a b:eA} (h:yU a b=true):a=b:=by
 unfold yU at h;split at h
 ·rfl
 ·rw[rT _ _ h]
 ·simp only[dF]at h;rw[beq_true h.1,rT _ _ h.2]
 ·simp only[dF]at h;rw[beq_true h.1,beq_true h.2.1,beq_true h.2.2]
 ·simp only[dF]at h;rw[XK h.1,Jg h.2]
 ·simp only[dF]at h;rw[beq_true h.1,XK h.2.1,Jg h.2.2.1,Jg h.2.2.2.1,ak6 h.2.2.2.2]
 ·rfl
 ·rfl
 ·cases h
def uk (a b:Eb):Prop:=(∀t,c7 b.1 t=c7 a.1 t∨c7 b.1 t=.val .top)∧a.2.1≤b.2.1∧a.2.2=b.2.2
theorem uk.refl (a:Eb):uk a a:=⟨fun _=>.inl rfl,b1 _,rfl⟩
theorem uk.trans {a b c:Eb} (h:uk a b) (k:uk b c):uk a c:=by
 refine⟨fun t=> ?_,fp h.2.1 k.2.1,h.2.2.trans k.2.2⟩;rcases k.1 t with az|az
 ·rcases h.1 t with U|U
  ·exact .inl (az.trans U)
  ·exact .inr (az.trans U)
 ·exact .inr az
theorem acs:∀{l:List qB} {k3:Eb},zS l=some k3→∀r∈l,∃a,r=some a∧uk a k3
 | [],k3,h,r,ah=>by cases ah
 | [lE],k3,h,r,ah=>by
  rw[iS]at ah;subst ah;exact⟨k3,h,.refl _⟩
 |lE::s::l,k3,h,r,ah=>by
  have h:acu lE (zS (s::l))=some k3:=h;cases aV:lE with
  |none=>rw[aV]at h;cases h
  |some a=>
   cases U:zS (s::l)with
   |none=>rw[aV,U]at h;cases h
   |some b=>
    rw[aV,U]at h;have h:(bif yU a.2.2 b.2.2 then some (xC a.1 b.1,Gv a.2.1 b.2.1,a.2.2)else none)=some k3:=h
    cases ay:yU a.2.2 b.2.2 with
    |false=>rw[ay]at h;cases h
    |true=>
    rw[ay,cond_true]at h;cases h;have ay:=XM ay;have hm:a.2.1≤Gv a.2.1 b.2.1∧b.2.1≤Gv a.2.1 b.2.1:=by
     unfold Gv;rw[fT];by_cases uX:a.2.1≤b.2.1
     ·rw[decide_eq_true uX,cond_true];exact⟨uX,b1 _⟩
     ·rw[decide_eq_false uX,cond_false];exact⟨b1 _,by omega⟩
    rcases cu.1 ah with rfl|ah
    ·exact⟨a,aV,⟨fun t=>(KU _ a.1 b.1).1,hm.1,rfl⟩⟩
    ·obtain⟨c,bf,c2⟩:=acs U r ah;exact⟨c,bf,c2.trans ⟨fun t=>(KU _ a.1 b.1).2,hm.2,ay.symm⟩⟩
theorem Tx:∀{l:List (ab × ab)} {j:Nat} {e:ab × ab},l[j]? =some e→(e,l.eraseIdx j)∈tR l
 | [],j,e,h=>by simp at h
 |x::r,0,e,h=>by
  simp only[l5,bk]at h;subst h;exact cz ..
 |x::r,j+1,e,h=>by
  rw[nV]at h;refine cv _ (eO.2 ⟨_,Tx h,rfl⟩)
theorem gS.at {R:cV}:∀{es es':List (ab × ab)},gS R es es'→∀{j:Nat} {cE:ab × ab},es'[j]? =some cE→∃e,es[j]? =some e∧cE.1=e.1∧aY R e.2 cE.2
 | [],_,h,j,cE,aU=>by cases h;simp at aU
 |x::r,_,⟨v,ys,U,aa,au⟩,0,cE,aU=>by
  subst au;simp only[l5,bk]at aU;subst aU;exact⟨x,rfl,rfl,U⟩
 |x::r,_,⟨v,ys,U,aa,au⟩,j+1,cE,aU=>by
  subst au;rw[nV]at aU;obtain⟨e,az,ao⟩:=aa.at aU;exact⟨e,by rw[nV];exact az,ao⟩
theorem gS.erase {R:cV}:∀{es es':List (ab × ab)},gS R es es'→∀(j:Nat),gS R (es.eraseIdx j) (es'.eraseIdx j)
 | [],_,h,j=>by cases h;exact rfl
 |x::r,_,⟨v,ys,U,aa,au⟩,0=>by subst au;exact aa
 |x::r,_,⟨v,ys,U,aa,au⟩,j+1=>by subst au;exact⟨v,_,U,aa.erase j,rfl⟩
theorem cT.less {bo:a8} {R:cV} {V V':aO} {ag:a8} (h:cT bo R V ag) (av:V'.g≤V'.n) (aK:V.n≤V'.n) (aA:∀i,V'.at i=V.at i∨V'.at i=.dead):cT bo R V' ag:=by
 have live:∀i,V'.at i≠.dead→V'.at i=V.at i:=fun i hi=>(aA i).resolve_right hi;have R9:∀i,V'.at i≠.dead→V.at i≠.dead:=fun i hi=>by rw[←live i hi];exact hi
 refine⟨av,fun i x ad=>eE (h.wP i x ad) aK,fun i hi=> ?_,fun i j x y hi aU ad aI e=>h.inj i j x y (R9 i hi) (R9 j aU) ad aI e,h.sub⟩;rw[live i hi];exact h.obj i (R9 i hi)
theorem cT.akL {bo:a8} {R:cV} {V:aO} {ag:a8} (h:cT bo R V ag) {i:Nat} (hi:V.n≤i):V.at i=.dead:=by
 by_cases aQ:V.at i=.dead
 ·exact aQ
 ·obtain⟨x,U,_⟩:=h.obj i aQ;have:=h.wP i x U;omega
theorem Kk {i:Nat} {e:aJ} (h:nG i e=true):e=.val (.ptr i 0):=by
 unfold nG at h;split at h
 ·rw[beq_true h]
 ·cases h
theorem U6 {R:cV} {env:aP} {e:bt} (aC:cq R env e) {s i:Nat} (h:c7 env s=.val (.ptr i 0)):∃z,R i=some z∧a_ e (.tmp s)=.val (.ptr z.b 0):=by
 have hs:=aC s;rw[h]at hs;obtain⟨v,az,ao⟩:=hs.cJ;simp only[aY]at az;obtain⟨z,a',rfl⟩:=az;exact⟨z,a',by show(match e s with|.box _=>aJ.b7 s 0|e=>e)=_;rw[ao]⟩
theorem cq.less {R:cV} {env iW:aP} {e:bt} (aC:cq R env e) (h:∀t,c7 iW t=c7 env t∨c7 iW t=.val .top):∃aN,e.dY aN∧cq R iW aN:=by
 refine⟨fun t=>open Classical in if c7 iW t=c7 env t then e t else .val .top,fun t=> ?_,fun t=> ?_⟩
 ·by_cases aw:c7 iW t=c7 env t
  ·simp only[aw,if_true];exact .inr (.inl rfl)
  ·simp only[aw,if_false];exact .inl rfl
 ·by_cases aw:c7 iW t=c7 env t
  ·simp only[aw,if_true];exact aC t
  ·simp only[aw,if_false];rw[(h t).resolve_left aw];exact .top
theorem T3 (vV:cg eA) (i:Nat) (o it:eA) (j:Nat):cg.get .dead (x2 vV i o it) j=if i=j then it else if i-1=j then o else cg.get .dead vV j:=by
 unfold x2;rw[cg.o4,cg.o4];rfl
theorem asJ {run:Option ab→dd} {b:fK} (b6:kh P run b) (ae:b.ha=true) {d:Option Nat} {s:Nat} {l:List ca} {q:fK} (aj:b=.seq (.region (⟨d,none,.next (.tmp s)⟩::l)) q)
  {env:aP} {V:aO} {bU:dT→aP→aO→Prop} (h:(xv run s env V (c7 env s)).all bU) {bo:a8} {R:cV} {ag:a8} {aR:bt} (a1:cT bo R V ag) (aC:cq R env aR):jy P (.loop b) (l2 bo R V bU) aR ag:=by
 have xg:=(b6 ae).2 d s l q aj;have r6:=Fl bU;unfold xv at h;split at h
 case h_2=>cases h
 rename_i i hs;unfold acd at h;split at h
 case h_2=>cases h
 rename_i m ko es left bM;obtain⟨av,h⟩:=gO (bA:=fun r=>r.all bU) h r6;unfold ae1 at av;simp only[dF,fT,kK,gY,decide_eq_true_eq,Bh,decide_eq_false_iff_not]at av;obtain⟨lU,w_,lk,P4,B6⟩:=av;have P4:V.n=i+1:=P4;have B6:¬m=i-1:=B6;have lk:V.at m=.eL:=by
  unfold zE at lk;split at lk
  ·assumption
  ·cases lk
 have JX:i≠m:=by rintro rfl;rw[bM]at lk;cases lk
 cases FZ:Ag run s i m ko es V.t (left.length+1) left env V.n (V.at (Nat.sub i 1))with
 |none=>rw[FZ]at h;cases h
 |some mL=>
 rw[FZ]at h;have h:(bif nG i (c7 mL.1 s)then xH (run (some (.tuple [.bool false])) mL.1 ((((aO.mk mL.2.1 V.g V.t).put (i-1) mL.2.2).put i .dead).put m (.map ko es)))else .bad:bj).all bU:=h
 obtain⟨FV,h⟩:=gO (bA:=fun r=>r.all bU) h r6;have FV:=Kk FV;have r4:=GC h;obtain⟨cx,tq⟩:∃cx:Nat→List (ab × ab)→Option (ab × ab)→eA→aO,cx=fun hS left cur o=>⟨hS,V.g,x2 V.t i o (.iter m ko es left cur)⟩:=⟨_,rfl⟩;have wu:∀hS left cur o j,(cx hS left cur o).at j=if i=j then .iter m ko es left cur else if i-1=j then o else V.at j:=by
  intro hS left cur o j;rw[tq];exact T3 _ _ _ _ _
 obtain⟨Inv,y7⟩:∃Inv:Nat→bt→a8→Prop,Inv=fun k e ag=>∃left env hS aL cur o,k=left.length∧R.dY aL∧V.n≤hS∧cT bo aL (cx hS left cur o) ag∧cq aL env e∧c7 env s=.val (.ptr i 0)∧
   ((left=[]∧env=mL.1∧hS≤mL.2.1∧o=mL.2.2)∨(left≠[]∧∃k3,Ag run s i m ko es V.t (left.length+1) left env hS o=some k3∧uk k3 mL)):=⟨_,rfl⟩
 have enter:∀left env hS aL cur o e ag k3,R.dY aL→V.n≤hS→cT bo aL (cx hS left cur o) ag→cq aL env e→Ag run s i m ko es V.t (left.length+1) left env hS o=some k3→uk k3 mL→mJ (Inv left.length) e ag:=by
  intro left env hS aL cur o e ag k3 U aa au ba cb du;cases left with
  |nil=>
   have cb:some (env,hS,o)=some k3:=cb;cases cb;obtain⟨aN,bL,eB⟩:=ba.less du.1;refine⟨aN,ag,bL,.refl _,?_⟩;rw[y7];exact⟨[],mL.1,hS,aL,cur,o,rfl,U,aa,au,eB,FV,.inl ⟨rfl,rfl,du.2.1,du.2.2⟩⟩
  |cons cE r=>
   have mq:c7 env s=.val (.ptr i 0):=by
    have cb:(bif nG i (c7 env s)then zS ((tR (cE::r)).map (LZ run i m ko es V.t env hS o (Ag run s i m ko es V.t ((cE::r).length))))else none)=some k3:=cb
    cases aB:nG i (c7 env s)with
    |false=>rw[aB]at cb;cases cb
    |true=>exact Kk aB
   refine Bz ?_;rw[y7];exact⟨_,env,hS,aL,cur,o,rfl,U,aa,au,ba,mq,.inr ⟨by simp,k3,cb,du⟩⟩
 refine⟨Inv,⟨left.length,enter left env V.n R none (V.at (i-1)) aR ag mL (.refl _) (b1 _) ?_ aC FZ (.refl _)⟩,?_⟩
 ·refine a1.less (by rw[tq];exact a1.BQ) (by rw[tq];exact b1 _) fun j=>.inl ?_
  rw[wu];by_cases lj:i=j
  ·subst lj;rw[if_pos rfl,bM]
  ·rw[if_neg lj];by_cases aU:i-1=j
   ·subst aU;rw[if_pos rfl]
   ·rw[if_neg aU]
 intro k e ag o5;have avL:=o5;rw[y7]at o5;obtain⟨left,env,hS,aL,cur,o,aq,bz,aK,pX,mR,mq,Fz⟩:=o5;obtain⟨z,a',ot⟩:=U6 mR mq;obtain⟨y,es',iK,jV,bg,bl,bS,cP,de,cy,e5,eC,iM⟩:=RK pX (i:=i) (by rw[wu,if_pos rfl]) a'
 have Za:(cx hS left cur o).at m=.eL:=by rw[wu,if_neg JX,if_neg (fun aF=>B6 aF.symm),lk]
 obtain⟨eR,ev,jz,_⟩:=pX.get Za (by intro aF;cases aF)
 rw[bg]at ev;cases ev;obtain⟨ep,dV,jJ⟩:=ig (show ag.fL y.b=(none,none,some .eL)from jz)
 subst aj;show bH P (.next (.tmp s)) d (pC P l (jy P q (dT.then (mJ fun bP bp=>∃m,m<k∧Inv m bP bp) (l2 bo R V bU)))) e ag;simp only[bH,ot];refine⟨some y.b,es',iK,jV,e5,fun r ah=>by cases ah;exact jJ,fun ak=> ?_,fun j cE aU=> ?_⟩
 ·have tx:left=[]:=by
   have:=bS.length;rw[ak]at this;exact wv.1 this.symm
  rcases Fz with⟨_,lh,sg,QL⟩|⟨cm,_⟩
  case inr=>exact absurd tx cm
  subst lh;have CD:(cx hS left cur o).at i≠.dead:=by rw[wu,if_pos rfl];intro aF;cases aF
  obtain⟨b3,cI⟩:=pX.put (bp:=ag.c5 z.b .eL) a' CD (by rw[tq];exact Nat.le_of_lt lU) (nX ag z.b _) (o:=.dead) trivial
  have Rq:y.b≠z.b:=by intro aF;rw[aF,e5]at jJ;cases jJ
  have qT:=ig (nX ag z.b .eL y.b Rq);obtain⟨cp,b_⟩:=b3.put (bp:=(ag.c5 z.b .eL).c5 y.b (.map es')) bg (by rw[fS,if_neg JX,Za];intro aF;cases aF) (by rw[tq];exact w_) (nX _ y.b _) (o:=.map ko es)
   ⟨es',bl,by rw[uB,qT.1,qT.2.1,ep,dV],eC,iM⟩
  have P3:cT bo aL ((((aO.mk mL.2.1 V.g V.t).put (i-1) mL.2.2).put i .dead).put m (.map ko es)) ((ag.c5 z.b .eL).c5 y.b (.map es')):=by
   refine cp.less ?_ ?_ fun j=>.inl ?_
   ·show V.g≤mL.2.1;have:=a1.BQ;omega
   ·show(cx hS left cur o).n≤mL.2.1;rw[tq];exact sg
   ·rw[fS,fS,fS,fS,fS,wu];by_cases U:m=j
    ·rw[if_pos U,if_pos U]
    ·rw[if_neg U,if_neg U];by_cases aa:i=j
     ·rw[if_pos aa,if_pos aa]
     ·rw[if_neg aa,if_neg aa,if_neg aa];by_cases au:i-1=j
      ·rw[if_pos au,if_pos au,QL]
      ·rw[if_neg au,if_neg au];rfl
  have w4:jR V ((((aO.mk mL.2.1 V.g V.t).put (i-1) mL.2.2).put i .dead).put m (.map ko es)):=by
   refine⟨rfl,fp aK sg,fun j aU=> ?_⟩;rw[fS,fS,fS,if_neg (by omega),if_neg (by omega),if_neg (by omega)];rfl
  refine AT (fun e ag ar=>nc ar fun w e ag hw=> ?_) (xg _ _ _ _ r4 bo aL _ e (.tuple [.bool false]) P3 mR (aY.g_ _ rfl));obtain⟨ai,W,HT,⟨ad,hw⟩,xm⟩:=hw;have hw:l2 bo aL _ bU w e ag:=⟨ai,W,HT,hw,xm⟩;cases w with
  |normal=>exact absurd rfl ad
  |exit id=>exact hw.next bz w4
  |ret=>exact hw.next bz w4
 ·obtain⟨e1,tG,xq,zG⟩:=bS.at aU;rcases Fz with⟨zm,_⟩|⟨cm,k3,B_,amo⟩
  case inl=>rw[zm]at tG;simp at tG
  obtain⟨f,r,tr⟩:∃f r,left=f::r:=by
   cases left with
   |nil=>exact absurd rfl cm
   |cons f r=>exact⟨f,r,rfl⟩
  have Zs:(bif nG i (c7 env s)then zS ((tR left).map (LZ run i m ko es V.t env hS o (Ag run s i m ko es V.t left.length)))else none)=some k3:=by
   rw[tr]at B_⊢;exact B_
  have an6:nG i (c7 env s)=true:=by rw[mq];exact yF i
  rw[an6,cond_true]at Zs;obtain⟨ahs,et,eY⟩:=acs Zs _ (eO.2 ⟨_,Tx tG,rfl⟩);unfold LZ at et;cases hG:e1.1.plain with
  |false=>simp only[hG]at et;cases et
  |true=>
  simp only[hG,cond_true]at et;unfold ae0 at et;split at et
  case h_2=>cases et
  rename_i iW gL zt;cases FD:yU (gL.at i) (.iter m ko es (left.eraseIdx j) (some e1))with
  |false=>rw[FD]at et;cases et
  |true=>
  rw[FD,cond_true]at et;have FD:=XM FD;have FU:0<left.length:=by rw[tr];simp
  have sa:j<left.length:=(hn.1 tG).1;have cl:(left.eraseIdx j).length+1=left.length:=by rw[List.length_eraseIdx_of_lt sa];omega
  have CD:(cx hS left cur o).at i≠.dead:=by rw[wu,if_pos rfl];intro aF;cases aF
  obtain⟨b3,cI⟩:=pX.put (bp:=ag.c5 z.b (.iter (some y.b) es' (iK.eraseIdx j) (some cE))) a' CD (by rw[tq];exact Nat.le_of_lt lU) (nX ag z.b _) (o:=.iter m ko es (left.eraseIdx j) (some e1))
   ⟨y,es',_,_,bg,bl,bS.erase j,⟨cE.2,zG,by rw[←xq]⟩,by rw[uB,de,cy],eC,iM⟩
  have P3:cT bo aL ⟨hS,i-1,x2 V.t i o (.iter m ko es (left.eraseIdx j) (some e1))⟩ (ag.c5 z.b (.iter (some y.b) es' (iK.eraseIdx j) (some cE))):=by
   refine b3.less (by show i-1≤hS;omega) (by show(cx hS left cur o).n≤hS;rw[tq];exact b1 _) fun w=>.inl ?_
   rw[fS,wu];show cg.get .dead (x2 V.t i o _) w=_;rw[T3];by_cases aa:i=w
   ·rw[if_pos aa,if_pos aa]
   ·rw[if_neg aa,if_neg aa,if_neg aa];rfl
  have ar:aY aL (.tuple [.bool true,e1.1,e1.2]) (.tuple [.bool true,cE.1,cE.2]):=by
   rw[xq];exact aY.pair hG rfl zG
  refine AT (fun e ag ar=>nc ar fun w e ag hw=> ?_) (xg _ _ _ (fun a b c=>a=.normal∧b=iW∧c=gL) (by
   have aF:run (some (.tuple [.bool true,e1.1,e1.2])) env ⟨hS,i-1,x2 V.t i o (.iter m ko es (left.eraseIdx j) (some e1))⟩=.done .normal iW gL:=zt;rw[aF];exact⟨rfl,rfl,rfl⟩) bo aL _ e _ P3 mR ar)
  obtain⟨ex,avC,lG,⟨rfl,he,w6⟩,hc,fJ,yn,MR⟩:=hw;rw[w6]at fJ yn;rw[he]at MR;refine(?_:mJ (fun bP bp=>∃m,m<k∧Inv m bP bp) e ag);have B7:hS≤gL.n:=fJ.n;obtain⟨akS,avB,f1,f2,f3⟩:=enter (left.eraseIdx j) iW gL.n lG (some e1) (gL.at (i-1)) e ag ahs (bz.trans hc) (fp aK B7) (by
   refine yn.less ?_ ?_ fun w=> ?_
   ·rw[tq];show V.g≤gL.n;have:=a1.BQ;omega
   ·rw[tq];exact b1 _
   ·rw[wu];by_cases aa:i=w
    ·subst aa;rw[if_pos rfl,FD];exact .inl rfl
    ·rw[if_neg aa];by_cases au:i-1=w
     ·subst au;rw[if_pos rfl];exact .inl rfl
     ·rw[if_neg au];by_cases hw:w<i-1
      ·left;have:=fJ.iJ w hw;rw[this];show _=cg.get .dead (x2 V.t i o _) w;rw[T3,if_neg aa,if_neg au];rfl
      ·exact .inr (a1.akL (by omega))) MR (by rw[cl];exact et) (eY.trans amo)
  exact⟨akS,avB,f1,f2,_,by omega,f3⟩
theorem asK {run:Option ab→dd} {b:fK} (b6:kh P run b) (ae:b.ha=true) {d:Option Nat} {s:Nat} {l:List ca} {q:fK} (aj:b=.seq (.region (⟨d,none,.next (.tmp s)⟩::l)) q)
  {env:aP} {V:aO} {bU:dT→aP→aO→Prop} (h:(CG run s env V (c7 env s)).all bU) {bo:a8} {R:cV} {ag:a8} {aR:bt} (a1:cT bo R V ag) (aC:cq R env aR):jy P (.loop b) (l2 bo R V bU) aR ag:=by
 have xg:=(b6 ae).2 d s l q aj;have r6:=Fl bU;unfold CG at h;split at h
 case h_2=>cases h
 rename_i i hs;unfold KN at h;split at h
 case h_3=>cases h
 case h_2=>
  rename_i bM;obtain⟨lU,h⟩:=gO (bA:=fun r=>r.all bU) h r6;rw[fT,decide_eq_true_eq]at lU;have r4:=GC h;obtain⟨z,a',ot⟩:=U6 aC hs;obtain⟨nS,fZ,g5,_⟩:=a1.get bM (by intro aF;cases aF)
  rw[a']at fZ;cases fZ;obtain⟨de,cy,e5⟩:=ig (show ag.fL z.b=(none,none,some (.iter none [] [] none))from g5)
  obtain⟨b3,cI⟩:=a1.put (bp:=ag.c5 z.b .eL) a' (by rw[bM];intro aF;cases aF) lU (nX ag z.b _) (o:=.dead) trivial
  refine⟨fun _ cE Vw=>cE=aR∧Vw=ag,⟨0,Bz ⟨rfl,rfl⟩⟩,?_⟩;rintro k cE Vw ⟨rfl,rfl⟩;subst aj;show bH P (.next (.tmp s)) d (pC P l (jy P q (dT.then (mJ fun bP bp=>∃m,m<k∧_) (l2 bo R V bU)))) cE Vw;simp only[bH,ot];refine⟨none,[],[],none,e5,(fun r ah=>by cases ah),fun _=> ?_,fun j cE aU=>(by simp at aU)⟩
  refine AT (fun e ag ar=>nc ar fun w e ag hw=> ?_) (xg _ _ _ _ r4 bo R _ cE (.tuple [.bool false]) b3 aC (aY.g_ _ rfl));obtain⟨ai,W,HT,⟨ad,hw⟩,xm⟩:=hw;have hw:l2 bo R _ bU w e ag:=⟨ai,W,HT,hw,xm⟩;cases w with
  |normal=>exact absurd rfl ad
  |exit id=>exact hw.next (.refl _) cI
  |ret=>exact hw.next (.refl _) cI
 rename_i m ko es left Ol bM;obtain⟨av,h⟩:=gO (bA:=fun r=>r.all bU) h r6;simp only[dF,fT,decide_eq_true_eq]at av;obtain⟨lU,w_,lk⟩:=av;have ab8:∀{V:aO},zE (V.at m)=true→V.at m=.eL:=by
  intro V ak;unfold zE at ak;split at ak
  ·assumption
  ·cases ak
 have lk:=ab8 lk;have JX:i≠m:=by rintro rfl;rw[bM]at lk;cases lk
 obtain⟨Inv,y7⟩:∃Inv:Nat→bt→a8→Prop,Inv=fun k e ag=>∃left env V' aL cur,k=left.length∧R.dY aL∧jR V V'∧cT bo aL V' ag∧cq aL env e∧V'.at i=.iter m ko es left cur∧V'.at m=.eL∧
   (xW run s i m ko es (left.length+1) left env V').all bU:=⟨_,rfl⟩
 refine⟨Inv,⟨left.length,Bz (by rw[y7];exact⟨left,env,V,R,Ol,rfl,.refl _,.refl _,a1,aC,bM,lk,h⟩)⟩,?_⟩
 intro k e ag o5;rw[y7]at o5;obtain⟨left,env,V',aL,cur,aq,bz,w4,pX,mR,bM,lk,jk⟩:=o5;have lU:V'.g≤i:=by rw[w4.g];exact lU
 have w_:V'.g≤m:=by rw[w4.g];exact w_
 have mq:c7 env s=.val (.ptr i 0):=by
  cases left with
  |nil=>exact Kk (gO (bA:=fun r=>r.all bU) jk r6).1
  |cons cE r=>exact Kk (gO (bA:=fun r=>r.all bU) jk r6).1
 obtain⟨z,a',ot⟩:=U6 mR mq;obtain⟨y,es',iK,jV,bg,bl,bS,cP,de,cy,e5,eC,iM⟩:=RK pX (i:=i) bM a';have CD:V'.at i≠.dead:=by rw[bM];intro aF;cases aF
 obtain⟨eR,ev,jz,_⟩:=pX.get lk (by intro aF;cases aF)
 rw[bg]at ev;cases ev;obtain⟨ep,dV,jJ⟩:=ig (show ag.fL y.b=(none,none,some .eL)from jz)
 subst aj;show bH P (.next (.tmp s)) d (pC P l (jy P q (dT.then (mJ fun bP bp=>∃m,m<k∧Inv m bP bp) (l2 bo R V bU)))) e ag;simp only[bH,ot];refine⟨some y.b,es',iK,jV,e5,fun r ah=>by cases ah;exact jJ,fun ak=> ?_,fun j cE aU=> ?_⟩
 ·have tx:left=[]:=by
   have:=bS.length;rw[ak]at this;exact wv.1 this.symm
  subst tx;have r4:=GC (gO (bA:=fun r=>r.all bU) jk r6).2;obtain⟨b3,cI⟩:=pX.put (bp:=ag.c5 z.b .eL) a' CD lU (nX ag z.b _) (o:=.dead) trivial;have Rq:y.b≠z.b:=by intro aF;rw[aF,e5]at jJ;cases jJ
  have qT:=ig (nX ag z.b .eL y.b Rq);obtain⟨cp,b_⟩:=b3.put (bp:=(ag.c5 z.b .eL).c5 y.b (.map es')) bg (by rw[fS,if_neg JX,lk];intro aF;cases aF) w_ (nX _ y.b _) (o:=.map ko es)
   ⟨es',bl,by rw[uB,qT.1,qT.2.1,ep,dV],eC,iM⟩
  have Yz:jR V' ((V'.put i .dead).put m (.map ko es)):=cI.trans b_;refine AT (fun e ag ar=>nc ar fun w e ag hw=> ?_) (xg _ _ _ _ r4 bo aL _ e (.tuple [.bool false]) cp mR (aY.g_ _ rfl));obtain⟨ai,W,HT,⟨ad,hw⟩,xm⟩:=hw;have hw:l2 bo aL _ bU w e ag:=⟨ai,W,HT,hw,xm⟩;cases w with
  |normal=>exact absurd rfl ad
  |exit id=>exact hw.next bz (w4.trans Yz)
  |ret=>exact hw.next bz (w4.trans Yz)
 ·obtain⟨e1,tG,xq,zG⟩:=bS.at aU;have sa:j<left.length:=(hn.1 tG).1;have cl:(left.eraseIdx j).length+1=left.length:=by rw[List.length_eraseIdx_of_lt sa];omega
  obtain⟨f,r,tr⟩:∃f r,left=f::r:=by
   cases left with
   |nil=>simp at tG
   |cons f r=>exact⟨f,r,rfl⟩
  have amv:(bif nG i (c7 env s)then yw ((tR left).map (LY run i m ko es env V' (xW run s i m ko es left.length)))else .bad:bj).all bU:=by
   rw[tr]at jk⊢;exact jk
  have pb:=VQ (gO (bA:=fun r=>r.all bU) amv r6).2 _ (eO.2 ⟨_,Tx tG,rfl⟩);unfold LY at pb;obtain⟨hG,pb⟩:=gO (bA:=fun r=>r.all bU) pb r6;have zt:=PJ pb;obtain⟨b3,cI⟩:=pX.put (bp:=ag.c5 z.b (.iter (some y.b) es' (iK.eraseIdx j) (some cE))) a' CD lU (nX ag z.b _) (o:=.iter m ko es (left.eraseIdx j) (some e1))
   ⟨y,es',_,_,bg,bl,bS.erase j,⟨cE.2,zG,by rw[←xq]⟩,by rw[uB,de,cy],eC,iM⟩
  have ar:aY aL (.tuple [.bool true,e1.1,e1.2]) (.tuple [.bool true,cE.1,cE.2]):=by
   rw[xq];exact aY.pair hG rfl zG
  refine AT (fun e ag ar=>nc ar fun w e ag hw=> ?_) (xg _ _ _ _ zt bo aL _ e _ b3 mR ar);obtain⟨iW,gL,lG,⟨rfl,r8⟩,hc,fJ,yn,MR⟩:=hw;obtain⟨pd,r8⟩:=gO (bA:=fun r=>r.all bU) r8 r6;unfold Hf at pd;simp only[dF]at pd;refine(?_:mJ (fun bP bp=>∃m,m<k∧Inv m bP bp) e ag);refine Bz ⟨(left.eraseIdx j).length,by omega,?_⟩
  rw[y7];exact⟨_,iW,gL,lG,some e1,rfl,bz.trans hc,w4.trans (cI.trans fJ),yn,MR,@of_decide_eq_true _ (Classical.propDecidable _) pd.1,ab8 pd.2,by rw[cl];exact r8⟩
theorem yO {call:Nat→dw} (af:∀f,hz P f (call f)) (md:Bool) (n:Nat):∀b:fK,kh P (jE md b call n) b
 |.skip=>fun _=>⟨fun env V bU h bo R ag aR a1 aC=>⟨env,V,R,h,.refl _,.refl _,a1,aC⟩,fun d s l q aj=>by cases aj⟩
 |.exit id=>fun _=>⟨fun env V bU h bo R ag aR a1 aC=>⟨env,V,R,h,.refl _,.refl _,a1,aC⟩,fun d s l q aj=>by cases aj⟩
 |.ret=>fun _=>⟨fun env V bU h bo R ag aR a1 aC=>⟨env,V,R,h,.refl _,.refl _,a1,aC⟩,fun d s l q aj=>by cases aj⟩
 |.region ops=>fun ae=>⟨fun env V bU h bo R ag aR a1 aC=>by
   have h:(vD call ops (.done .normal) env V).all bU:=h;refine Tm (bA:=fun r=>r.all bU) af (Fl bU) (fun o ay=>dI.1 ae o ay) ?_ a1 aC h;intro aL env V' aR ag U aa au ba cb;exact⟨env,V',aL,cb,U,aa,au,ba⟩,fun d s l q aj=>by cases aj⟩
 |.drawn W ops=>fun ae=>⟨fun env V bU h bo R ag aR a1 aC=>by
   have h:(OQ call W ops (.done .normal) env V).all bU:=h;refine akM (bA:=fun r=>r.all bU) af (Fl bU) (fun o ay=>dI.1 ae o ay) ?_ a1 aC h;intro aL env V' aR ag U aa au ba cb;exact⟨env,V',aL,cb,U,aa,au,ba⟩,fun d s l q aj=>by cases aj⟩
 |.seq a b=>fun ae=>by
  simp only[fK.ha,dF]at ae;have ou:=yO af md n a ae.1;have nF:=yO af md n b ae.2;refine⟨fun env V bU h bo R ag aR a1 aC=> ?_,fun d s l q aj v env V bU h bo R ag aR jx a1 aC ar=> ?_⟩
  ·have h:=Hp (b:=jE md b call n none) (r:=jE md a call n none env V) h;show jy P a (dT.then (jy P b (l2 bo R V bU)) (l2 bo R V bU)) aR ag;refine nc (ou.1 _ _ _ h bo R ag aR a1 aC) ?_;rintro z bL M0 ⟨iW,gL,lG,⟨az,ao⟩,U,aa,au,ba⟩;cases z with
   |normal=>exact nc (nF.1 _ _ _ (az rfl) bo lG M0 bL au ba) fun z e ag a'=>a'.next U aa
   |exit id=>exact⟨iW,gL,lG,ao (by intro aF;cases aF),U,aa,au,ba⟩
   |ret=>exact⟨iW,gL,lG,ao (by intro aF;cases aF),U,aa,au,ba⟩
  ·cases aj;have h:=Hp (b:=jE md b call n none) (r:=vD call l (.done .normal) (dc d (.val v) env) V) h;have hG:∀o∈l,o.op.ha=true:=fun o ay=>dI.1 ae.1 o (cv _ ay);refine Tm (bA:=fun r=>r.all _) af (Fl _) hG ?_ a1 (aC.set d (.dx ar)) h;intro aL env V' aR ag U aa au ba cb;exact nc (nF.1 _ _ _ (cb.1 rfl) bo aL ag aR au ba) fun z e ag a'=>a'.next U aa
 |.cond c a b=>fun ae=>by
  simp only[fK.ha,dF]at ae;have ou:=yO af md n a ae.2.1;have nF:=yO af md n b ae.2.2;refine⟨fun env V bU h bo R ag aR a1 aC=> ?_,fun d s l q aj=>by cases aj⟩
  have h:(Oe (bV c env) (jE md a call n none) (jE md b call n none) env V).all bU:=h;have ad:=dA aC ae.1;cases he:bV c env with
  |box cs=>rw[he]at h;cases h
  |b7 s o=>rw[he]at h;cases h
  |val v=>
   rw[he]at h ad;cases v<;>first|cases h|skip
   rename_i t;obtain⟨v,az,ao⟩:=ad.cJ;simp only[aY]at az;subst az;unfold jy;simp only[ao];cases t with
   |true=>exact⟨fun _=>ou.1 _ _ _ h bo R ag aR a1 aC,fun aF=>(by cases aF)⟩
   |false=>exact⟨fun aF=>(by cases aF),fun _=>nF.1 _ _ _ h bo R ag aR a1 aC⟩
 |.block id b=>fun ae=>by
  have bm:=yO af md n b ae;refine⟨fun env V bU h bo R ag aR a1 aC=> ?_,fun d s l q aj=>by cases aj⟩
  have h:=NC (r:=jE md b call n none env V) h;show jy P b (dT.inBlock id (l2 bo R V bU)) aR ag;refine nc (bm.1 _ _ _ h bo R ag aR a1 aC) ?_;rintro z bL M0 ⟨iW,gL,lG,h,U,aa,au,ba⟩;cases z with
  |normal=>exact⟨iW,gL,lG,h,U,aa,au,ba⟩
  |exit i=>
   have h:(bif Nat.beq i id then bj.done .normal iW gL else .done (.exit i) iW gL:bj).all bU:=h
   show(bif i==id then l2 bo R V bU .normal else l2 bo R V bU (.exit i)) bL M0
   rw[gY]at h;by_cases hi:i=id
   ·rw[decide_eq_true hi]at h;have:(i==id)=true:=by simpa using hi
    rw[this];exact⟨iW,gL,lG,h,U,aa,au,ba⟩
   ·rw[decide_eq_false hi]at h;have:(i==id)=false:=by simpa using hi
    rw[this];exact⟨iW,gL,lG,h,U,aa,au,ba⟩
  |ret=>exact⟨iW,gL,lG,h,U,aa,au,ba⟩
 |.loop b=>fun ae=>by
  have bm:=yO af md n b;refine⟨fun env V bU h bo R ag aR a1 aC=> ?_,fun d s l q aj=>by cases aj⟩
  have h:(KO md (vw b) (jE md b call n) n env V).all bU:=h;cases hs:vw b with
  |some s=>
   rw[hs]at h;obtain⟨d,l,q,aj⟩:=ard hs;cases md with
   |false=>exact asJ bm ae aj h a1 aC
   |true=>exact asK bm ae aj h a1 aC
  |none=>
   rw[hs]at h;have h:(sx (jE md b call n none) n env V).all bU:=h;refine⟨fun m e ag=>∃aL env V',R.dY aL∧jR V V'∧cT bo aL V' ag∧cq aL env e∧(sx (jE md b call n none) m env V').all bU,⟨n,Bz ⟨R,env,V,.refl _,.refl _,a1,aC,h⟩⟩,?_⟩;rintro m e ag ⟨aL,bP,V',U,aa,au,ba,cb⟩;cases m with
   |zero=>cases cb
   |succ m=>
    have cb:=Hp (b:=sx (jE md b call n none) m) (r:=jE md b call n none bP V') cb;refine nc ((bm ae).1 _ _ _ cb bo aL ag e au ba) ?_;rintro z bL M0 ⟨iW,gL,lG,⟨az,ao⟩,bd,bx,bT,dp⟩;cases z with
    |normal=>exact Bz ⟨m,gT m,lG,iW,gL,U.trans bd,aa.trans bx,bT,dp,az rfl⟩
    |exit id=>exact⟨iW,gL,lG,ao (by intro aF;cases aF),U.trans bd,aa.trans bx,bT,dp⟩
    |ret=>exact⟨iW,gL,lG,ao (by intro aF;cases aF),U.trans bd,aa.trans bx,bT,dp⟩
theorem O3 {dg:kF} {bU:ab→aO→Prop}:∀{r:bj},(Jd dg r).all bU→r.all fun x env V=>(E4 dg x env V).all bU
 |.bad,h=>h
 |.alt _ _,h=>⟨O3 h.1,O3 h.2⟩
 |.done _ _ _,h=>h
theorem afh (hm:P.follows .mixedOrders=true) {call:Nat→dw} (af:∀f,hz P f (call f)) {md:Bool} {f:Nat} {fn:Func} {esc:List Nat} {dg:kF} (ax:P.funcs[f]? =some fn) (aA:xJ P esc fn=some dg) (aK:(fn.body.isSome&&fn.name != "runtime.NumGoroutine")=true) (ae:dg.body.ha=true):hz P f (Al md call dg):=by
 intro as V bU h;refine⟨⟨fn,ax,aK⟩,fun bo R ag bs a1 ar=> ?_⟩;unfold Al at h;cases cl:Nat.ble (j9 as 0) dg.n with
 |false=>rw[cl]at h;cases h
 |true=>
  rw[cl,cond_true]at h;rw[fT,m3,fy,decide_eq_true_eq]at cl;refine ai0 hm ax aA (by rw[ar.length];exact cl) (nc ((yO af md kZ dg.body ae).1 _ _ _ (O3 h) bo R ag _ a1 (ajj ar)) ?_)
  rintro y aN aha ⟨BD,uq,dQ,r4,U,aa,au,ba⟩;have fin:(Pr uq (tW BD uq dg.res)).all bU→LV aN aha dg.res fun b=>∃a V' aL,bU a V'∧R.dY aL∧jR V V'∧cT bo aL V' aha∧aY aL a b:=by
   intro qV;cases ah:tW BD uq dg.res with
   |none=>rw[ah]at qV;cases qV
   |some rs=>
    rw[ah]at qV;have qV:bU (AR rs) uq:=qV;obtain⟨oW,bf,c2⟩:=aeU au ba ah;refine c2 _ ?_
    match rs,oW,bf,qV with
    | [],oW,bf,qV=>
     rw[bf.js];exact⟨_,uq,dQ,qV,U,aa,au,aY.g_ _ rfl⟩
    | [cc],oW,bf,qV=>
     obtain⟨y,ys,d1,d2,rfl⟩:=bf.cons_inv;rw[d2.js];exact⟨_,uq,dQ,qV,U,aa,au,d1⟩
    |cc::b4::rs,oW,bf,qV=>
     have EA:=bf;obtain⟨y,ys,d1,d2,rfl⟩:=bf.cons_inv;obtain⟨z,fm,d3,d4,rfl⟩:=d2.cons_inv;exact⟨_,uq,dQ,qV,U,aa,au,by show aY dQ (.tuple (cc::b4::rs)) (.tuple (y::z::fm));simp only[aY];exact⟨_,EA,rfl⟩⟩
  cases y with
  |exit id=>cases r4
  |normal=>exact fin r4
  |ret=>exact fin r4
theorem ajZ (hm:P.follows .mixedOrders=true) (fG:um P T) {call:Nat→dw} (af:∀f,hz P f (call f)) (f:Nat):hz P f (wF call (cg.get .none T f)):=by
 have:=fG f;cases av:cg.get .none T f with
 |none=>intro as V bU h;cases h
 |told g=>rw[av]at this;exact this
 |code dg=>
  rw[av]at this;obtain⟨fn,esc,U,aa,au,ba⟩:=this;exact afh hm af U aa au ba
 |EY dg=>
  rw[av]at this;obtain⟨fn,esc,U,aa,au,ba⟩:=this;exact afh hm af U aa au ba
theorem NT (hm:P.follows .mixedOrders=true) (fG:um P T):∀n f,hz P f (jg T n f)
 |0,f=>fun as V bU h=>by cases h
 |n+1,f=>ajZ hm fG (NT hm fG n) f
theorem hz.aei {f:Nat} {c:dw} (af:hz P f c) {as bs:List ab} {bU:ab→aO→Prop} (h:(c as ⟨0,0,.dL⟩).all bU) (ar:bW (fun _=>none) as bs) (ae:∀a V,bU a V→a.shut.plain=true) (ag:a8):
  hL P f bs ag fun b dR=>(∃a V,bU a V∧b=a.shut)∧dR=ag:=by
 have a1:cT ag (fun _=>none) ⟨0,0,.dL⟩ ag:=by
  have dead:∀i,aO.at ⟨0,0,.dL⟩ i=.dead:=fun i=>cg.PH _ _;exact⟨b1 _,fun i x ad=>(by cases ad),fun i hi=>absurd (dead i) hi,fun i j x y hi=>absurd (dead i) hi,.refl _⟩
 refine((af as _ bU h).2 ag _ ag bs a1 ar).agZ ?_;rintro b dR ⟨a,V',aL,ZD,_,_,au,ba⟩;refine⟨a.shut,ag,?_,au.sub,⟨a,V',ZD,rfl⟩,rfl⟩;rw[←aY.aen (aY.shut a ba) (ae a V' ZD)];exact ab.ly b
theorem hz.plain {f:Nat} {c:dw} (af:hz P f c) {as bs:List ab} {a:ab} {V':aO} (h:c as ⟨0,0,.dL⟩=.jX a V') (ar:bW (fun _=>none) as bs) (ae:a.shut.plain=true) (ag:a8):
  hL P f bs ag fun b dR=>b=a.shut∧dR=ag:=
 (af.aei (bU:=fun x _=>x=a) (by rw[h];rfl) ar (fun x _ ad=>ad▸ae) ag).mono fun b dR ⟨⟨x,_,ad,aj⟩,aw⟩=>⟨by rw[aj,ad],aw⟩
end
end Go.bO
