/-
  AN ABSTRACT LOGIC OVER THE MODEL, part 21: the evaluator's operations that look at the objects, or turn them, are those of the model.
-/
import Derived.Test.YthjhmfhmejlenaaGreatAL18
set_option linter.unusedSectionVars false
set_option linter.unusedVariables false
set_option linter.unusedSimpArgs false
section
namespace Go.bO
open Go.RowKit
structure Good (bA:bj→Prop):Prop where
 bad:¬bA .bad
 alt:∀{a b:bj},bA (.alt a b)→bA a∧bA b
theorem gO {c:Bool} {A:bj} {bA:bj→Prop} (h:bA (bif c then A else .bad)) (ah:Good bA):c=true∧bA A:=by
 cases c with
 |false=>exact absurd h ah.bad
 |true=>exact⟨rfl,h⟩
theorem oB {α:Type} {o:Option α} {f:α→bj} {bA:bj→Prop} (h:bA (@Option.rec α (fun _=>bj) .bad f o)) (ah:Good bA):∃a,o=some a∧bA (f a):=by
 cases o with
 |none=>exact absurd h ah.bad
 |some a=>exact⟨a,rfl,h⟩
def e7 (bo:a8) (R:cV) (V:aO) (k:bI) (bA:bj→Prop) (K:bt→a8→Prop):Prop:=
 ∀aL env V' aR ag,R.dY aL→jR V V'→cT bo aL V' ag→cq aL env aR→bA (k env V')→K aR ag
theorem e7.next {bo:a8} {R aL:cV} {V V':aO} {k:bI} {bA:bj→Prop} {K:bt→a8→Prop} (h:e7 bo R V k bA K) (bz:R.dY aL) (av:jR V V'):e7 bo aL V' k bA K:=
 fun v8 env Ee aR ag U aa au ba cb=>h v8 env Ee aR ag (bz.trans U) (av.trans aa) au ba cb
theorem ef.top {R:cV}:ef R (.val .top) (.val .top):=⟨.top,by simp only[aY],rfl⟩
section
variable {P:Program} {bo:a8} {R:cV} {V:aO} {ag:a8} {env:aP} {aR:bt} {k:bI} {bA:bj→Prop} {K:bt→a8→Prop} {d:Option Nat}
theorem e7.fin (aq:e7 bo R V k bA K) (a1:cT bo R V ag) (aC:cq R env aR) {x y:aJ} (ad:ef R x y) (h:bA (k (dc d x env) V)):K (aR.set d y) ag:=
 aq R _ V _ ag (.refl _) (.refl _) a1 (aC.set d ad) h
theorem e7.n' (aq:e7 bo R V k bA K) (aC:cq R env aR) {aL:cV} {V':aO} {bp:a8} (bz:R.dY aL) (av:jR V V') (a1:cT bo aL V' bp) {x y:aJ} (ad:ef aL x y) (h:bA (k (dc d x env) V')):K (aR.set d y) bp:=
 aq aL _ V' _ bp bz av a1 ((aC.mono bz).set d ad) h
theorem er (aq:e7 bo R V k bA K) (ah:Good bA) (a1:cT bo R V ag) (aC:cq R env aR) {m:aP→Option aJ} {o:a2} (av:∀e,m env=some e→rC P o aR R e) (h:bA (dN m d k env V)) (W:List Nat):
  bH P o d K aR ag∧f_ P W o d K aR ag:=by
 obtain⟨e,U,aa⟩:=oB h ah;obtain⟨f,az,ao⟩:=av e U;exact ao d K ag W (aq.fin a1 aC az aa)
theorem I5 {ds rest:List ab} {o n:Nat} (h:o+n≤ds.length):((ds++rest).drop o).take n=(ds.drop o).take n:=by
 rw[Xs (by omega),OV (by rw[nk];omega)]
theorem afR {ds rest vs:List ab} {o:Nat} (h:o+vs.length≤ds.length):ft (ds++rest) o vs=ft ds o vs++rest:=by
 unfold ft;rw[OV (by omega),Xs (by omega)]
 simp[pL]
theorem afS {ds vs:List ab} {o:Nat} (h:o+vs.length≤ds.length):(ft ds o vs).length=ds.length:=by
 unfold ft;simp only[iz,nm,nk];omega
theorem N4 (a1:cT bo R V ag) {i:Nat} {cs:List ab} (h:i' V i=some cs):∃x ds rest,R i=some x∧bW R cs ds∧ag.obj x.b=some (ds++rest):=by
 unfold i' at h;rw[aj9]at h;unfold WU at h;split at h
 ·rename_i cU bQ;cases h;obtain⟨x,U,⟨ds,aa,au⟩,_⟩:=a1.get bQ (by intro aF;cases aF)
  exact⟨x,ds,[],U,aa,by rw[wB];exact(ig au).1⟩
 ·rename_i sz cU bQ;cases h;obtain⟨x,U,⟨ds,aa,au,_⟩,_⟩:=a1.get bQ (by intro aF;cases aF)
  exact⟨x,ds,x.rest,U,aa,(ig au).1⟩
 ·cases h
theorem aeW {o:Option ab} (h:bA (vL d k env V o)) (ah:Good bA):∃a,o=some a∧bA (k (dc d (.val a) env) V):=oB h ah
theorem Sb {agg:Bool} {n o:Nat} {x y:aJ} (ad:ef R x y) {v:ab} (h:xt agg n o x=some v):∃cs,y=.box cs∧o+n≤cs.length∧aY R v (gh agg ((cs.drop o).take n)):=by
 rw[Sa]at h;unfold acb at h;split at h
 ·obtain⟨ds,U,rfl⟩:=ad.Bb;obtain⟨aa,rfl⟩:=Tu h;exact⟨ds,rfl,by rw[U.length];exact aa,aY.CK agg ((U.drop o).take n)⟩
 ·cases h
theorem Sc (a1:cT bo R V ag) {agg:Bool} {n o i:Nat} {v:ab} (h:vp agg n o (i' V i)=some v):∃x cs,R i=some x∧ag.obj x.b=some cs∧o+n≤cs.length∧aY R v (gh agg ((cs.drop o).take n)):=by
 cases af:i' V i with
 |none=>rw[af]at h;cases h
 |some cs=>
  rw[af]at h;have h:partAt agg n o cs=some v:=h;obtain⟨x,ds,rest,U,aa,au⟩:=N4 a1 af;obtain⟨ba,rfl⟩:=Tu h;have ak:=aa.length;exact⟨x,_,U,au,by rw[iz];omega,by rw[I5 (by omega)];exact aY.CK agg ((aa.drop o).take n)⟩
theorem aqD (aq:e7 bo R V k bA K) (ah:Good bA) (a1:cT bo R V ag) (aC:cq R env aR) {agg:Bool} {n:Nat} {x:aG} (ae:x.plain=true) (h:bA (Lo agg n x d k env V)):bH P (.load agg n x) d K aR ag:=by
 obtain⟨a,U,aa⟩:=aeW h ah;have ad:=dA aC ae;rw[KL]at U;unfold Gq at U;split at U
 ·rename_i i o bQ;rw[bQ]at ad;obtain⟨v,az,ao⟩:=ad.cJ;simp only[aY]at az;obtain⟨z,a',rfl⟩:=az;obtain⟨y,cs,bd,bx,bT,dp⟩:=Sc a1 U;rw[a']at bd;cases bd;simp only[bH,ao];exact⟨cs,bx,bT,aq.fin a1 aC (.dx dp) aa⟩
 ·rename_i cs bQ;rw[bQ]at ad;obtain⟨v,az,ao⟩:=ad.cJ;simp only[aY]at az;obtain⟨ds,aQ,rfl⟩:=az;obtain⟨bd,rfl⟩:=Tv U;simp only[bH,ao];exact⟨by rw[aQ.length];exact bd,aq.fin a1 aC (.dx (aY.CK agg (aQ.take n))) aa⟩
 ·rename_i s o bQ;rw[bQ]at ad;have ao:=ad.q9;obtain⟨cs,bd,bx,bT⟩:=Sb (aC s) U;simp only[bH,ao,bd];exact⟨bx,aq.fin a1 aC (.dx bT) aa⟩
 ·cases U
theorem aqy (aq:e7 bo R V k bA K) (ah:Good bA) (a1:cT bo R V ag) (aC:cq R env aR) {W:List Nat} {agg:Bool} {n:Nat} {x:aG} (ae:x.plain=true) (h:bA (ado W agg n x d k env V)):f_ P W (.load agg n x) d K aR ag:=by
 obtain⟨a,U,aa⟩:=aeW h ah;have ad:=dA aC ae;unfold Sd at U;split at U
 ·rename_i s o bQ;rw[bQ]at ad;have ao:=ad.q9;cases hw:W.contains s with
  |true=>rw[hw]at U;cases U
  |false=>
   rw[hw,cond_false]at U;obtain⟨cs,bd,bx,bT⟩:=Sb (aC s) U;simp only[f_,ao,bd];exact⟨hw,bx,aq.fin a1 aC (.dx bT) aa⟩
 ·have U:xu agg n env V (bV x env)=some a:=U;rw[KL]at U;unfold Gq at U;split at U
  ·rename_i i o bQ;rw[bQ]at ad;obtain⟨v,az,ao⟩:=ad.cJ;simp only[aY]at az;obtain⟨z,a',rfl⟩:=az;obtain⟨y,cs,bd,bx,bT,dp⟩:=Sc a1 U;rw[a']at bd;cases bd;simp only[f_,ao];exact⟨cs,bx,bT,aq.fin a1 aC (.dx dp) aa⟩
  ·rename_i cs bQ;rw[bQ]at ad;obtain⟨v,az,ao⟩:=ad.cJ;simp only[aY]at az;obtain⟨ds,aQ,rfl⟩:=az;obtain⟨bd,rfl⟩:=Tv U;simp only[f_,ao];exact⟨by rw[aQ.length];exact bd,aq.fin a1 aC (.dx (aY.CK agg (aQ.take n))) aa⟩
  ·rename_i bQ;exact(‹∀s o,bV x env=.b7 s o→False› _ _ bQ).elim
  ·cases U
theorem apW {s:Nat} {x y:aJ} (ad:ef R x y):ef R (RQ s x) (y.kill s):=by
 cases x with
 |val a=>obtain⟨b,U,rfl⟩:=ad.cJ;exact⟨b,U,rfl⟩
 |box cs=>obtain⟨b,U,rfl⟩:=ad.Bb;exact⟨b,U,rfl⟩
 |b7 dy o=>
  rw[ad.q9];show ef R (bif Nat.beq dy s then .val .top else .b7 dy o) (bif dy==s then .val .top else .b7 dy o)
  rw[gY];by_cases h:dy=s
  ·subst h;simp only[decide_true,cond_true,beq_self_eq_true];exact .top
  ·have:(dy==s)=false:=by simpa using h
   rw[decide_eq_false h,this];exact rfl
theorem Wy (aC:cq R env aR) {s:Nat} {cs ds:List ab} (h:bW R cs ds):cq R (Ba env s cs) (aR.nK s ds):=by
 intro t;unfold Ba;rw[I8];show ef R _ (bif t==s then .box ds else(aR t).kill s)
 by_cases im:s=t
 ·subst im;simp only[if_true,beq_self_eq_true,cond_true];exact⟨ds,h,rfl⟩
 ·have:(t==s)=false:=by simpa using fun aF=>im aF.symm
  rw[if_neg im,this,I9 rfl];exact apW (aC t)
theorem ajL (aq:e7 bo R V k bA K) (ah:Good bA) (a1:cT bo R V ag) (aC:cq R env aR) {cs:List ab} (ae:gV cs=true) (h:bA (Ta cs d k env V)):bH P (.box cs) d K aR ag:=by
 unfold Ta at h;split at h
 ·exact aq R _ V _ ag (.refl _) (.refl _) a1 (Wy aC (bW.g_ cs ae)) h
 ·exact absurd h ah.bad
theorem ajM (aq:e7 bo R V k bA K) (ah:Good bA) (a1:cT bo R V ag) (aC:cq R env aR) {x:aG} (ae:x.plain=true) (h:bA (Tb x d k env V)):bH P (.boxv x) d K aR ag:=by
 have ad:=dA aC ae;unfold Tb at h;split at h
 ·unfold Tc at h;split at h
  ·rename_i a bQ;rw[bQ]at ad;obtain⟨v,az,ao⟩:=ad.cJ;obtain⟨U,aa⟩:=gO h ah;simp only[bH,ao];exact⟨by rw[az.cells.s3];exact U,aq R _ V _ ag (.refl _) (.refl _) a1 (Wy aC az.cells) aa⟩
  ·exact absurd h ah.bad
 ·exact absurd h ah.bad
theorem Lb (a1:cT bo R V ag) {b:Nat} (aj:ag.fresh b) {bp:a8} {x:nT} (ad:x.b=b) {o:eA} (fF:ag.v' bp b) (ay:pG (R.add V.n x) bp x o):
  cT bo (R.add V.n x) (V.new o) bp∧R.dY (R.add V.n x)∧jR V (V.new o):=by
 subst ad;obtain⟨U,aa⟩:=a1.y2 aj;exact a1.new U aa fF ay
theorem KD (a1:cT bo R V ag) (x:nT):R.dY (R.add V.n x):=by
 intro i y aI;have:=a1.wP i y aI;unfold cV.add;rw[if_neg (by omega)];exact aI
theorem ac3 (aq:e7 bo R V k bA K) (a1:cT bo R V ag) (aC:cq R env aR) {cs ds:List ab} (ar:bW R cs ds) (h:bA (GN cs d k env V)):∀b,ag.fresh b→K (aR.set d (.val (.ptr b 0))) (ag.setObj b ds):=by
 intro b aj;have bz:=KD a1 ⟨b,0,[]⟩;obtain⟨U,aa,au⟩:=Lb a1 (bp:=ag.setObj b ds) aj (x:=⟨b,0,[]⟩) rfl (o:=.obj cs) (yB ag b ds) ⟨ds,ar.mono bz,by rw[A9,aj.2.1,aj.2.2]⟩
 exact aq.n' aC aa au U (.dx (by simp only[aY];exact⟨_,cV.add_get ..,rfl⟩)) h
theorem arz (aq:e7 bo R V k bA K) (a1:cT bo R V ag) (aC:cq R env aR) {cs:List ab} (ae:gV cs=true) (h:bA (GN cs d k env V)):bH P (.obj cs) d K aR ag:=
 ac3 aq a1 aC (bW.g_ cs ae) h
theorem arA (aq:e7 bo R V k bA K) (ah:Good bA) (a1:cT bo R V ag) (aC:cq R env aR) {x:aG} (ae:x.plain=true) (h:bA (Tf x d k env V)):bH P (.objv x) d K aR ag:=by
 have ad:=dA aC ae;unfold Tf Tg at h;split at h
 ·rename_i a bQ;rw[bQ]at ad;obtain⟨v,az,ao⟩:=ad.cJ;obtain⟨U,aa⟩:=gO h ah;simp only[bH,ao];exact⟨by rw[az.cells.s3];exact U,ac3 aq a1 aC az.cells aa⟩
 ·exact absurd h ah.bad
theorem K9 (aq:e7 bo R V k bA K) (a1:cT bo R V ag) (aC:cq R env aR) {xs ys:List ab} {n sz q:Nat} (ar:bW R xs ys) (aK:xs.length=n) (h:bA (GA d k env V xs n sz q)) {b:Nat} (ax:(∀j y,V.at j≠.dead→R j=some y→y.b≠b)∧bo.fresh b)
  (ay:ag.obj b=none) (hm:ag.mp b=none):K (aR.set d (.val (.slice ys false (some b)))) (ag.m_ b (n,sz,q)):=by
 have bz:=KD a1 ⟨b,n,[]⟩;obtain⟨U,aa,au⟩:=a1.new (bp:=ag.m_ b (n,sz,q)) (x:=⟨b,n,[]⟩) (o:=.cF n sz q) ax.1 ax.2 (ajR ag b _) ⟨by rw[ajF,ay,hm],rfl⟩
 exact aq.n' aC aa au U (.dx (by simp only[aY];exact⟨ys,_,ar.mono bz,⟨cV.add_get ..,aK.symm⟩,rfl⟩)) h
theorem ajO (aq:e7 bo R V k bA K) (ah:Good bA) (a1:cT bo R V ag) (aC:cq R env aR) {own:Bool} {sz q n:Nat} {z:ab} {br:List (Nat × aG)} (a':z.plain=true) (ae:∀p∈br,p.2.plain=true) (h:bA (Ll own sz q n z br d k env V)):
  bH P (.bslice own sz q n z br) d K aR ag:=by
 unfold Ll at h;cases own with
 |true=>
  rw[cond_true]at h;obtain⟨xs,U,aa⟩:=oB h ah;obtain⟨ys,az,ao,aX⟩:=Hq aC U (bW.replicate n (aY.g_ z a')) ae;simp only[bH,az,if_true];intro g av;exact K9 aq a1 aC ao (by rw[aX];simp) aa (a1.y2 av) av.1 av.2.2
 |false=>
  rw[cond_false]at h;obtain⟨xs,U,aa⟩:=oB h ah;obtain⟨ys,az,ao,aX⟩:=Hq aC U (bW.replicate n (aY.g_ z a')) ae;simp only[bH,az];exact aq.fin a1 aC (.dx (by simp only[aY];exact⟨ys,ao,rfl⟩)) aa
theorem O2 {sz:Nat}:∀{xs:List ab},sT sz xs→(xs.flatMap ab.cells).length=xs.length*sz
 | [],_=>by simp
 |x::xs,h=>by
  rw[wx,iz,O2 (fun y aI=>h y (cv _ aI)),(h x (cz ..)).1,mb,pM];omega
theorem K_ (aq:e7 bo R V k bA K) (a1:cT bo R V ag) (aC:cq R env aR) {cs ds rest:List ab} {n c sz b:Nat} (ar:bW R cs ds) (ak:(ds++rest).length=c*sz) (h:bA (GB d k env V cs n sz))
  (ax:(∀j y,V.at j≠.dead→R j=some y→y.b≠b)∧bo.fresh b) (ay:ag.cF b=none) (hm:ag.mp b=none):K (aR.set d (.val (.ref b 0 n c))) (ag.setObj b (ds++rest)):=by
 have bz:=KD a1 ⟨b,c,rest⟩;obtain⟨U,aa,au⟩:=a1.new (bp:=ag.setObj b (ds++rest)) (x:=⟨b,c,rest⟩) (o:=.row sz cs) ax.1 ax.2 (yB ag b _) ⟨ds,ar.mono bz,by rw[A9,ay,hm],ak⟩
 exact aq.n' aC aa au U (.dx (by simp only[aY];exact⟨_,cV.add_get ..,rfl⟩)) h
theorem ara (aq:e7 bo R V k bA K) (ah:Good bA) (a1:cT bo R V ag) (aC:cq R env aR) {sz q n:Nat} {z:ab} {br:List (Nat × aG)} (a':z.plain=true) (ae:∀p∈br,p.2.plain=true) (h:bA (Lr sz n z br d k env V)):
  bH P (.mslice sz q n z br) d K aR ag:=by
 unfold Lr at h;obtain⟨xs,U,aa⟩:=oB h ah;obtain⟨au,ba⟩:=gO aa ah;obtain⟨ys,az,ao,aX⟩:=Hq aC U (bW.replicate n (aY.g_ z a')) ae;simp only[bH,az];intro b aj;have hP:sT sz ys:=ao.Jc (Jb au);rw[BN]at ba;have ak:=O2 hP;rw[ao.length,aX,yM]at ak;have:=K_ (rest:=[]) (c:=n) aq a1 aC ao.flat (by rw[wB];exact ak) ba (a1.y2 aj) aj.2.1 aj.2.2
 rw[wB]at this;exact this
theorem tJ {o:eA} {i:Nat} (h:V.at i=o) (aQ:o≠.dead):V.at i≠.dead:=by rw[h];exact aQ
theorem atr (aR:bt) (s:Nat) (cs:List ab):aR.m9 s cs=fun t=>bif t==s then .box cs else aR t:=rfl
theorem aus (aq:e7 bo R V k bA K) (ah:Good bA) (a1:cT bo R V ag) (aC:cq R env aR) {n:Nat} {x v:aG} (ae:x.plain=true) (aB:v.plain=true) (h:bA (CX n x v d k env V)):bH P (.store n x v) d K aR ag:=by
 have ar:=dA aC aB;have ad:=dA aC ae;unfold CX Th at h;split at h
 case h_2=>exact absurd h ah.bad
 rename_i a bQ;rw[bQ]at ar;obtain⟨w,az,ao⟩:=ar.cJ;obtain⟨U,h⟩:=gO h ah;obtain⟨bf,c2⟩:=IM U;have hw:=az.cells;have Rj:=hw.length;have hc:w.cells.length=n:=by rw[Rj];exact bf
 have fJ:w.cells.all ab.one=true:=by rw[hw.s3];exact c2
 simp only[bH,ao];refine⟨hc,fJ,?_⟩;rw[EL,adt]at h;unfold Tj at h;split at h
 ·rename_i i o hQ;rw[hQ]at ad;obtain⟨y,bd,bx⟩:=ad.cJ;simp only[aY]at bd;obtain⟨z,a',rfl⟩:=bd;obtain⟨av,h⟩:=gO h ah;have av:V.g≤i:=s_ av;unfold HQ at h;split at h
  ·rename_i cs bM;obtain⟨ax,h⟩:=gO h ah;have ax:o+n≤cs.length:=y0 ax;rw[Ad (by rw[bf];exact ax)]at h
   obtain⟨nS,fZ,⟨ds,d1,d2⟩,_⟩:=a1.get bM (by intro aF;cases aF)
   rw[a']at fZ;cases fZ;obtain⟨de,cy,e5⟩:=ig d2;have dl:=d1.length;rw[bx];obtain⟨cc,b4⟩:=a1.put (bp:=ag.setObj z.b (ft ds o w.cells)) a' (tJ bM (by intro aF;cases aF)) av (yB ag z.b _) (o:=.obj (ft cs o a.cells)) ⟨_,d1.ft o hw,by rw[A9,cy,e5]⟩
   exact⟨ds,de,by omega,aq.n' aC (.refl _) b4 cc .top h⟩
  ·rename_i sz cs bM;obtain⟨ax,h⟩:=gO h ah;have ax:o+n≤cs.length:=y0 ax;rw[Ad (by rw[bf];exact ax)]at h
   obtain⟨nS,fZ,⟨ds,d1,d2,d3⟩,_⟩:=a1.get bM (by intro aF;cases aF)
   rw[a']at fZ;cases fZ;obtain⟨de,cy,e5⟩:=ig d2;have dl:=d1.length;rw[bx];have mV:o+w.cells.length≤ds.length:=by omega
   obtain⟨cc,b4⟩:=a1.put (bp:=ag.setObj z.b (ft (ds++z.rest) o w.cells)) a' (tJ bM (by intro aF;cases aF)) av (yB ag z.b _) (o:=.row sz (ft cs o a.cells))
    ⟨_,d1.ft o hw,by rw[A9,cy,e5,afR mV],by rw[iz,afS mV,←iz];exact d3⟩
   exact⟨ds++z.rest,de,by rw[iz];omega,aq.n' aC (.refl _) b4 cc .top h⟩
  ·exact absurd h ah.bad
 ·rename_i s o hQ;rw[hQ]at ad;have bx:=ad.q9;unfold MV at h;split at h
  ·rename_i cs bM;obtain⟨ax,h⟩:=gO h ah;have ax:o+n≤cs.length:=y0 ax;rw[Ad (by rw[bf];exact ax)]at h
   have hs:=aC s;rw[bM]at hs;obtain⟨ds,d1,d2⟩:=hs.Bb;have dl:=d1.length;rw[bx];simp only[d2];refine⟨by omega,aq R _ V _ ag (.refl _) (.refl _) a1 (cq.set ?_ d .top) h⟩
   rw[atr];exact aC.put s ⟨_,d1.ft o hw,rfl⟩
  ·exact absurd h ah.bad
 ·exact absurd h ah.bad
theorem aqN (aq:e7 bo R V k bA K) (ah:Good bA) (a1:cT bo R V ag) (aC:cq R env aR) {x:aG} (ae:x.plain=true) (h:bA (Te x d k env V)):bH P (.mark x) d K aR ag:=by
 have ad:=dA aC ae;unfold Te adq at h;split at h
 ·rename_i xs g bQ;rw[bQ]at ad;obtain⟨v,az,ao⟩:=ad.cJ;simp only[aY]at az;obtain⟨ys,z,v1,⟨v2,v3⟩,rfl⟩:=az;unfold acm at h;split at h
  ·rename_i n sz q bM;obtain⟨av,h⟩:=gO h ah;have av:V.g≤g:=s_ av;obtain⟨nS,fZ,⟨d1,d2⟩,_⟩:=a1.get bM (by intro aF;cases aF)
   rw[v2]at fZ;cases fZ;obtain⟨de,cy,e5⟩:=ig d1;simp only[bH,ao];obtain⟨cc,b4⟩:=a1.put (bp:=ag.jF (some z.b)) v2 (tJ bM (by intro aF;cases aF)) av (Ix ag z.b) (o:=.dead) trivial
   exact⟨⟨_,cy⟩,aq.n' aC (.refl _) b4 cc (.dx (by simp only[aY];exact⟨ys,v1,rfl⟩)) h⟩
  ·exact absurd h ah.bad
 ·exact absurd h ah.bad
theorem bW.ade {xs ys:List ab} (h:bW R xs ys) (k:xs.all ab.one=true):∀y∈ys,y.one=true:=by
 intro y aI;have:=h.s3;rw[k]at this;exact dI.1 this y aI
theorem VX (aq:e7 bo R V k bA K) (ah:Good bA) (a1:cT bo R V ag) (aC:cq R env aR) {sz q bytes:Nat} {x:aG} (ae:x.plain=true) {ys en:List ab} (aI:bW R ys en)
  (h:bA ((bif tF ys then Eh sz q bytes d k env V (bV x env)else Ih ys sz q bytes d k env V (bV x env)))):∃xs nl tok,a_ aR x=.val (.slice xs nl tok)∧JB ag xs nl tok sz q∧
   xs.length+en.length≤maxLen∧(xs.length+en.length)*bytes≤140737488355328∧∀a bp,D3 ag xs nl tok en sz q a bp→oM (fun a bp=>K (aR.set d (.val a)) bp) a bp:=by
 have ad:=dA aC ae;have mY:=aI.length;cases aK:tF ys with
 |true=>
  rw[aK,cond_true]at h;have zm:=Kh.1 aK;subst zm;have:en=[]:=aI.js;subst this;unfold Eh at h;split at h
  ·rename_i xs nl g bQ;rw[bQ]at ad;obtain⟨v,az,ao⟩:=ad.cJ;have Gc:=az;simp only[aY]at az;obtain⟨fm,z,v1,⟨v2,v3⟩,rfl⟩:=az;obtain⟨aA,h⟩:=gO h ah;unfold Nd at aA;split at aA
   ·rename_i n gu ka bM;simp only[dF,gY,decide_eq_true_eq]at aA;obtain⟨rfl,rfl,aA⟩:=aA;obtain⟨cc,b4⟩:=Dy aA;obtain⟨nS,fZ,⟨d1,d2⟩,_⟩:=a1.get bM (by intro aF;cases aF)
    rw[v2]at fZ;cases fZ;obtain⟨de,cy,e5⟩:=ig d1;have ak:fm.length=n:=by rw[v1.length,←v3,d2]
    refine⟨fm,nl,some z.b,ao,.inr ⟨z.b,rfl,by rw[ak];exact cy⟩,by simpa[ak]using cc,by simpa[ak]using b4,fun a bp hq=> ?_⟩
    rcases hq with⟨_,rfl,rfl⟩|⟨cm,_⟩
    ·exact oM.of (k:=fun a bp=>K (aR.set d (.val a)) bp) (aq.fin a1 aC (.dx Gc) h)
    ·exact absurd rfl cm
   ·cases aA
  ·rename_i bQ;rw[bQ]at ad;obtain⟨v,az,ao⟩:=ad.cJ;have ar:=az.Av;subst ar;refine⟨[],true,none,ao,.inl ⟨rfl,rfl,rfl⟩,by simp,by simp,fun a bp hq=> ?_⟩
   rcases hq with⟨_,rfl,rfl⟩|⟨cm,_⟩
   ·exact oM.of (k:=fun a bp=>K (aR.set d (.val a)) bp) (aq.fin a1 aC (.plain rfl) h)
   ·exact absurd rfl cm
  ·exact absurd h ah.bad
 |false=>
  rw[aK,cond_false]at h;have cm:ys≠[]:=fun aF=>by rw[Kh.2 aF]at aK;cases aK
  have JZ:en≠[]:=fun aF=>cm (by have:=mY;rw[aF]at this;exact wv.1 this.symm)
  rw[VW]at h;unfold Ni at h;split at h
  ·rename_i xs nl g bQ;rw[bQ]at ad;obtain⟨v,az,ao⟩:=ad.cJ;simp only[aY]at az;obtain⟨fm,z,v1,⟨v2,v3⟩,rfl⟩:=az;unfold Ig at h;split at h
   ·rename_i n gu ka bM;obtain⟨aA,cb⟩:=gO h ah;clear h;simp only[dF,gY,fT,decide_eq_true_eq]at aA;obtain⟨rfl,rfl,av,aA⟩:=aA
    rename bA (GA _ _ _ _ _ _ _ _)=>h
    rw[m3,fy]at aA h;obtain⟨cc,b4⟩:=Dy aA;obtain⟨nS,fZ,⟨d1,d2⟩,_⟩:=a1.get bM (by intro aF;cases aF)
    rw[v2]at fZ;cases fZ;obtain⟨de,cy,e5⟩:=ig d1;have ak:fm.length=n:=by rw[v1.length,←v3,d2]
    have xe:xs.length=n:=by rw[←v3,d2]
    have cc:n+ys.length≤maxLen:=cc;have b4:(n+ys.length)*bytes≤_:=b4;refine⟨fm,nl,some z.b,ao,.inr ⟨z.b,rfl,by rw[ak];exact cy⟩,by rw[ak,mY];exact cc,by rw[ak,mY];exact b4,fun a bp hq=> ?_⟩
    rcases hq with⟨aF,_⟩|⟨_,eH,rfl,rfl,eW⟩
    ·exact absurd aF JZ
    ·obtain⟨bg,bl⟩:=a1.put (bp:=ag.jF (some z.b)) v2 (tJ bM (by intro aF;cases aF)) av (Ix ag z.b) (o:=.dead) trivial
     have ek:=aq.next (.refl _) bl;refine oM.of (k:=fun a bp=>K (aR.set d (.val a)) bp) ?_;rw[ak,mY];rcases eW with eW|eW
     ·cases eW;have:=ig (ajE ag z.b);refine K9 ek bg aC (v1.append aI) (by rw[iz,xe];rfl) h ?_ (by rw[this.1];exact de) (by rw[this.2.2];exact e5)
      exact a1.Xu v2 (tJ bM (by intro aF;cases aF))
     ·have aj:eH≠z.b:=by rintro rfl;rw[eW.2.1]at cy;cases cy
      have aQ:=ig (Ix ag z.b eH aj);refine K9 ek bg aC (v1.append aI) (by rw[iz,xe];rfl) h (bg.y2 ?_) (by rw[aQ.1];exact eW.1) (by rw[aQ.2.2];exact eW.2.2)
      exact Fh.2 ((Ix ag z.b eH aj).trans (Fh.1 eW))
   ·exact absurd h ah.bad
  ·rename_i bQ;rw[bQ]at ad;obtain⟨v,az,ao⟩:=ad.cJ;have ar:=az.Av;subst ar;unfold Ei at h;rw[m3,fy]at h;obtain⟨aA,h⟩:=gO h ah;obtain⟨cc,b4⟩:=Dy aA;refine⟨[],true,none,ao,.inl ⟨rfl,rfl,rfl⟩,by simpa[mY]using cc,by simpa[mY]using b4,fun a bp hq=> ?_⟩
   rcases hq with⟨aF,_⟩|⟨_,eH,rfl,rfl,eW⟩
   ·exact absurd aF JZ
   ·rcases eW with eW|eW
    ·cases eW
    ·refine oM.of (k:=fun a bp=>K (aR.set d (.val a)) bp) ?_;have aQ:ag.jF none=ag:=by
      unfold a8.jF;cases ag;simp
     rw[aQ];simp only[EB,nn,fy];rw[mY];exact K9 aq a1 aC aI rfl h (a1.y2 eW) eW.1 eW.2.2
  ·exact absurd h ah.bad
theorem ajc (aq:e7 bo R V k bA K) (ah:Good bA) (a1:cT bo R V ag) (aC:cq R env aR) {sz q bytes:Nat} {x y:aG} (ae:x.plain=true) (aB:y.plain=true) (h:bA (xN sz q bytes x y d k env V)):bH P (.append sz q bytes x y) d K aR ag:=by
 have aI:=dA aC aB;unfold xN Np at h;obtain⟨ys,U,aa⟩:=oB h ah;rw[afX]at U;unfold afW at U;split at U
 ·rename_i en nl tok bQ;cases hP:nt sz en with
  |false=>rw[hP]at U;cases U
  |true=>
   rw[hP]at U;cases U;rw[bQ]at aI;obtain⟨v,az,ao⟩:=aI.cJ;obtain⟨fm,t,bd,rfl,_⟩:=az.jb;obtain⟨xs,gq,fg,bu,bC,c4,eb,iX⟩:=VX aq ah a1 aC ae bd aa;simp only[bH,bu,ao];exact⟨bC,bd.Jc (Jb hP),c4,eb,iX⟩
 ·rename_i i o n c bQ;rw[bQ]at aI;obtain⟨v,az,ao⟩:=aI.cJ;simp only[aY]at az;obtain⟨z,a',rfl⟩:=az;rw[gY]at U;by_cases hs:sz=1
  ·rw[decide_eq_true hs,cond_true]at U;cases af:i' V i with
   |none=>rw[af]at U;cases U
   |some cs=>
    rw[af]at U;have U:(@Option.rec (List ab) (fun _=>Option (List ab)) none (fun ys=>bif ys.all ab.one then some ys else none) (nU (iw n) o cs))=some ys:=U
    cases aw:nU (iw n) o cs with
    |none=>rw[aw]at U;cases U
    |some us=>
     rw[aw]at U;have U:(bif us.all ab.one then some us else none)=some ys:=U
     cases ay:us.all ab.one with
     |false=>rw[ay]at U;cases U
     |true=>
      rw[ay,cond_true]at U;cases U;obtain⟨w,ds,rest,bf,c2,fU⟩:=N4 a1 af;rw[a']at bf;cases bf;obtain⟨t1,rfl⟩:=af_ aw;have dl:=c2.length;have fq:=(c2.drop o).take n;obtain⟨xs,gq,fg,bu,bC,c4,eb,iX⟩:=VX aq ah a1 aC ae fq aa;have zg:((ds.drop o).take n).length=n:=by rw[nm,nk];omega
      rw[zg]at c4 eb;simp only[bH,bu,ao];refine⟨hs,ds++rest,fU,by rw[iz];omega,bC,?_,c4,eb,?_⟩
      ·rw[I5 (by omega)];exact fq.ade ay
      ·rw[I5 (by omega)];exact iX
  ·rw[decide_eq_false hs]at U;cases U
 ·cases U
theorem ai' (aq:e7 bo R V k bA K) (ah:Good bA) (a1:cT bo R V ag) (aC:cq R env aR) {sz q bytes:Nat} {x y:aG} (ae:x.plain=true) (aB:y.plain=true) (h:bA (xO sz bytes x y d k env V)):bH P (.appendM sz q bytes x y) d K aR ag:=by
 have aI:=dA aC aB;have ad:=dA aC ae;unfold xO Nm at h;obtain⟨⟨ys,m⟩,U,h⟩:=oB h ah;simp only at h;have ec:∃en,bW R ys en∧H5 ag sz (a_ aR y) m en∧en.length=m*sz:=by
  unfold DJ at U;split at U
  ·rename_i fm nl tok bQ;cases hP:nt sz fm with
   |false=>rw[hP]at U;cases U
   |true=>
    rw[hP,cond_true]at U;simp only[bk,Prod.mk.injEq]at U;obtain⟨rfl,rfl⟩:=U;rw[bQ]at aI;obtain⟨v,az,ao⟩:=aI.cJ;obtain⟨us,t,bd,rfl,_⟩:=az.jb;rw[BN,m3,fy,ao];have Y0:=bd.Jc (Jb hP);refine⟨_,bd.flat,⟨Y0,bd.length.symm,rfl⟩,?_⟩;rw[O2 Y0,bd.length]
  ·rename_i i o n c bQ;rw[bQ]at aI;obtain⟨v,az,ao⟩:=aI.cJ;simp only[aY]at az;obtain⟨z,a',rfl⟩:=az;cases af:i' V i with
   |none=>rw[af]at U;cases U
   |some cs=>
    rw[af]at U;have U:(@Option.rec (List ab) (fun _=>Option (List ab × Nat)) none (fun ys=>bif ys.all ab.one then some (ys,n)else none) (nU (iw (Nat.mul n sz)) o cs))=some (ys,m):=U
    cases aw:nU (iw (Nat.mul n sz)) o cs with
    |none=>rw[aw]at U;cases U
    |some us=>
     rw[aw]at U;have U:(bif us.all ab.one then some (us,n)else none)=some (ys,m):=U
     cases ay:us.all ab.one with
     |false=>rw[ay]at U;cases U
     |true=>
      rw[ay,cond_true]at U;simp only[bk,Prod.mk.injEq]at U;obtain⟨rfl,rfl⟩:=U;obtain⟨w,ds,rest,bf,c2,fU⟩:=N4 a1 af;rw[a']at bf;cases bf;obtain⟨t1,rfl⟩:=af_ aw;have t1:o+n*sz≤cs.length:=t1;have dl:=c2.length;have fq:bW R ((cs.drop o).take (n*sz)) ((ds.drop o).take (n*sz)):=(c2.drop o).take (n*sz);rw[ao];refine⟨_,fq,⟨ds++rest,fU,by rw[iz];omega,rfl,by rw[I5 (by omega)],?_⟩,?_⟩
      ·exact dI.2 (fq.ade ay)
      ·rw[nm,nk];omega
  ·cases U
 obtain⟨en,ar,ec,cl⟩:=ec;simp only[bH];refine⟨m,en,ec,?_⟩;rw[gY]at h;by_cases hm:m=0
 ·subst hm;rw[decide_eq_true rfl,cond_true]at h;unfold Ii at h;split at h
  ·rename_i i n bQ;rw[bQ]at ad;obtain⟨v,az,ao⟩:=ad.cJ;have Gc:=az;simp only[aY]at az;obtain⟨z,a',rfl⟩:=az;obtain⟨aA,h⟩:=gO h ah;simp only[dF]at aA;obtain⟨cc,b4⟩:=Dy aA.2;have aA:=aA.1;unfold RH at aA;split at aA
   ·rename_i gu cs bM;rw[gY,decide_eq_true_eq]at aA;subst aA;obtain⟨nS,fZ,⟨ds,d1,d2,d3⟩,_⟩:=a1.get bM (by intro aF;cases aF)
    rw[a']at fZ;cases fZ;rw[ao];have mm:oX z.m 1=z.m:=by simp[oX]
    simp only[mm];rw[mm]at Gc;exact⟨ds++z.rest,(ig d2).1,d3,cc,b4,fun _=>aq.fin a1 aC (.dx Gc) h,fun aF=>absurd aF (by omega),fun aF=>absurd aF (by omega)⟩
   ·cases aA
  ·rename_i bQ;rw[bQ]at ad;obtain⟨v,az,ao⟩:=ad.cJ;have ar:=az.Av;subst ar;rw[ao];exact⟨by simp,by simp,fun _=>aq.fin a1 aC (.plain rfl) h,fun aF=>absurd aF (by omega)⟩
  ·exact absurd h ah.bad
 ·rw[decide_eq_false hm,cond_false]at h;unfold Ij at h;split at h
  ·rename_i i n bQ;rw[bQ]at ad;obtain⟨v,az,ao⟩:=ad.cJ;simp only[aY]at az;obtain⟨z,a',rfl⟩:=az;unfold Nj at h;split at h
   ·rename_i gu cs bM;obtain⟨aA,cb⟩:=gO h ah;clear h;simp only[dF,gY,fT,decide_eq_true_eq]at aA;obtain⟨rfl,av,aA⟩:=aA;obtain⟨cc,b4⟩:=Dy aA;obtain⟨g',aa,h⟩:=oB cb ah;clear cb;obtain⟨t1,rfl⟩:=AI aa;have t1:n*sz≤cs.length:=t1;obtain⟨nS,fZ,⟨ds,d1,d2,d3⟩,_⟩:=a1.get bM (by intro aF;cases aF)
    rw[a']at fZ;cases fZ;obtain⟨de,cy,e5⟩:=ig d2;have dl:=d1.length;have p1:=tJ bM (by intro aF;cases aF)
    have mm:oX z.m 1=z.m:=by simp[oX]
    rw[ao];simp only[mm];have tC:bW R (cs.take (n*sz)) (ds.take (n*sz)):=d1.take (n*sz);have mr:(ds++z.rest).take (n*sz)=ds.take (n*sz):=OV (by omega)
    have anC:(n+m)*sz=n*sz+m*sz:=kJ ..;refine⟨ds++z.rest,de,d3,cc,b4,fun aF=>absurd aF hm,fun _ _ g bF eW af rZ=> ?_,fun _ af=> ?_⟩
    ·obtain⟨bg,bl⟩:=a1.put (bp:=ag) a' p1 av (fun x _=>rfl) (o:=.dead) trivial;have ek:=aq.next (.refl _) bl;rw[mr];have anD:bF*sz=(n+m)*sz+(bF-(n+m))*sz:=by rw[←kJ];congr 1;omega
     refine K_ (n:=n+m) ek bg aC (tC.append ar) ?_ h (bg.y2 eW) eW.2.1 eW.2.2;simp only[iz,nm,yM,cl];omega
    ·obtain⟨bg,bl⟩:=a1.put (bp:=ag.setObj z.b (ft (ds++z.rest) (n*sz) en)) a' p1 av (yB ag z.b _) (o:=.dead) trivial;have ek:=aq.next (.refl _) bl;have mV:ft (ds++z.rest) (n*sz) en=(ds.take (n*sz)++en)++(ds++z.rest).drop (n*sz+m*sz):=by
      unfold ft;rw[mr,cl]
     have iF:(n+m)*sz≤z.m*sz:=l_ _ af;obtain⟨b',ct⟩:=a1.Xu a' p1;have aom:ag.setObj z.b (ft (ds++z.rest) (n*sz) en)=(ag.setObj z.b (ft (ds++z.rest) (n*sz) en)).setObj z.b (ft (ds++z.rest) (n*sz) en):=by
      unfold a8.setObj
      congr 1
      funext w
      cases ew:(w==z.b)<;>simp[ew]
     rw[aom,mV];refine K_ (n:=n+m) (ag:=ag.setObj z.b ((ds.take (n*sz)++en)++(ds++z.rest).drop (n*sz+m*sz))) ek (by rw[←mV];exact bg) aC (tC.append ar) ?_ h ⟨b',ct⟩ cy e5
     simp only[iz,nm,nk,cl];rw[iz]at d3;omega
   ·exact absurd h ah.bad
  ·rename_i bQ;rw[bQ]at ad;obtain⟨v,az,ao⟩:=ad.cJ;have iY:=az.Av;subst iY;obtain⟨aA,h⟩:=gO h ah;obtain⟨cc,b4⟩:=Dy aA;rw[ao];refine⟨cc,b4,fun aF=>absurd aF hm,fun _ g bF eW af rZ=> ?_⟩;have anD:bF*sz=m*sz+(bF-m)*sz:=by rw[←kJ];congr 1;omega
   refine K_ aq a1 aC ar ?_ h (a1.y2 eW) eW.2.1 eW.2.2;simp only[iz,yM,cl];omega
  ·exact absurd h ah.bad
end
end Go.bO
end
section
namespace Go.bO
open Go.RowKit
section
variable {P:Program} {bo:a8} {R:cV} {V:aO} {ag:a8} {env:aP} {aR:bt} {k:bI} {bA:bj→Prop} {K:bt→a8→Prop} {d:Option Nat}
theorem xx (a1:cT bo R V ag) {i:Nat} {ko:Option cL} {es:List (ab × ab)} (bM:V.at i=.map ko es) {z:nT} (a':R i=some z):
  ∃es',gS R es es'∧ag.obj z.b=none∧ag.cF z.b=none∧ag.mp z.b=some (.map es')∧(∀a7,ko=some a7→∀e∈es,a7.is e.1=true)∧(ko=none→es=[]):=by
 obtain⟨nS,fZ,⟨es',bd,bx,bT,dp⟩,_⟩:=a1.get bM (by intro aF;cases aF)
 rw[a']at fZ;cases fZ;obtain⟨de,cy,e5⟩:=ig bx;exact⟨es',bd,de,cy,e5,bT,dp⟩
theorem Sm {a7:cL} {ko:Option cL} {es:List (ab × ab)} (h:vt a7 ko=true) (U:∀a7,ko=some a7→∀e∈es,a7.is e.1=true) (aa:ko=none→es=[]):∀e∈es,a7.is e.1=true:=by
 cases ko with
 |none=>rw[aa rfl];intro e he;cases he
 |some k'=>rw[←abQ (a:=k') (b:=a7) h];exact U k' rfl
theorem Ss (a1:cT bo R V ag) {i:Nat} {ko:Option cL} {es:List (ab × ab)} (bM:V.at i=.map ko es) {z:nT} (a':R i=some z) (av:V.g≤i) {ko':Option cL} {fs fs':List (ab × ab)} (ar:gS R fs fs')
  (U:∀a7,ko'=some a7→∀e∈fs,a7.is e.1=true) (aa:ko'=none→fs=[]):cT bo R (V.put i (.map ko' fs)) (ag.c5 z.b (.map fs'))∧jR V (V.put i (.map ko' fs)):=by
 obtain⟨es',_,de,cy,_⟩:=xx a1 bM a';exact a1.put a' (tJ bM (by intro aF;cases aF)) av (nX ag z.b _) ⟨fs',ar,by rw[uB,de,cy],U,aa⟩
theorem aq2 (aq:e7 bo R V k bA K) (a1:cT bo R V ag) (aC:cq R env aR) (h:bA (adr d k env V)):bH P .mmap d K aR ag:=by
 intro b aj;obtain⟨U,aa,au⟩:=Lb a1 (bp:=ag.c5 b (.map [])) aj (x:=⟨b,0,[]⟩) rfl (o:=.map none []) (nX ag b _) ⟨[],rfl,by rw[uB,aj.1,aj.2.1],fun _ aF=>(by cases aF),fun _=>rfl⟩
 exact aq.n' aC aa au U (.dx (by simp only[aY];exact⟨_,cV.add_get ..,rfl⟩)) h
theorem ase {z:ab} {b:Bool} (a':z.plain=true):(ab.tuple [z,.bool b]).plain=true:=by
 simp only[ab.plain,gV,a',s8]
theorem acg {z:ab} {ok:Bool} (a':z.plain=true):aY R (Gt z ok none) (if ok=true then .tuple [z,.bool false]else z):=by
 cases ok with
 |true=>exact aY.g_ _ (ase a')
 |false=>exact aY.g_ _ a'
theorem aqW (aq:e7 bo R V k bA K) (ah:Good bA) (a1:cT bo R V ag) (aC:cq R env aR) {a7:cL} {z:ab} {ok:Bool} {x i:aG} (a':z.plain=true) (ae:x.plain=true) (aB:i.plain=true) (h:bA (vA a7 z ok x i d k env V)):
  (∃key,a_ aR x=.val (.map none)∧a_ aR i=.val key∧a7.is key=true∧K (aR.set d (.val (if ok=true then .tuple [z,.bool false]else z))) ag)∨
  (∃b key es,a_ aR x=.val (.map (some b))∧a_ aR i=.val key∧ag.mp b=some (.map es)∧A0 a7 key es∧
   K (aR.set d (.val (if ok=true then .tuple [(ox key es).getD z,.bool (ox key es).isSome]else(ox key es).getD z))) ag):=by
 have hi:=dA aC aB;have ad:=dA aC ae;unfold vA Sx at h;split at h
 case h_2=>exact absurd h ah.bad
 rename_i key bQ;rw[bQ]at hi;obtain⟨v,az,ao⟩:=hi.cJ;obtain⟨kP,h⟩:=gO h ah;have:=cL.Cs kP az;subst this;unfold KY at h;split at h
 ·rename_i hQ;rw[hQ]at ad;obtain⟨w,bd,bx⟩:=ad.cJ;simp only[aY]at bd;subst bd;exact .inl ⟨_,bx,ao,kP,aq.fin a1 aC (.dx (acg a')) h⟩
 ·rename_i g hQ;rw[hQ]at ad;obtain⟨w,bd,bx⟩:=ad.cJ;simp only[aY]at bd;obtain⟨y,aI,rfl⟩:=bd;unfold KZ at h;split at h
  ·rename_i ko es bM;obtain⟨lW,h⟩:=gO h ah;obtain⟨es',bg,bl,bS,cP,eC,iM⟩:=xx a1 bM aI;refine .inr ⟨y.b,_,es',bx,ao,cP,⟨kP,bg.keys (Sm lW eC iM)⟩,aq.fin a1 aC (.dx ?_) h⟩;rcases bg.find v with⟨f1,f2⟩|⟨a,b,f1,f2,f3⟩
   ·rw[f1,←acx,f2];exact acg a'
   ·rw[f1,←acx,f2];cases ok with
    |true=>
     show aY R (.tuple [a,.bool true]) (.tuple [b,.bool true]);simp only[aY];exact⟨_,.cons f3 (.cons (by simp only[aY]) .nil),rfl⟩
    |false=>exact f3
  ·exact absurd h ah.bad
 ·exact absurd h ah.bad
theorem acB (aq:e7 bo R V k bA K) (ah:Good bA) (a1:cT bo R V ag) (aC:cq R env aR) {a7:cL} {z:ab} {ok:Bool} {x i:aG} (a':z.plain=true) (ae:x.plain=true) (aB:i.plain=true) (h:bA (vA a7 z ok x i d k env V)):
  bH P (.mget a7 z ok x i) d K aR ag:=by
 rcases aqW aq ah a1 aC a' ae aB h with⟨key,U,aa,au,ba⟩|⟨b,key,es,U,aa,au,ba,cb⟩
 ·simp only[bH,U,aa];exact⟨au,ba⟩
 ·simp only[bH,U,aa];exact⟨es,au,ba,cb⟩
theorem aq9 (aq:e7 bo R V k bA K) (ah:Good bA) (a1:cT bo R V ag) (aC:cq R env aR) {a7:cL} {x i v:aG} (ae:x.plain=true) (aB:i.plain=true) (ar:v.plain=true) (h:bA (Lq a7 x i v d k env V)):
  bH P (.mset a7 x i v) d K aR ag:=by
 have hi:=dA aC aB;have ad:=dA aC ae;have hw:=dA aC ar;unfold Lq SJ at h;split at h
 case h_2=>exact absurd h ah.bad
 rename_i a am1;rw[am1]at hw;obtain⟨gX,hc,fJ⟩:=hw.cJ;unfold SI at h;split at h
 case h_2=>exact absurd h ah.bad
 rename_i key bQ;rw[bQ]at hi;obtain⟨v,az,ao⟩:=hi.cJ;obtain⟨kP,h⟩:=gO h ah;have:=cL.Cs kP az;subst this;unfold SH at h;split at h
 ·rename_i g hQ;rw[hQ]at ad;obtain⟨w,bd,bx⟩:=ad.cJ;simp only[aY]at bd;obtain⟨y,aI,rfl⟩:=bd;unfold SK at h;split at h
  ·rename_i ko es bM;obtain⟨lW,h⟩:=gO h ah;simp only[dF,fT,decide_eq_true_eq]at lW;obtain⟨es',bg,bl,bS,cP,eC,iM⟩:=xx a1 bM aI;have B4:=Sm lW.1 eC iM;obtain⟨cc,b4⟩:=Ss a1 bM aI lW.2 (ko':=some a7) (bg.put v hc) (fun kx aF=>by cases aF;exact abJ kP B4) (fun aF=>by cases aF)
   simp only[bH,bx,ao,fJ];refine⟨es',cP,⟨kP,bg.keys B4⟩,?_⟩;rw[←aq6];exact aq.n' aC (.refl _) b4 cc .top h
  ·exact absurd h ah.bad
 ·exact absurd h ah.bad
theorem aqS (aq:e7 bo R V k bA K) (ah:Good bA) (a1:cT bo R V ag) (aC:cq R env aR) {a7:cL} {x i:aG} (ae:x.plain=true) (aB:i.plain=true) (h:bA (Lp a7 x i d k env V)):
  bH P (.mdel a7 x i) d K aR ag:=by
 have hi:=dA aC aB;have ad:=dA aC ae;unfold Lp St at h;split at h
 case h_2=>exact absurd h ah.bad
 rename_i key bQ;rw[bQ]at hi;obtain⟨v,az,ao⟩:=hi.cJ;obtain⟨kP,h⟩:=gO h ah;have:=cL.Cs kP az;subst this;unfold Su at h;split at h
 ·rename_i g hQ;rw[hQ]at ad;obtain⟨w,bd,bx⟩:=ad.cJ;simp only[aY]at bd;obtain⟨y,aI,rfl⟩:=bd;unfold Sv at h;split at h
  ·rename_i ko es bM;obtain⟨lW,h⟩:=gO h ah;simp only[dF,fT,decide_eq_true_eq]at lW;obtain⟨es',bg,bl,bS,cP,eC,iM⟩:=xx a1 bM aI;have B4:=Sm lW.1 eC iM;obtain⟨cc,b4⟩:=Ss a1 bM aI lW.2 (ko':=ko) (bg.del v) (fun kx aF e he=>eC kx aF e (KV he)) (fun aF=>by rw[iM aF];rfl)
   simp only[bH,bx,ao];refine⟨es',cP,⟨kP,bg.keys B4⟩,?_⟩;rw[←aqQ];exact aq.n' aC (.refl _) b4 cc (.plain rfl) h
  ·exact absurd h ah.bad
 ·exact absurd h ah.bad
theorem aqY (aq:e7 bo R V k bA K) (ah:Good bA) (a1:cT bo R V ag) (aC:cq R env aR) {x:aG} (ae:x.plain=true) (h:bA (z7 x d k env V)):
  (a_ aR x=.val (.map none)∧K (aR.set d (.val (.int .i64 0))) ag)∨(∃b es,a_ aR x=.val (.map (some b))∧ag.mp b=some (.map es)∧K (aR.set d (.val (.int .i64 es.length))) ag):=by
 have ad:=dA aC ae;unfold z7 K2 at h;split at h
 ·rename_i hQ;rw[hQ]at ad;obtain⟨w,bd,bx⟩:=ad.cJ;simp only[aY]at bd;subst bd;exact .inl ⟨bx,aq.fin a1 aC (.plain rfl) h⟩
 ·rename_i g hQ;rw[hQ]at ad;obtain⟨w,bd,bx⟩:=ad.cJ;simp only[aY]at bd;obtain⟨y,aI,rfl⟩:=bd;unfold SA at h;split at h
  ·rename_i ko es bM;obtain⟨es',bg,bl,bS,cP,eC,iM⟩:=xx a1 bM aI;rw[aqn,fy,←bg.length]at h;exact .inr ⟨y.b,es',bx,cP,aq.fin a1 aC (.plain rfl) h⟩
  ·exact absurd h ah.bad
 ·exact absurd h ah.bad
theorem acE (aq:e7 bo R V k bA K) (ah:Good bA) (a1:cT bo R V ag) (aC:cq R env aR) {x:aG} (ae:x.plain=true) (h:bA (z7 x d k env V)):bH P (.mlen x) d K aR ag:=by
 rcases aqY aq ah a1 aC ae h with⟨U,aa⟩|⟨b,es,U,aa,au⟩
 ·simp only[bH,U];exact aa
 ·simp only[bH,U];exact⟨es,aa,au⟩
theorem akk (aq:e7 bo R V k bA K) (ah:Good bA) (a1:cT bo R V ag) (aC:cq R env aR) {x:aG} (ae:x.plain=true) (h:bA (Lm x d k env V)):bH P (.clearM x) d K aR ag:=by
 have ad:=dA aC ae;unfold Lm N9 at h;split at h
 ·rename_i hQ;rw[hQ]at ad;obtain⟨w,bd,bx⟩:=ad.cJ;simp only[aY]at bd;subst bd;simp only[bH,bx];exact aq.fin a1 aC (.plain rfl) h
 ·rename_i g hQ;rw[hQ]at ad;obtain⟨w,bd,bx⟩:=ad.cJ;simp only[aY]at bd;obtain⟨y,aI,rfl⟩:=bd;unfold N_ at h;split at h
  ·rename_i ko es bM;obtain⟨av,h⟩:=gO h ah;obtain⟨es',bg,bl,bS,cP,eC,iM⟩:=xx a1 bM aI;obtain⟨cc,b4⟩:=Ss a1 bM aI (s_ av) (ko':=none) (fs:=[]) (fs':=[]) rfl (fun kx aF=>by cases aF) (fun aF=>rfl)
   simp only[bH,bx];exact⟨es',cP,aq.n' aC (.refl _) b4 cc (.plain rfl) h⟩
  ·exact absurd h ah.bad
 ·exact absurd h ah.bad
theorem aY.atm {cs:List ab} (h:gV cs=true) (i:Nat):aY R (cs.getD i .top) (cs.getD i .top):=by
 rw[cM];cases e:cs[i]? with
 |none=>simp only[Option.getD_none,aY]
 |some x=>
  obtain⟨y,U,aa⟩:=(bW.g_ (R:=R) cs h).get e;rw[e]at U;cases U;exact aa
theorem bW.ack {f:Nat→ab} (h:∀i,aY R (f i) (f i)):∀(l:List Nat),bW R (l.map f) (l.map f)
 | []=>.nil
 |x::xs=>.cons (h x) (bW.ack h xs)
theorem asf {z:ab} (h:z.plain=true):gV z.cells=true:=by
 cases z<;>first|exact h|(simp only[ab.cells,gV,h,s8];done)|(simp[ab.cells,gV,h];done)|cases h
theorem avy {n sz:Nat} {z:ab} (h:z.plain=true):bW R (oJ n sz z) ((List.range (n*sz)).map fun q=>z.cells.getD (q%sz) .top):=
 bW.ack (fun _=>aY.atm (asf h) _) _
theorem Vv {n sz:Nat} {z:ab}:(oJ n sz z).length=n*sz:=by unfold oJ;rw[ng,List.length_range];rfl
theorem akm (aq:e7 bo R V k bA K) (ah:Good bA) (a1:cT bo R V ag) (aC:cq R env aR) {sz:Nat} {z:ab} {x:aG} (a':z.plain=true) (ae:x.plain=true) (h:bA (CV sz z x d k env V)):bH P (.clearS sz z x) d K aR ag:=by
 have ad:=dA aC ae;unfold CV ES at h;split at h
 ·rename_i nl tok hQ;rw[hQ]at ad;obtain⟨w,bd,bx⟩:=ad.cJ;obtain⟨ys,t,az,rfl,_⟩:=bd.jb;rw[az.js]at bx;simp only[bH,bx];exact aq.fin a1 aC (.plain rfl) h
 ·rename_i i o n c hQ;rw[hQ]at ad;obtain⟨w,bd,bx⟩:=ad.cJ;simp only[aY]at bd;obtain⟨y,aI,rfl⟩:=bd;have kS:bW R (oJ n sz z) ((List.range (n*sz)).map fun q=>z.cells.getD (q%sz) .top):=avy a';have gH:=kS.length;rw[Vv]at gH;unfold N' at h;split at h
  ·rename_i gu cs bM;obtain⟨ax,h⟩:=gO h ah;simp only[dF,fT,decide_eq_true_eq]at ax;have Qo:o+n*sz≤cs.length:=y0 ax.1;rw[Ad (by rw[Vv];exact Qo)]at h
   obtain⟨nS,fZ,⟨ds,d1,d2,d3⟩,_⟩:=a1.get bM (by intro aF;cases aF)
   rw[aI]at fZ;cases fZ;obtain⟨de,cy,e5⟩:=ig d2;have dl:=d1.length;have mV:o+((List.range (n*sz)).map fun q=>z.cells.getD (q%sz) .top).length≤ds.length:=by rw[gH];omega
   obtain⟨cc,b4⟩:=a1.put (bp:=ag.setObj y.b (ft (ds++y.rest) o ((List.range (n*sz)).map fun q=>z.cells.getD (q%sz) .top))) aI (tJ bM (by intro aF;cases aF)) ax.2 (yB ag y.b _) (o:=.row gu (ft cs o (oJ n sz z)))
    ⟨_,d1.ft o kS,by rw[A9,cy,e5,afR mV],by rw[iz,afS mV,←iz];exact d3⟩
   simp only[bH,bx];exact⟨ds++y.rest,de,by rw[iz];omega,aq.n' aC (.refl _) b4 cc (.plain rfl) h⟩
  ·rename_i cs bM;obtain⟨ax,h⟩:=gO h ah;simp only[dF,fT,decide_eq_true_eq]at ax;have Qo:o+n*sz≤cs.length:=y0 ax.1;rw[Ad (by rw[Vv];exact Qo)]at h
   obtain⟨nS,fZ,⟨ds,d1,d2⟩,_⟩:=a1.get bM (by intro aF;cases aF)
   rw[aI]at fZ;cases fZ;obtain⟨de,cy,e5⟩:=ig d2;have dl:=d1.length;obtain⟨cc,b4⟩:=a1.put (bp:=ag.setObj y.b (ft ds o ((List.range (n*sz)).map fun q=>z.cells.getD (q%sz) .top))) aI (tJ bM (by intro aF;cases aF)) ax.2 (yB ag y.b _) (o:=.obj (ft cs o (oJ n sz z)))
    ⟨_,d1.ft o kS,by rw[A9,cy,e5]⟩
   simp only[bH,bx];exact⟨ds,de,by omega,aq.n' aC (.refl _) b4 cc (.plain rfl) h⟩
  ·exact absurd h ah.bad
 ·exact absurd h ah.bad
end
theorem aZ.atB {I:cf} {v:Value} {xs ys:List ab} {nl:Bool} {tok:Option Nat} (h:aZ I v (.slice xs nl tok)) (ak:ys.length=xs.length) (af:∀i,(ys.getD i .top).cells.length=(xs.getD i .top).cells.length)
  (ah:∀i j,((xs.getD i .top).cells.getD j .top).dY ((ys.getD i .top).cells.getD j .top)):aZ I v (.slice ys nl none):=by
 cases h with
 |qg=>have:ys=[]:=wv.1 ak;subst this;exact .qg
 |slice b o n cap sz xs tok vs FL ld hm hs h zs aw=>
  exact .slice b o n cap sz ys none vs (ak.trans FL) ld hm (fun i hi=>(af i).trans (hs i hi)) h (fun i j=>ah i j I _ (zs i j)) (fun g av=>by cases av)
 |tZ a=>have:ys=[]:=wv.1 ak;subst this;exact .tZ a
theorem x8:∀(xs:List ab),(hI xs).length=xs.length
 | []=>rfl
 |x::xs=>by show(hI xs).length+1=xs.length+1;rw[x8 xs]
theorem uU:∀(xs:List ab) (i:Nat),(hI xs).getD i .top=(xs.getD i .top).shut
 | [],i=>by simp[hI,ab.shut]
 |x::xs,0=>rfl
 |x::xs,i+1=>by
  show(x.shut::hI xs).getD (i+1) .top=_;simp only[List.getD_cons_succ];exact uU xs i
theorem WV (v:ab):v.shut.cells=hI v.cells:=by
 cases v<;>simp only[ab.shut,ab.cells,hI]
theorem ab.one_cell {x:ab} (h:x.cells=[x]) (ad:x.dY x.shut) (j:Nat):(x.cells.getD j .top).dY (x.cells.getD j .top).shut:=by
 rw[h];cases j with
 |zero=>exact ad
 |succ j=>simpa[ab.shut]using ab.dY.refl .top
mutual
theorem ab.ly:∀(v:ab),v.dY v.shut
 |.top=>.refl _
 |.bool _=>.refl _
 |.int _ _=>.refl _
 |.str _=>.refl _
 |.cX=>.refl _
 |.ptr _ _=>.refl _
 |.raw _ _=>.refl _
 |.ref _ _ _ _=>.refl _
 |.dC=>.refl _
 |.fj=>.refl _
 |.map _=>.refl _
 |.slice xs nl tok=>fun I v h=>by
  refine h.atB (ys:=hI xs) (x8 xs) (fun i=> ?_) (fun i j=> ?_)
  ·rw[uU,WV,x8]
  ·rw[uU,WV,uU];exact ab.ab9 xs i j
 |.agg cs=>fun I v h=>by
  cases h with
  |agg vs as ak ah=>exact .agg vs _ (ak.trans (x8 cs).symm) (fun j=>by rw[uU];exact ab.zO cs j I _ (ah j))
 |.tuple cs=>fun I v h=>by
  cases h with
  |tuple vs as ak ah=>exact .tuple vs _ (ak.trans (x8 cs).symm) (fun j=>by rw[uU];exact ab.zO cs j I _ (ah j))
 |.dK cs=>fun I v h=>by
  cases h with
  |dK b o cs vs h ah=>exact .dK b o _ vs (fun j aU=>h j (by rw[x8]at aU;exact aU)) (fun j=>by rw[uU];exact ab.zO cs j I _ (ah j))
 |.iface t x=>fun I v h=>by
  cases h with
  |iface t v a h=>exact .iface t _ _ (ab.ly x I _ h)
 |.func fn f c=>fun I v h=>by
  cases h with
  |func fn n_ bF as bs U aa zs si=>exact .func fn _ _ _ _ (U.trans (x8 f).symm) (aa.trans (x8 c).symm) (fun j=>by rw[uU];exact ab.zO f j I _ (zs j)) (fun j=>by rw[uU];exact ab.zO c j I _ (si j))
theorem ab.zO:∀(cs:List ab) (j:Nat),(cs.getD j .top).dY (cs.getD j .top).shut
 | [],j=>by simpa[ab.shut]using ab.dY.refl .top
 |x::xs,0=>ab.ly x
 |x::xs,j+1=>by simpa using ab.zO xs j
theorem ab.ab9:∀(xs:List ab) (i j:Nat),((xs.getD i .top).cells.getD j .top).dY ((xs.getD i .top).cells.getD j .top).shut
 | [],i,j=>by
  have:(([]:List ab).getD i .top).cells=[.top]:=by simp[ab.cells]
  rw[this];cases j<;>simpa[ab.shut]using ab.dY.refl .top
 |x::xs,i+1,j=>by simpa using ab.ab9 xs i j
 |.agg cs::xs,0,j=>ab.zO cs j
 |(.top)::xs,0,j=>ab.one_cell rfl (ab.ly (.top)) j
 |(.bool b)::xs,0,j=>ab.one_cell rfl (ab.ly (.bool b)) j
 |(.int k n)::xs,0,j=>ab.one_cell rfl (ab.ly (.int k n)) j
 |(.str s)::xs,0,j=>ab.one_cell rfl (ab.ly (.str s)) j
 |(.cX)::xs,0,j=>ab.one_cell rfl (ab.ly (.cX)) j
 |(.ptr b o)::xs,0,j=>ab.one_cell rfl (ab.ly (.ptr b o)) j
 |(.dK cs)::xs,0,j=>ab.one_cell rfl (ab.ly (.dK cs)) j
 |(.slice ys nl t)::xs,0,j=>ab.one_cell rfl (ab.ly (.slice ys nl t)) j
 |(.raw g n)::xs,0,j=>ab.one_cell rfl (ab.ly (.raw g n)) j
 |(.ref b o n c)::xs,0,j=>ab.one_cell rfl (ab.ly (.ref b o n c)) j
 |(.tuple vs)::xs,0,j=>ab.one_cell rfl (ab.ly (.tuple vs)) j
 |(.iface t v)::xs,0,j=>ab.one_cell rfl (ab.ly (.iface t v)) j
 |(.dC)::xs,0,j=>ab.one_cell rfl (ab.ly (.dC)) j
 |(.func fn f c)::xs,0,j=>ab.one_cell rfl (ab.ly (.func fn f c)) j
 |(.fj)::xs,0,j=>ab.one_cell rfl (ab.ly (.fj)) j
 |(.map r)::xs,0,j=>ab.one_cell rfl (ab.ly (.map r)) j
end
end Go.bO
end
