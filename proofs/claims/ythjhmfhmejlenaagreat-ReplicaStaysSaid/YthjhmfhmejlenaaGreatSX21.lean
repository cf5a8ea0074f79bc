/-
  A WALKER OF CODE IN SMALL, part 21: an anchor in the midst; new values of given ones.
-/
import Derived.Test.YthjhmfhmejlenaaGreatSX17
set_option linter.unusedSectionVars false
set_option linter.unusedVariables false
set_option linter.unusedSimpArgs false
section
namespace Go.bO.cK
variable {T:bG} [e8 T] {E:dS} {R aL:cj} {G G':Nat→cR} {W:aH} {V:aO} {se:bE} {env:aP}
def k5 (E:dS) (G:Nat→cR) (V:aO):dS:=⟨V,G,fun i=>E.V.n≤i∨E.eT i⟩
theorem Nf (aC:gj E) (h:aW T E R G W V) (eX:W.op=[]):gj (k5 E G V)∧aW T (k5 E G V) R G W V:=by
 refine⟨⟨?_,?_,?_,h.aE.out⟩,⟨h.ok,h.aT,⟨h.aE.wf,h.aE.cells,fun p ae=> ?_,h.aE.gw,fun v ar i hi=>.inr (h.aE.wr v ar i hi),fun c af u0 i hi=> ?_,h.aE.out,b1 _,rfl,fun _ _ _=>⟨rfl,rfl⟩,fun _ _ _=>⟨fun h _=>h,id⟩,fun _ _ _ _ av=>.inl av,h.aE.fQ,
  ⟨h.aE.hi.own,fun i c cs U aa au=>⟨fun _=>⟨((h.aE.hi.ok i c cs U aa au).1 (fun p ae=>by rw[eX]at ae;cases ae)).1,fun _ cd iD=> ?_⟩,fun p ae=>(by rw[eX]at ae;cases ae)⟩⟩,fun p ae=> ?_,h.aE.rd⟩⟩⟩
 ·show V.g≤V.n;rw[h.aE.g];exact fp aC.g h.aE.n
 ·rintro i (hi|hi)
  ·show V.g≤i;rw[h.aE.g];exact fp aC.g hi
  ·show V.g≤i;rw[h.aE.g];exact aC.MC i hi
 ·intro g i j av;refine⟨h.aE.fQ g i j av,fun hi=> ?_⟩;rcases lJ g E.V.n with bw|d_
  ·rcases h.aE.tok g bw i j av with U|U
   ·obtain⟨aa,au⟩:=aC.DU g i j U;rcases hi with hi|hi
    ·omega
    ·exact .inr (au hi)
   ·exact .inr U
  ·exact .inl d_
 ·have ak:=h.aE.live p ae;exact ak.e6 (fun _ _=>rfl) (fun g av=>(ak.tok av).1) (b1 _) (fun g _ aF=>.inr aF) (fun _ _ h=>h) (fun _ h=>h)
 ·have hi:G i=.cls c:=hi;show E.V.n≤i∨E.eT i;rcases lJ i E.V.n with bw|d_
  ·exact .inr (h.aE.M c af u0 i ((h.aE.cls i bw c).1 hi u0))
  ·exact .inl d_
 ·have iD:V.at i=.obj cd:=iD;rw[au]at iD;cases iD;exact e8.refl c _ aa
 ·rcases h.aE.lt p ae with⟨m,i,ko,es,left,cur,c,a7,t,cH,U,aa,au,ba⟩|⟨i,U,aa,aV,au⟩
  ·exact .inl ⟨m,i,ko,es,left,cur,c,a7,t,cH,U,aa,⟨au.av,au.aq,au.hm,au.hi,au.gf,au.bw,au.lW,au.hr,au.ak,.inr au.hw,au.nA⟩,ba⟩
  ·exact .inr ⟨i,U,aa,aV,au.hi,au.gf,au.bw⟩
theorem agS (aC:gj E) {cS:aH} {dW:cj} (aV:aW T E dW G cS V) (eX:cS.op=[]) {Ed:Nat→Prop} (Cc:∀i,Ed i→E.V.n≤i∨E.eT i) {V':aO} (h:aW T ⟨V,G,Ed⟩ aL G' W V'):aW T E aL G' W V':=by
 have QX:∀i,(V.n≤i∨Ed i)→E.V.n≤i∨E.eT i:=fun i hi=>hi.elim (fun U=>.inl (fp aV.aE.n U)) (Cc i);have JQ:∀i c cs cU,G' i=.cls c→T.kept c=true→V'.at i=.obj cU→D6 T ⟨V,G,Ed⟩ i c cs→D6 T E i c cs:=by
  intro i c cs cU U aa au ⟨az,ao⟩;refine⟨az,fun bw cd iD=> ?_⟩;have FP:i<V.n:=eE bw aV.aE.n;have nC:ku T c=false:=by
   cases eV:T.K c with
   |row z k n=>
    have hw:=(h.aE.obj U (by rw[eV];intro _ _ _ aF;cases aF)).2
    rw[eV]at hw;obtain⟨e2,e1,_⟩:=hw;rw[au]at e1;cases e1
   |_=>unfold ku;rw[eV]
  have av:G i=.cls c:=(h.aE.cls i FP c).1 U nC;cases eV:T.K c with
  |none=>
   have hw:=(aV.aE.obj av (by rw[eV];intro _ _ _ aF;cases aF)).2
   rw[eV]at hw;exact hw.elim
  |row z k n=>unfold ku at nC;rw[eV]at nC;cases nC
  |map a7 t cH=>
   by_cases qX:qz aL W.lt i
   ·obtain⟨p,ae,hm⟩:=qX;rcases h.aE.lt p ae with⟨m,j,ko,es,left,cur,bF,kx,cn,Cv,bg,bl,bS,_⟩|⟨j,bg,_⟩
    case inr=>rw[bg]at hm;cases hm
    rw[bg]at hm;cases hm;have:=bS.hm;rw[au]at this;cases this
   ·have:=(h.aE.wf i c U).2 qX;rw[eV]at this;obtain⟨ko,es,q,_⟩:=this;rw[au]at q;cases q
  |obj ts=>
   have hw:=(aV.aE.obj av (by rw[eV];intro _ _ _ aF;cases aF)).2
   rw[eV]at hw;obtain⟨qM,e1,_,_⟩:=hw;have bg:=((aV.aE.hi.ok i c qM av aa e1).1 fun p ae=>by rw[eX]at ae;cases ae).2 bw cd iD
   exact e8.trans c _ _ _ aa bg (ao FP qM e1)
 refine⟨h.ok,h.aT,⟨h.aE.wf,h.aE.cells,fun p ae=> ?_,h.aE.gw,fun v ar i hi=>QX i (h.aE.wr v ar i hi),fun c af u0 i hi=> ?_,h.aE.out,fp aV.aE.n h.aE.n,?_,fun x ad eQ=> ?_,fun x ad c=> ?_,fun g bw i j av=> ?_,h.aE.fQ,
  ⟨h.aE.hi.own,fun i c cs U aa au=>let⟨bg,bl⟩:=h.aE.hi.ok i c cs U aa au;⟨fun aK=>JQ i c cs cs U aa au (bg aK),fun p ae he=>JQ i c _ cs U aa au (bl p ae he)⟩⟩,fun p ae=> ?_,h.aE.rd⟩⟩
 ·have ak:=h.aE.live p ae;exact ak.e6 (fun _ _=>rfl) (fun g av=>(ak.tok av).1) (b1 _) (fun g _ aF=>QX g aF) (fun _ _ h=>h) (fun _ h=>h)
 ·rcases lJ i E.V.n with bw|d_
  ·have U:G i=.cls c:=(aV.aE.cls i bw c).2 hi;have aa:E.V.n≤i∨E.eT i:=Cc i (h.aE.M c af u0 i U);exact aa.elim (fun aF=>by omega) id
  ·rw[aC.out i d_]at hi;cases hi
 ·have U:V'.g=V.g:=h.aE.g;rw[U];exact aV.aE.g
 ·have Rm:x<V.n:=eE ad aV.aE.n;have QK:¬Ed x:=fun aF=>(Cc x aF).elim (fun U=>by omega) eQ
  obtain⟨az,ao⟩:=h.aE.f' x Rm QK;obtain⟨bd,bx⟩:=aV.aE.f' x ad eQ;exact⟨az.trans bd,ao.trans bx⟩
 ·have Rm:x<V.n:=eE ad aV.aE.n;obtain⟨b3,cI⟩:=h.aE.cls x Rm c;obtain⟨cp,b_⟩:=aV.aE.cls x ad c;exact⟨fun h ah=>cp (b3 h ah) ah,fun h=>cI (b_ h)⟩
 ·have anb:g<V.n:=eE bw aV.aE.n;rcases h.aE.tok g anb i j av with U|U
  ·exact aV.aE.tok g bw i j U
  ·exact .inr ((Cc g U).elim (fun aF=>by omega) id)
 ·rcases h.aE.lt p ae with⟨m,j,ko,es,left,cur,bF,kx,cn,Cv,bg,bl,bS,cP⟩|⟨j,bg,bl,hH,bS⟩
  ·exact .inl ⟨m,j,ko,es,left,cur,bF,kx,cn,Cv,bg,bl,⟨bS.av,bS.aq,bS.hm,bS.hi,bS.gf,bS.bw,bS.lW,bS.hr,bS.ak,QX m bS.hw,bS.nA⟩,cP⟩
  ·exact .inr ⟨j,bg,bl,hH,bS.hi,bS.gf,bS.bw⟩
theorem MM (aC:gj E) {cS:aH} {dW:cj} (aV:aW T E dW G cS V) (eX:cS.op=[]) {V':aO} (h:aW T (k5 E G V) aL G' W V'):aW T E aL G' W V':=agS aC aV eX (fun _ h=>h) h
mutual
theorem Yj {D:Nat→bb}:∀{t:bb} {a:ab} {W W1:aH} {s:al},bR D G t a→cW W t=(s,W1)→W.live=W1.live
 |.agg l,a,W,W1,s,aw,ax=>by
  simp only[cW]at ax;cases av:e3 W l with
  |mk x cD=>
   rw[av]at ax;cases ax;cases aw with
   |agg _ cs ak ad=>exact PD ak ad av
 |.eN l,a,W,W1,s,aw,ax=>by
  simp only[cW]at ax;cases av:e3 W l with
  |mk x cD=>
   rw[av]at ax;cases ax;cases aw with
   |eN _ cs ak ad=>exact PD ak ad av
 |.own _ _ _ _ _,a,W,W1,s,aw,ax=>by cases aw
 |.int _ _ _,a,W,W1,s,aw,ax=>by cases ax;rfl
 |.gn _,a,W,W1,s,aw,ax=>by cases ax;rfl
 |.bool,a,W,W1,s,aw,ax=>by cases ax;rfl
 |.any,a,W,W1,s,aw,ax=>by cases ax;rfl
 |.str _,a,W,W1,s,aw,ax=>by cases ax;rfl
 |.bN _ _ _,a,W,W1,s,aw,ax=>by cases ax;rfl
 |.ptr _ _,a,W,W1,s,aw,ax=>by cases ax;rfl
 |.map _ _,a,W,W1,s,aw,ax=>by cases ax;rfl
 |.e4 _ _,a,W,W1,s,aw,ax=>by cases ax;rfl
 |.fn _ _,a,W,W1,s,aw,ax=>by cases ax;rfl
 |.jL _,a,W,W1,s,aw,ax=>by cases ax;rfl
 |.rv _ _,a,W,W1,s,aw,ax=>by cases ax;rfl
 |.rs _ _ _,a,W,W1,s,aw,ax=>by cases ax;rfl
 |.aS _,a,W,W1,s,aw,ax=>by cases ax;rfl
theorem PD {D:Nat→bb}:∀{l:List bb} {cs:List ab} {W W1:aH} {ss:List al},l.length=cs.length→(∀(j:Nat) (t:bb) (c:ab),l[j]? =some t→cs[j]? =some c→bR D G t c)→e3 W l=(ss,W1)→W.live=W1.live
 | [],cs,W,W1,ss,_,_,ax=>by cases ax;rfl
 |t::l,[],W,W1,ss,ak,_,_=>by cases ak
 |t::l,c::cs,W,W1,ss,ak,ad,ax=>by
  simp only[e3]at ax;cases U:cW W t with
  |mk s cD=>
   rw[U]at ax;simp only at ax;cases aa:e3 cD l with
   |mk awc oQ=>
    rw[aa]at ax;cases ax;exact(Yj (ad 0 t c rfl rfl) U).trans (PD (by simpa using ak) (fun j t c aw af=>ad (j+1) t c (by simpa using aw) (by simpa using af)) aa)
end
theorem Jr:∀(ts:List bb) (_:ts.all tQ=true) {R:cj} {W:aH} (_:aW T E R G W V) {as:List ab} {ss:List al} {W':aH},ts.length=as.length→
  (∀(j:Nat) (t:bb) (a:ab),ts[j]? =some t→as[j]? =some a→hf T E G V t a)→(fi ts as).Nodup→(∀g∈fi ts as,∀p∈W.live,dv (R p.1)≠some g)→
  e3 W ts=(ss,W')→∃aL,dk R W aL W'∧aW T E aL G W' V∧aM aL ss=as∧cls W'.aD ss=true
 | [],_,R,W,h,as,ss,W',ak,_,_,_,he=>by
  simp only[e3]at he;cases he;cases as with
  |nil=>exact⟨R,.refl _ _,h,rfl,rfl⟩
  |cons c cs=>cases ak
 |t::ts,g5,R,W,h,as,ss,W',ak,av,aK,aQ,he=>by
  obtain⟨anI,anJ⟩:=a6 (show(tQ t&&ts.all tQ)=true from g5)
  cases as with
  |nil=>cases ak
  |cons a as=>
   simp only[e3]at he;cases ax:cW W t with
   |mk s W1=>
    rw[ax]at he;simp only at he;cases zd:e3 W1 ts with
    |mk Uy cD=>
     rw[zd]at he;cases he;have aV:=av 0 t a rfl rfl;have j3:=EF.1 aK;have first:∃dM,dk R W dM W1∧aW T E dM G W1 V∧s.ai dM=a∧s.bh W1.aD=true∧∀p∈W1.live,p∈W.live∨(dv (dM p.1)=dv a∧kB t=true):=by
      by_cases aw:∃cn sz e lo hi,t=.own cn sz e lo hi
      ·obtain⟨cn,sz,e,lo,hi,rfl⟩:=aw;have a':gJ e=0:=b5 anI;have o':=aV.2 _ _ _ _ _ rfl;obtain⟨bg,bl,bS,cP,eC⟩:=Ff h aV.1 (o'.e6 (fun _ _=>rfl) (fun g av=>(o'.tok av).1) (b1 _) (fun _ _ h=>h) (fun _ _ h=>h) (fun x _ b aj=>by rw[a']at aj;cases aj)) (by rw[a'];exact fv _) (fun p ae g u3=>aQ g (oS _ (by simp[k_,kB,u3])) p ae) ax
       refine⟨_,bS,cP,by rw[bg];exact eC,by rw[bg,bl];exact gp (gT _),fun p ae=> ?_⟩
       rw[bl]at ae;rcases cu.1 ae with rfl|ae
       ·exact .inr ⟨by rw[eC],rfl⟩
       ·exact .inl ae
      ·have aN:l0 t=t:=by cases t<;>first|rfl|exact absurd ⟨_,_,_,_,_,rfl⟩ aw
       have cY:=aV.1;rw[aN]at cY;obtain⟨dM,bg,bl,bS,cP⟩:=mQ t h cY ax;refine⟨dM,bg,bl,bS,cP,fun p ae=>.inl ?_⟩;have:W1.live=W.live:=by rw[←Yj cY ax]
       rw[←this];exact ae
     obtain⟨dM,az,ao,aX,bD,c8⟩:=first
     obtain⟨dQ,bd,bx,bT,dp⟩:=Jr ts anJ ao (by simpa using ak) (fun j t a aw aA=>av (j+1) t a (by simpa using aw) (by simpa using aA)) j3.2.1 (fun g w_ p ae=>by
      rcases c8 p ae with c0|⟨c0,ay⟩
      ·rw[←az.dq _ (h.aT.live p c0)];exact aQ g (nh _ w_) p c0
      ·rw[c0];intro aB;exact j3.2.2 g (by simp[k_,ay,aB]) g w_ rfl) zd
     obtain⟨b',ct⟩:=bd.ai bD;exact⟨dQ,az.trans bd,bx,by simp only[aM,b',aX,bT],by simp only[cls,ct,dp];rfl⟩
end Go.bO.cK
end
section
namespace Go.bO.cK
variable {dm:Bool} {T:bG} [e8 T] {E:dS} {R aL:cj} {G G':Nat→cR} {W:aH} {V:aO} {se:bE} {env:aP}
def bj.iO (dm:Bool) (r:bj) (bU:dT→aP→aO→Prop):Prop:=(dm=true→∃x env V,r=.done x env V∧bU x env V)∧r.all bU
theorem bj.sJ {x:dT} {env:aP} {V:aO} {bU:dT→aP→aO→Prop} (h:bU x env V):bj.iO dm (.done x env V) bU:=⟨fun _=>⟨x,env,V,rfl,h⟩,h⟩
theorem bj.tY {r:bj} {bU oK:dT→aP→aO→Prop} (h:bj.iO dm r bU) (hm:∀x env V,bU x env V→oK x env V):bj.iO dm r oK:=
 ⟨fun aQ=>let⟨x,e,V,U,aa⟩:=h.1 aQ;⟨x,e,V,U,hm x e V aa⟩,bj.s0 hm h.2⟩
def Ib (dm:Bool) (bU:dT→aP→aO→Prop):v_ dm:=⟨fun r=>bj.iO dm r bU,fun aQ a b aA aj=>⟨fun h=>(by rw[aQ]at h;cases h),aA.2,aj.2⟩⟩
theorem VS {b:dd} {Q:v_ dm} {bU:dT→aP→aO→Prop} {r:bj} (h:bj.iO dm r bU) (aq:∀x env V,bU x env V→Q (afB b env V x)):Q (Ho b r):=by
 cases dm with
 |true=>
  obtain⟨x,e,V,rfl,U⟩:=h.1 rfl;exact aq x e V U
 |false=>
  have aa:=h.2;clear h
  induction r with
  |done x e V=>exact aq x e V aa
  |bad=>cases aa
  |alt a b ou nF=>exact Q.alt rfl _ _ (ou aa.1) (nF aa.2)
theorem ai4 {id:Nat} {Q:v_ dm} {bU:dT→aP→aO→Prop} {r:bj} (h:bj.iO dm r bU) (aq:∀x env V,bU x env V→Q (ND id env V x)):Q (Iu id r):=by
 cases dm with
 |true=>
  obtain⟨x,e,V,rfl,U⟩:=h.1 rfl;exact aq x e V U
 |false=>
  have aa:=h.2;clear h
  induction r with
  |done x e V=>exact aq x e V aa
  |bad=>cases aa
  |alt a b ou nF=>exact Q.alt rfl _ _ (ou aa.1) (nF aa.2)
def qx (T:bG) (E:dS) (R:cj) (W:aH) (outs:List gv) (x:dT) (bP:aP) (V':aO):Prop:=
 ∃gA W' aL G',(x,gA,W')∈outs∧dk R W aL W'∧aW T E aL G' W' V'∧ch aL W'.aD gA bP
def l1 (dm:Bool) (T:bG) (E:dS) (R:cj) (W:aH) (outs:List gv) (rU:bj):Prop:=bj.iO dm rU (qx T E R W outs)
def kh (dm:Bool) (T:bG) (f:bE→aH→gG) (run:dd):Prop:=
 ∀(E:dS),gj E→∀(R:cj) (G:Nat→cR) (W:aH) (V:aO) (se:bE) (env:aP) (outs:List gv),aW T E R G W V→ch R W.aD se env→f se W=some outs→l1 dm T E R W outs (run env V)
theorem qx.mem {outs GW:List gv} {x:dT} {bP:aP} {V':aO} (h:qx T E R W outs x bP V') (hs:∀p∈outs,p∈GW):qx T E R W GW x bP V':=
 let⟨gA,W',aL,G',aa,au⟩:=h;⟨gA,W',aL,G',hs _ aa,au⟩
theorem qx.later {W1:aH} {dM:cj} {outs:List gv} {x:dT} {bP:aP} {V':aO} (h:qx T E dM W1 outs x bP V') (ak:dk R W dM W1):qx T E R W outs x bP V':=
 let⟨gA,W',aL,G',aa,au,ba⟩:=h;⟨gA,W',aL,G',aa,ak.trans au,ba⟩
theorem l1.mem {outs GW:List gv} {rU:bj} (h:l1 dm T E R W outs rU) (hs:∀p∈outs,p∈GW):l1 dm T E R W GW rU:=bj.tY h fun _ _ _ q=>q.mem hs
theorem l1.later {W1:aH} {dM:cj} {outs:List gv} {rU:bj} (h:l1 dm T E dM W1 outs rU) (ak:dk R W dM W1):l1 dm T E R W outs rU:=bj.tY h fun _ _ _ q=>q.later ak
theorem To {r:dG} {run:bI→bj} {outs:List gv} (h:dt dm T E R W r run) (ay:C0 r=some outs):l1 dm T E R W outs (run (.done .normal)):=by
 cases r with
 |none=>cases ay
 |some l=>
  cases ay;exact h l rfl (Ib dm (qx T E R W _)) _ fun p ae aL G' bP V' U aa au=>bj.sJ ⟨p.1,p.2,aL,G',eO.2 ⟨p,ae,rfl⟩,U,aa,au⟩
theorem NB {k:bE→aH→gG}:∀{l outs:List gv},rL k l=some outs→∀x e W,(x,e,W)∈l→(x=.normal→∃o,k e W=some o∧∀q∈o,q∈outs)∧(x≠.normal→(x,e,W)∈outs)
 | [],outs,_,x,e,W,h=>by cases h
 |(h3,cE,cS)::l,outs,aj,x,e,W,h=>by
  by_cases ad:h3=.normal
  ·subst ad;simp only[rL]at aj;obtain⟨a,b,U,aa,au⟩:=IK aj;rcases cu.1 h with h|h
   ·cases h;exact⟨fun _=>⟨a,U,fun q aB=>by rw[au];exact oS _ aB⟩,fun aF=>absurd rfl aF⟩
   ·obtain⟨bg,bl⟩:=NB aa x e W h;exact⟨fun aK=>let⟨o,bZ,cB⟩:=bg aK;⟨o,bZ,fun q aB=>by rw[au];exact nh _ (cB q aB)⟩,fun aK=>by rw[au];exact nh _ (bl aK)⟩
  ·have dJ:∃r,rL k l=some r∧outs=(h3,cE,cS)::r:=by
    cases h3 with
    |normal=>exact absurd rfl ad
    |exit i=>
     simp only[rL]at aj;split at aj
     ·rename_i r ah;cases aj;exact⟨r,ah,rfl⟩
     ·cases aj
    |ret=>
     simp only[rL]at aj;split at aj
     ·rename_i r ah;cases aj;exact⟨r,ah,rfl⟩
     ·cases aj
   obtain⟨r,U,aa⟩:=dJ;rcases cu.1 h with h|h
   ·cases h;exact⟨fun aK=>absurd aK ad,fun _=>by rw[aa];exact cz ..⟩
   ·obtain⟨bg,bl⟩:=NB U x e W h;exact⟨fun aK=>let⟨o,bZ,cB⟩:=bg aK;⟨o,bZ,fun q aB=>by rw[aa];exact cv _ (cB q aB)⟩,fun aK=>by rw[aa];exact cv _ (bl aK)⟩
theorem Uk {f k:bE→aH→gG} {run Hk:dd} (U:kh dm T f run) (aa:kh dm T k Hk):kh dm T (fun se W=>x5 (f se W) k) (fun env V=>Ho Hk (run env V)):=by
 intro E aC R G W V se env outs ec JD ay;cases ax:f se W with
 |none=>simp only[ax,x5]at ay;cases ay
 |some l=>
  simp only[ax,x5]at ay;refine VS (Q:=Ib dm (qx T E R W outs)) (U E aC R G W V se env l ec JD ax) ?_;rintro x bP V' ⟨gA,W',aL,G',bl,bS,cP,eC⟩;obtain⟨cp,b_⟩:=NB ay x gA W' bl;cases x with
  |normal=>
   obtain⟨o,bZ,cB⟩:=cp rfl;exact((aa E aC aL G' W' V' gA bP o cP eC bZ).mem cB).later bS
  |exit i=>exact bj.sJ ⟨gA,W',aL,G',b_ (fun h=>by cases h),bS,cP,eC⟩
  |ret=>exact bj.sJ ⟨gA,W',aL,G',b_ (fun h=>by cases h),bS,cP,eC⟩
theorem Wu {id:Nat}:∀{l:List gv} {x:dT} {e:bE} {W:aH},(x,e,W)∈l→(x≠.exit id→(x,e,W)∈ta id l)∧(x=.exit id→(.normal,e,W)∈ta id l)
 | [],x,e,W,h=>by cases h
 |(h3,cE,cS)::l,x,e,W,h=>by
  have bm:=fun aF=>Wu (id:=id) (l:=l) (x:=x) (e:=e) (W:=W) aF;have amR:∃y,ta id ((h3,cE,cS)::l)=y::ta id l∧(h3≠.exit id→y=(h3,cE,cS))∧(h3=.exit id→y=(.normal,cE,cS)):=by
   cases h3 with
   |normal=>exact⟨_,rfl,fun _=>rfl,fun aF=>by cases aF⟩
   |ret=>exact⟨_,rfl,fun _=>rfl,fun aF=>by cases aF⟩
   |exit i=>
    refine⟨_,rfl,fun aK=> ?_,fun aF=> ?_⟩
    ·have:Nat.beq i id=false:=by rw[gY];exact decide_eq_false (fun e=>aK (by rw[e]))
     rw[this];rfl
    ·cases aF;have:Nat.beq id id=true:=by rw[gY];exact decide_eq_true rfl
     rw[this];rfl
  obtain⟨y,U,aa,au⟩:=amR;rw[U];rcases cu.1 h with h|h
  ·cases h;exact⟨fun aK=>by rw[aa aK];exact cz ..,fun aF=>by rw[au aF];exact cz ..⟩
  ·obtain⟨bg,bl⟩:=bm h;exact⟨fun aK=>cv _ (bg aK),fun aF=>cv _ (bl aF)⟩
theorem ajG {id:Nat} {f:bE→aH→gG} {run:dd} (h:kh dm T f run):kh dm T (fun se W=>match f se W with|some l=>some (ta id l)|none=>none) (fun env V=>Iu id (run env V)):=by
 intro E aC R G W V se env outs ec JD ay;simp only at ay;split at ay
 ·rename_i l ak;cases ay;refine ai4 (Q:=Ib dm (qx T E R W _)) (h E aC R G W V se env l ec JD ak) ?_;rintro x bP V' ⟨gA,W',aL,G',bl,bS,cP,eC⟩;obtain⟨cp,b_⟩:=Wu (id:=id) bl;cases x with
  |normal=>exact bj.sJ ⟨gA,W',aL,G',cp (fun h=>by cases h),bS,cP,eC⟩
  |ret=>exact bj.sJ ⟨gA,W',aL,G',cp (fun h=>by cases h),bS,cP,eC⟩
  |exit i=>
   show bj.iO dm (bif Nat.beq i id then bj.done .normal bP V' else .done (.exit i) bP V') _
   by_cases hi:i=id
   ·subst hi;rw[gY,decide_eq_true rfl];exact bj.sJ ⟨gA,W',aL,G',b_ rfl,bS,cP,eC⟩
   ·rw[gY,decide_eq_false hi];exact bj.sJ ⟨gA,W',aL,G',cp (fun h=>by cases h;exact hi rfl),bS,cP,eC⟩
 ·cases ay
theorem agT {f:bE→aH→gG} {run:dd} (h:kh dm T f run):∀(m n:Nat),m≤n→kh dm T (Vf f m) (sx run n)
 |0,n,_=>fun E aC R G W V se env outs ec JD ay=>by cases ay
 |m+1,0,bz=>by omega
 |m+1,n+1,bz=>Uk h (agT h m n (by omega))
theorem ak_ {a b:Lit} (h:Pc a b=true):a=b:=by
 unfold Pc at h;split at h
 ·rw[eq_of_beq h]
 ·obtain⟨U,aa⟩:=a6 h;rw[b5 U,eq_of_beq aa]
 ·obtain⟨U,aa⟩:=a6 h;rw[b5 U,eq_of_beq aa]
 ·rw[tm h]
 ·obtain⟨U,aa⟩:=a6 h;rw[tm U,eq_of_beq aa]
 ·cases h
theorem o2:∀{f:Nat} {a b:al},h5 f a b=true→a=b
 |0,a,b,h=>by cases h
 |f+1,a,b,h=>by
  have bm:∀a b,h5 f a b=true→a=b:=fun a b h=>o2 h;unfold h5 at h;split at h
  ·rw[Je h]
  ·obtain⟨U,aa⟩:=a6 h;rw[pn U,tm aa]
  ·rw[ak_ h]
  ·rw[b5 h]
  ·obtain⟨U,aa⟩:=a6 h;rw[b5 U,b5 aa]
  ·rw[oR bm h]
  ·rw[oR bm h]
  ·rw[oR bm h]
  ·rw[oR bm h]
  ·obtain⟨U,aa⟩:=a6 h;rw[b5 U,bm _ _ aa]
  ·obtain⟨U,aa⟩:=a6 h;obtain⟨aa,au⟩:=a6 aa;rw[b5 U,oR bm aa,oR bm au]
  ·cases h
theorem af9 {x y:fx} {e:aJ} (h:Ay x y=true) (aI:cZ R y e):cZ R x e:=by
 unfold Ay at h;split at h
 ·trivial
 ·rw[o2 h];exact aI
 ·rw[oR (fun _ _ h=>o2 h) h];exact aI
 ·obtain⟨U,aa⟩:=a6 h;rw[b5 U,b5 aa];exact aI
 ·cases h
theorem DL:∀{a b:bE},Az a b=true→∀p:iR,Ay (h1 .un p a) (h1 .un p b)=true
 |.dL,b,_,p=>by rw[uc];rfl
 |.fr v l r,.fr w m s,h,p=>by
  obtain⟨U,aa⟩:=a6 h;obtain⟨aa,au⟩:=a6 aa;cases p with
  |z=>exact U
  |a p=>exact DL aa p
  |b p=>exact DL au p
 |.fr v l r,.dL,h,p=>by
  obtain⟨U,aa⟩:=a6 h;obtain⟨aa,au⟩:=a6 aa;cases p with
  |z=>exact U
  |a p=>have:=DL aa p;rwa [uc]at this
  |b p=>have:=DL au p;rwa [uc]at this
theorem VM {f:Nat}:∀{a b:List al},gN (h5 f) a b=true→a=b
 | [],[],_=>rfl
 | [],_::_,h=>by cases h
 |_::_,[],h=>by cases h
 |x::a,y::b,h=>by
  obtain⟨U,aa⟩:=a6 h;rw[o2 U,VM aa]
end Go.bO.cK
end
section
namespace Go.bO.cK
variable {dm:Bool} {T:bG} [e8 T] {E:dS} {R aL:cj} {G G':Nat→cR} {W:aH} {V:aO} {se:bE} {env:aP}
noncomputable def lB (V:aO):List Nat→ab→ab
 | [],a=>a
 |o::r,a=>match a with
  |.ptr i 0=>(match V.at i with
   |.obj cs=>lB V r ((cs[o]?).getD .top)
   |_=>.top)
  |.func _ _ c=>lB V r ((c[o]?).getD .top)
  |.slice xs _ _=>lB V r ((xs[Nat.mod o 2000]?).getD .top)
  |.agg l=>lB V r ((l[o]?).getD .top)
  |_=>.top
theorem aj4 (h:aW T E R G W V) {o:Nat} {s x:al} (af:s.bh W.aD=true) (ad:NY W o s=some x):x.bh W.aD=true∧∀r,lB V (o::r) (s.ai R)=lB V r (x.ai R):=by
 unfold NY at ad;split at ad
 ·rename_i v;split at ad
  ·rename_i t lo hi aw;obtain⟨aj,ad⟩:=eF ad;have ar:=h.ok.ty v;rw[aw]at ar;obtain⟨xs,nl,tok,ah,_⟩:=afM ar;obtain⟨f1,f2⟩:=Pt h ad ah (n:=Nat.mod o 2000) (by simp)
   refine⟨f2,fun r=> ?_⟩;simp only[al.ai];rw[ah];simp only[lB];rw[f1];rfl
  ·cases ad
 ·rw[j_]at ad;refine⟨lP ad (a6 af).2,fun r=> ?_⟩;simp only[al.ai,lB];rw[mj ad];rfl
 ·rw[j_,RX,ic]at ad;rename_i f a c;cases av:c[o]? with
  |none=>rw[av]at ad;cases ad
  |some y=>
   rw[av]at ad;cases ad;refine⟨rfl,fun r=> ?_⟩;simp only[al.ai,lB];rw[av];rfl
 ·rw[j_]at ad;refine⟨lP ad af,fun r=> ?_⟩;simp only[al.ai,lB];rw[mj ad];rfl
 ·rw[j_,RX,ic]at ad;rename_i l;cases av:l[o]? with
  |none=>rw[av]at ad;cases ad
  |some y=>
   rw[av]at ad;cases ad;refine⟨rfl,fun r=> ?_⟩;simp only[al.ai,lB];rw[av];rfl
 ·cases ad
theorem aer {s:al} {v n:Nat} (h:qi s=some v) (af:s.bh n=true):v<n:=by
 unfold qi at h;split at h
 ·cases h;exact e9 af
 ·simp only[bk]at h;subst h;exact e9 af
 ·cases h
theorem aes {s:al} {v i:Nat} (h:qi s=some v) (ar:R v=.ptr i 0):s.ai R=.ptr i 0:=by
 unfold qi at h;split at h
 ·cases h;exact ar
 ·simp only[bk]at h;subst h;simp only[al.ai,ar,sD]
 ·cases h
theorem Dv:∀{p:List Nat} {s x:al} {R:cj} {W W':aH},aW T E R G W V→s.bh W.aD=true→xX T p s W=some (x,W')→∃aL,dk R W aL W'∧aW T E aL G W' V∧x.ai aL=lB V p (s.ai R)∧x.bh W'.aD=true
 | [],s,x,R,W,W',h,af,ah=>by cases ah;exact⟨R,.refl _ _,h,rfl,af⟩
 |o::r,s,x,R,W,W',h,af,ah=>by
  simp only[xX]at ah;split at ah
  ·rename_i y aI;obtain⟨az,ao⟩:=aj4 h af aI;obtain⟨dQ,bd,bx,bT,dp⟩:=Dv h az ah;exact⟨dQ,bd,bx,by rw[bT,ao],dp⟩
  split at ah
  ·rename_i w hw;have aoB:=aer hw af;split at ah
   ·rename_i c ej;obtain⟨i,hi,av⟩:=tf h ej;split at ah
    ·rename_i cn aw;rw[j_]at aw;obtain⟨ud,cs,aq,bM,cl,ik⟩:=IL h av aw;rw[aq]at aw;simp only[hE]at aw;obtain⟨gX,Fw⟩:=rX (l:=cs) (r:=ud) cl.symm aw;cases nz:CE W w o cn with
     |mk y W1=>
      rw[nz]at ah;obtain⟨dM,az,ao,aX,bD⟩:=aca h aoB hi bM Fw av (ik _ cn gX aw Fw).1 nz;obtain⟨dQ,bd,bx,bT,dp⟩:=Dv ao bD ah;refine⟨dQ,az.trans bd,bx,?_,dp⟩;rw[bT,aX,aes hw hi];simp only[lB];rw[bM];simp only;rw[Fw];rfl
    ·cases ah
   ·cases ah
  ·cases ah
noncomputable def MO (env:aP) (s:Nat):ab:=match c7 env s with
 |.val a=>a
 |_=>.top
noncomputable def fE (env:aP) (V:aO) (ce:List (Nat × List Nat)):List ab:=ce.map fun p=>lB V p.2 (MO env p.1)
noncomputable def Wz (env:aP) (s o:Nat):ab:=match c7 env s with
 |.box l=>(l[o]?).getD .top
 |_=>.top
noncomputable def DC (env:aP) (cs:List ab) (v:Nat):ab:=if v<50000 then MO env v else if v<100000 then Wz env (Nat.mod (Nat.div v 100) 500) (Nat.mod v 100)else(cs[v/100000-1]?).getD .top
noncomputable def Ap (env:aP) (cs:List ab):At→Int
 |.i v=>intOf (DC env cs v)
 |.l v=>lenOf (DC env cs v)
noncomputable def Mb (env:aP) (cs:List ab):List (Int × At)→Int
 | []=>0
 |(k,a)::r=>k*Ap env cs a+Mb env cs r
noncomputable def ju (env:aP) (cs:List ab) (l:bn):Int:=l.c+Mb env cs l.t
theorem agU {n:Nat} (he:ch R n se env) {s:Nat} {x:al} (ad:ee se s=.val x):MO env s=x.ai R∧x.bh n=true:=by
 have U:=he.mf s;have aa:=he.bh s;rw[ad]at U aa;simp only[cZ]at U;unfold MO;rw[U];exact⟨rfl,aa⟩
theorem Hb:∀{ce:List (Nat × List Nat)} {xs:List al} {R:cj} {W W':aH},aW T E R G W V→ch R W.aD se env→xY T se ce W=some (xs,W')→∃aL,dk R W aL W'∧aW T E aL G W' V∧aM aL xs=fE env V ce∧cls W'.aD xs=true
 | [],xs,R,W,W',h,he,ah=>by cases ah;exact⟨R,.refl _ _,h,rfl,rfl⟩
 |(k,p)::r,xs,R,W,W',h,he,ah=>by
  simp only[xY]at ah;split at ah
  ·rename_i s hs;obtain⟨v1,v2⟩:=agU he hs;split at ah
   ·rename_i x W1 U;split at ah
    ·rename_i ys cD aa;cases ah;obtain⟨dM,az,ao,aX,bD⟩:=Dv h v2 U;obtain⟨dQ,bd,bx,bT,dp⟩:=Hb ao (he.later az) aa;obtain⟨bg,bl⟩:=bd.ai bD;refine⟨dQ,az.trans bd,bx,?_,by simp only[cls,bl,dp];rfl⟩
     simp only[aM,bg,bT,aX];simp only[fE,gM];rw[v1]
    ·cases ah
   ·cases ah
  ·cases ah
theorem Uu {n:Nat} (he:ch R n se env) {xs:List al} (af:cls n xs=true) {v:Nat} {s:al} (hs:Hs se xs v=some s):DC env (aM R xs) v=s.ai R∧s.bh n=true:=by
 unfold Hs at hs;unfold DC;rw[kK]at hs;by_cases iY:v<50000
 ·rw[decide_eq_true iY]at hs;rw[if_pos iY];simp only[cond_true]at hs;split at hs
  ·rename_i x ad;cases hs;exact agU he ad
  ·cases hs
 rw[decide_eq_false iY,cond_false,kK]at hs;rw[if_neg iY];by_cases ar:v<100000
 ·rw[decide_eq_true ar]at hs;rw[if_pos ar];simp only[cond_true]at hs;split at hs
  ·rename_i l ad;have U:=he.mf (Nat.mod (Nat.div v 100) 500);have aa:=he.bh (Nat.mod (Nat.div v 100) 500);rw[ad]at U aa;simp only[cZ]at U;rw[j_]at hs;refine⟨?_,lP hs aa⟩;unfold Wz;rw[U];simp only;rw[mj hs];rfl
  ·cases hs
 ·rw[decide_eq_false ar]at hs;rw[if_neg ar];simp only[cond_false]at hs;have aQ:Nat.sub (Nat.div v 100000) 1=v/100000-1:=rfl;rw[aQ,j_]at hs;rw[mj hs];exact⟨rfl,lP hs af⟩
theorem ajm (h:aW T E R G W V) (he:ch R W.aD se env) {xs:List al} (af:cls W.aD xs=true) {a:At} {l:bn} (ak:Iq W se xs a=some l):l.ai R=Ap env (aM R xs) a∧l.bh W.aD=true:=by
 cases a with
 |i v=>
  simp only[Iq]at ak;split at ak
  ·rename_i s hs;obtain⟨e1,bf⟩:=Uu he af hs;split at ak
   ·rename_i k x ad;cases ak;obtain⟨aN,c2⟩:=gP (R:=R) ad;exact⟨by simp only[Ap,e1,aN,intOf],c2 _ bf⟩
   ·cases ak
  ·cases ak
 |l v=>
  simp only[Iq]at ak;split at ak
  ·rename_i s hs;obtain⟨e1,bf⟩:=Uu he af hs;split at ak
   ·rename_i x ad;cases ak;obtain⟨⟨ys,nl,tok,aN,bL⟩,c2⟩:=U8 h ad;exact⟨by simp only[Ap,e1,aN,lenOf,bL],c2 bf⟩
   ·split at ak
    ·rename_i x ad;cases ak;obtain⟨⟨ys,aN,bL⟩,c2⟩:=HH h ad;exact⟨by simp only[Ap,e1,aN,lenOf,bL],c2 bf⟩
    ·obtain⟨⟨n,bL,aN⟩,c2⟩:=U9 h ak;refine⟨?_,c2 bf⟩;rcases aN with⟨g,c,aN⟩|⟨nR,nl,tok,aN,eB⟩
     ·simp only[Ap,e1,aN,lenOf,bL]
     ·simp only[Ap,e1,aN,lenOf,bL,eB]
  ·cases ak
theorem aga (h:aW T E R G W V) (he:ch R W.aD se env) {xs:List al} (af:cls W.aD xs=true):∀{t:List (Int × At)} {l:bn},Mr W se xs t=some l→l.ai R=Mb env (aM R xs) t∧l.bh W.aD=true
 | [],l,ak=>by cases ak;exact⟨by simp[Mb],rfl⟩
 |(k,a)::r,l,ak=>by
  simp only[Mr]at ak;split at ak
  ·rename_i x y ad aI;cases ak;obtain⟨U,aa⟩:=ajm h he af ad;obtain⟨au,ba⟩:=aga h he af aI;exact⟨by rw[wY,BJ,U,au];rfl,EO (EP aa) ba⟩
  ·cases ak
theorem x9 (h:aW T E R G W V) (he:ch R W.aD se env) {xs:List al} (af:cls W.aD xs=true) {l x:bn} (ak:sK W se xs l=some x):x.ai R=ju env (aM R xs) l∧x.bh W.aD=true:=by
 unfold sK at ak;split at ak
 ·rename_i y aI;cases ak;obtain⟨U,aa⟩:=aga h he af aI;exact⟨by rw[fe,U];simp only[ju];omega,qL aa⟩
 ·cases ak
theorem DH (h:aW T E R G W V) (he:ch R W.aD se env) {xs:List al} (af:cls W.aD xs=true):∀{l x:List bn},x_ W se xs l=some x→x.map (bn.ai R)=l.map (ju env (aM R xs))∧∀y∈x,y.bh W.aD=true
 | [],x,ak=>by cases ak;exact⟨rfl,fun y aI=>by cases aI⟩
 |a::l,x,ak=>by
  simp only[x_]at ak;split at ak
  ·rename_i y z aI a';cases ak;obtain⟨U,aa⟩:=x9 h he af aI;obtain⟨au,ba⟩:=DH h he af a';exact⟨by simp only[gM,U,au],fun w hw=>(cu.1 hw).elim (fun e=>e▸aa) (ba w)⟩
  ·cases ak
theorem Ym:∀{l:List bn} {W:aH},Ok T G R W→tp W l=true→∀x∈l,0≤x.ai R
 | [],W,_,_,x,ad=>by cases ad
 |a::l,W,h,ak,x,ad=>by
  obtain⟨U,aa⟩:=a6 ak;have U:=dE h U;rcases cu.1 ad with rfl|ad
  ·exact U
  ·exact Ym (h.g2 U) aa x ad
theorem Fi (h:aW T E R G W V) {l:List bn} (ak:tp W l=true):∀x∈l,0≤x.ai R:=Ym h.ok ak
theorem aW.g2 (h:aW T E R G W V) {l:bn} (ak:0≤l.ai R) (af:l.bh W.aD=true):aW T E R G (W.g2 l) V:=
 ⟨h.ok.g2 ak,⟨fun x ad=>(cu.1 ad).elim (fun e=>e▸af) (h.aT.ge x),h.aT.da,h.aT.cC,h.aT.cells,h.aT.live,h.aT.cA,h.aT.wr,h.aT.b2,h.aT.op,h.aT.lt,h.aT.gz,h.aT.rd⟩,h.aE.same rfl rfl rfl rfl rfl rfl rfl rfl⟩
theorem Na:∀{l:List bn} {W:aH},aW T E R G W V→(∀x∈l,0≤x.ai R∧x.bh W.aD=true)→aW T E R G (hB l W) V∧(hB l W).aD=W.aD
 | [],W,h,_=>⟨h,rfl⟩
 |a::l,W,h,ad=>by
  obtain⟨U,aa⟩:=ad a (cz ..);obtain⟨az,ao⟩:=Na (l:=l) (h.g2 U aa) (fun x hm=>ad x (cv _ hm));exact⟨az,ao⟩
theorem amA (bY:Ok T G R W) {k:Nat} {as:List al} (h:P9 T W k as=true):eu T k (aM R as):=by
 unfold P9 at h;rw[g1,h4]at h;rcases h with⟨p,ae,h⟩|h
 ·obtain⟨U,aa⟩:=a6 h;have U:=b5 U;have aa:=VM aa;rw[U,aa];exact bY.b2 p ae
 ·exact e8.pw bY h
theorem TA (bY:Ok T G R W):∀{q:List (Nat × List al)},tT T W q=true→∀p∈q,eu T p.1 (aM R p.2)
 | [],_,p,ae=>by cases ae
 |(k,as)::r,h,p,ae=>by
  obtain⟨U,aa⟩:=a6 h;rcases cu.1 ae with rfl|ae
  ·exact amA bY U
  ·exact TA bY aa p ae
theorem Nb:∀{q:List (Nat × List al)} {W:aH},aW T E R G W V→(∀p∈q,eu T p.1 (aM R p.2)∧cls W.aD p.2=true)→aW T E R G (ie q W) V∧(ie q W).aD=W.aD
 | [],W,h,_=>⟨h,rfl⟩
 |(k,as)::r,W,h,aB=>by
  obtain⟨U,aa⟩:=aB _ (cz ..);exact Nb (q:=r) (h.l7 aa U) fun p ae=>aB p (cv _ ae)
noncomputable def mD (env:aP) (ys:List ab) (p:Nat × List Nat):Nat × List ab:=(p.1,p.2.map (DC env ys))
theorem afN {n:Nat} (he:ch R n se env) {xs:List al} (af:cls n xs=true):∀{l:List Nat} {r:List al},Mk se xs l=some r→aM R r=l.map (DC env (aM R xs))∧cls n r=true
 | [],r,h=>by cases h;exact⟨rfl,rfl⟩
 |v::l,r,h=>by
  simp only[Mk]at h;split at h
  ·rename_i s q hs aB;cases h;obtain⟨U,aa⟩:=Uu he af hs;obtain⟨au,ba⟩:=afN he af aB;exact⟨by simp only[aM,gM,U,au],by simp only[cls,aa,ba];rfl⟩
  ·cases h
theorem Uv {n:Nat} (he:ch R n se env) {xs:List al} (af:cls n xs=true):∀{l:List (Nat × List Nat)} {q:List (Nat × List al)},t_ se xs l=some q→q.map (fun p=>(p.1,aM R p.2))=l.map (mD env (aM R xs))∧∀p∈q,cls n p.2=true
 | [],q,h=>by cases h;exact⟨rfl,fun p ae=>by cases ae⟩
 |(k,l)::r,q,h=>by
  simp only[t_]at h;split at h
  ·rename_i s ka hs aB;cases h;obtain⟨U,aa⟩:=afN he af hs;obtain⟨au,ba⟩:=Uv he af aB;exact⟨by simp only[gM,U,au,mD],fun p ae=>(cu.1 ae).elim (fun e=>e▸aa) (ba p)⟩
  ·cases h
theorem Mj {n:Nat} (bY:Ok T G R W) (he:ch R n se env) {xs:List al} (af:cls n xs=true) {l:List (Nat × List Nat)} {q:List (Nat × List al)} (aB:t_ se xs l=some q) (ae:tT T W q=true):
  ∀p∈l,eu T (mD env (aM R xs) p).1 (mD env (aM R xs) p).2:=by
 intro p hm;have:mD env (aM R xs) p∈l.map (mD env (aM R xs)):=eO.2 ⟨p,hm,rfl⟩;rw[←(Uv he af aB).1]at this;obtain⟨y,aI,e⟩:=eO.1 this;rw[←e];exact TA bY ae y aI
theorem atC {n:Nat} (he:ch R n se env) {xs:List al} (af:cls n xs=true) {l:List (Nat × List Nat)} {q:List (Nat × List al)} (aB:t_ se xs l=some q) (ae:∀p∈l,eu T (mD env (aM R xs) p).1 (mD env (aM R xs) p).2):
  ∀p∈q,eu T p.1 (aM R p.2)∧cls n p.2=true:=by
 intro p hm;obtain⟨U,aa⟩:=Uv he af aB;refine⟨?_,aa p hm⟩;have:(p.1,aM R p.2)∈q.map (fun p=>(p.1,aM R p.2)):=eO.2 ⟨p,hm,rfl⟩;rw[U]at this;obtain⟨y,aI,e⟩:=eO.1 this;have:=ae y aI;rw[e]at this;exact this
theorem PI:∀{a b:List al} {ts us:List bb} {W W1:aH},k9 T W a ts=some W1→k9 T W (a++b) (ts++us)=k9 T W1 b us
 | [],b,[],us,W,W1,h=>by cases h;rfl
 | [],b,_::_,us,W,W1,h=>by cases h
 |_::_,b,[],us,W,W1,h=>by cases h
 |x::a,b,t::ts,us,W,W1,h=>by
  simp only[k9]at h;split at h
  ·rename_i cD aa;simp only[Bg,k9,aa];exact PI h
  ·cases h
theorem PC:∀{a b:List bb} {W:aH},e3 W (a++b)=((e3 W a).1++(e3 (e3 W a).2 b).1,(e3 (e3 W a).2 b).2)
 | [],b,W=>rfl
 |t::a,b,W=>by
  simp only[Bg,e3];rw[PC]
theorem Js:∀{a:List bb} {W:aH},(e3 W a).1.length=a.length
 | [],W=>rfl
 |t::a,W=>by
  simp only[e3,mb];rw[Js]
def HX (env:aP):List (Nat × List bb)→List ab→Prop
 | [],_=>True
 |(s,ts)::r,as=>c7 env s=.box (as.take ts.length)∧HX env r (as.drop ts.length)
def pz (la:dX):List bb:=la.bN.map (·.2)++la.bK.flatMap (·.2)
def M3 (la:dX) (env:aP) (as:List ab):Prop:=(∀(j:Nat) (p:Nat × bb) (a:ab),la.bN[j]? =some p→as[j]? =some a→c7 env p.1=.val a)∧HX env la.bK (as.drop la.bN.length)
theorem Yr:∀{bN:List (Nat × bb)} {W W':aH},Jy T se bN W=some W'→∃vs:List al,vs.length=bN.length∧(∀(j:Nat) (p:Nat × bb) (v:al),bN[j]? =some p→vs[j]? =some v→ee se p.1=.val v)∧k9 T W vs (bN.map (·.2))=some W'
 | [],W,W',h=>by cases h;exact⟨[],rfl,fun j p v ae=>by simp at ae,rfl⟩
 |(s,t)::r,W,W',h=>by
  simp only[Jy]at h;split at h
  ·rename_i v ar;split at h
   ·rename_i W1 U;obtain⟨vs,az,ao,aX⟩:=Yr h;refine⟨v::vs,by simp[az],fun j p w ae hw=> ?_,?_⟩
    ·cases j with
     |zero=>
      simp only[l5,bk]at ae hw;subst ae;subst hw;exact ar
     |succ j=>exact ao j p w (by simpa using ae) (by simpa using hw)
    ·simp only[gM,k9,U];exact aX
   ·cases h
  ·cases h
theorem Yt:∀{a:List al} {ts:List bb} {W W1:aH},k9 T W a ts=some W1→a.length=ts.length
 | [],[],_,_,_=>rfl
 | [],_::_,W,W1,h=>by cases h
 |_::_,[],W,W1,h=>by cases h
 |x::a,t::ts,W,W1,h=>by
  simp only[k9]at h;split at h
  ·simp[Yt h]
  ·cases h
theorem Yq {n:Nat} (he:ch R n se env):∀{bK:List (Nat × List bb)} {W W':aH},Jw T se bK W=some W'→∃vs:List al,HX env bK (aM R vs)∧k9 T W vs (bK.flatMap (·.2))=some W'
 | [],W,W',h=>by cases h;exact⟨[],trivial,rfl⟩
 |(s,ts)::r,W,W',h=>by
  simp only[Jw]at h;split at h
  ·rename_i l ak;split at h
   ·rename_i W1 U;obtain⟨vs,az,ao⟩:=Yq he h;have cl:=Yt U;have aa:=he.mf s;rw[ak]at aa;simp only[cZ]at aa;have e1:aM R (l++vs)=aM R l++aM R vs:=by simp only[hO,s9]
    have aN:(aM R l).length=ts.length:=by rw[hp,cl]
    refine⟨l++vs,⟨?_,?_⟩,?_⟩
    ·rw[e1,←aN,List.take_left']
     ·exact aa
     ·rfl
    ·rw[e1,←aN,I2]
     ·exact az
     ·rfl
    ·simp only[wx];rw[PI U];exact ao
   ·cases h
  ·cases h
theorem Jx {n:Nat} (he:ch R n se env) {la:dX} {W W':aH} (h:Fj T la se W=some W'):(∃vs:List al,M3 la env (aM R vs)∧k9 T W vs (pz la)=some W')∧(pz la).all tQ=true:=by
 unfold Fj at h;obtain⟨g5,h⟩:=eF h;refine⟨?_,?_⟩
 case refine_2=>
  obtain⟨cp,b_⟩:=a6 g5;unfold pz;rw[List.all_append,dF];refine⟨dI.2 fun t aw=> ?_,dI.2 fun t aw=> ?_⟩
  ·obtain⟨p,ae,rfl⟩:=eO.1 aw;exact dI.1 cp p ae
  ·obtain⟨p,ae,aB⟩:=List.mem_flatMap.1 aw;exact dI.1 (dI.1 b_ p ae) t aB
 split at h
 ·rename_i W1 U;obtain⟨vs,az,ao,aX⟩:=Yr U;obtain⟨ws,bd,bx⟩:=Yq he h;have e1:aM R (vs++ws)=aM R vs++aM R ws:=by simp only[hO,s9]
  have aN:(aM R vs).length=la.bN.length:=by rw[hp,az]
  refine⟨vs++ws,⟨fun j p a ae aA=> ?_,?_⟩,?_⟩
  ·have aU:j<la.bN.length:=(hn.1 ae).1;rw[e1,kl (by rw[aN];exact aU),hO,ic]at aA
   cases Ri:vs[j]? with
   |none=>rw[Ri]at aA;cases aA
   |some v=>
    rw[Ri]at aA;cases aA;have U:=he.mf p.1;rw[ao j p v ae Ri]at U;exact U
  ·rw[e1,←aN,I2]
   ·exact bd
   ·rfl
  ·unfold pz;rw[PI aX];exact bx
 ·cases h
def rf:List (Nat × bb)→List al→bE→bE
 |(s,_)::r,v::vs,env=>rf r vs (oE env s (.val v))
 |_,_,env=>env
def Ae:List (Nat × List bb)→List al→bE→bE
 | [],_,env=>env
 |(s,ts)::r,vs,env=>Ae r (vs.drop ts.length) (oE env s (.box (vs.take ts.length)))
def Dt (la:dX) (vs:List al) (env:bE):bE:=Ae la.bK (vs.drop la.bN.length) (rf la.bN vs env)
theorem acL:∀{l:List (Nat × bb)} {env:bE} {W:aH},La l env W=(rf l (e3 W (l.map (·.2))).1 env,(e3 W (l.map (·.2))).2)
 | [],env,W=>rfl
 |(s,t)::r,env,W=>by
  simp only[La,gM,e3];cases ax:cW W t with
  |mk v W1=>
   simp only;rw[acL];cases av:e3 W1 (r.map (·.2))with
   |mk ss cD=>simp only[rf]
theorem acK:∀{l:List (Nat × List bb)} {env:bE} {W:aH},K8 l env W=(Ae l (e3 W (l.flatMap (·.2))).1 env,(e3 W (l.flatMap (·.2))).2)
 | [],env,W=>rfl
 |(s,ts)::r,env,W=>by
  have e1:∀x:List al,((e3 W ts).1++x).take ts.length=(e3 W ts).1:=fun x=>List.take_left' Js;have aN:∀x:List al,((e3 W ts).1++x).drop ts.length=x:=fun x=>I2 Js;simp only[K8,wx];rw[PC];simp only[Ae,e1,aN];rw[acK]
theorem aeu:∀{l:List (Nat × bb)} {a b:List al} {env:bE},a.length=l.length→rf l (a++b) env=rf l a env
 | [],a,b,env,h=>by
  have:a=[]:=rJ h;subst this;cases b<;>rfl
 |(s,t)::r,[],b,env,h=>by cases h
 |(s,t)::r,v::a,b,env,h=>by
  simp only[Bg,rf];exact aeu (by simpa using h)
theorem SO {la:dX} {env:bE} {W:aH}:CM la env W=(Dt la (e3 W (pz la)).1 env,(e3 W (pz la)).2):=by
 unfold CM pz Dt;rw[acL];simp only;rw[acK,PC];have ak:(e3 W (la.bN.map (·.2))).1.length=la.bN.length:=by rw[Js,ng]
 simp only;rw[aeu ak,I2 ak]
theorem aev {n:Nat} {P:Nat→Prop}:∀{l:List (Nat × bb)} {ss:List al} {c':bE} {env:aP},(∀s,(∀p∈l,p.1≠s)→P s→cZ R (ee c' s) (c7 env s)∧(ee c' s).bh n=true)→l.length≤ss.length→cls n ss=true→
  (∀(j:Nat) (p:Nat × bb) (v:al),l[j]? =some p→ss[j]? =some v→c7 env p.1=.val (v.ai R))→∀s,P s→cZ R (ee (rf l ss c') s) (c7 env s)∧(ee (rf l ss c') s).bh n=true
 | [],ss,c',env,aV,ak,_,_=>by
  have:rf [] ss c'=c':=by cases ss<;>rfl
  rw[this];exact fun s hs=>aV s (fun p ae=>by cases ae) hs
 |(s,t)::r,[],c',env,_,ak,_,_=>by exact absurd ak (by simp)
 |(s,t)::r,v::vs,c',env,aV,ak,af,ar=>by
  refine aev (l:=r) (ss:=vs) (fun dy p6 y8=> ?_) (by simpa using ak) (a6 af).2 (fun j p w ae hw=>ar (j+1) p w (by simpa using ae) (by simpa using hw))
  rw[vN];by_cases he:s=dy
  ·subst he;rw[if_pos rfl];exact⟨ar 0 (s,t) v rfl rfl,(a6 af).1⟩
  ·rw[if_neg he];exact aV dy (fun p ae=>(cu.1 ae).elim (fun e=>by rw[e];exact he) (p6 p)) y8
theorem EW {n:Nat}:∀{l:List al} (k:Nat),cls n l=true→cls n (l.take k)=true∧cls n (l.drop k)=true
 | [],k,_=>by cases k<;>exact⟨rfl,rfl⟩
 |x::l,0,h=>⟨rfl,h⟩
 |x::l,k+1,h=>by
  obtain⟨U,aa⟩:=a6 h;obtain⟨au,ba⟩:=EW (l:=l) k aa;exact⟨by simp only[ED,cls,U,au];rfl,ba⟩
theorem aew {n:Nat}:∀{l:List (Nat × List bb)} {ss:List al} {c':bE} {env:aP},(∀s,(∀p∈l,p.1≠s)→cZ R (ee c' s) (c7 env s)∧(ee c' s).bh n=true)→cls n ss=true→HX env l (aM R ss)→
  ch R n (Ae l ss c') env
 | [],ss,c',env,aV,_,_=>⟨fun s=>(aV s (fun p ae=>by cases ae)).1,fun s=>(aV s (fun p ae=>by cases ae)).2⟩
 |(s,ts)::r,ss,c',env,aV,af,aj=>by
  obtain⟨cp,b_⟩:=aj;obtain⟨bf,c2⟩:=EW ts.length af;have e1:aM R (ss.drop ts.length)=(aM R ss).drop ts.length:=by simp only[hO,List.map_drop]
  have aN:aM R (ss.take ts.length)=(aM R ss).take ts.length:=by simp only[hO,List.map_take]
  refine aew (l:=r) (fun dy p6=> ?_) c2 (by rw[e1];exact b_)
  rw[vN];by_cases he:s=dy
  ·subst he;rw[if_pos rfl];exact⟨by simp only[cZ];rw[aN];exact cp,bf⟩
  ·rw[if_neg he];exact aV dy (fun p ae=>(cu.1 ae).elim (fun e=>by rw[e];exact he) (p6 p))
def Cn (la:dX) (s:Nat):Prop:=(∀p∈la.bN,p.1≠s)∧∀p∈la.bK,p.1≠s
theorem asu {n:Nat} {la:dX} {ss:List al} {c':bE} {env:aP} (aV:∀s,Cn la s→cZ R (ee c' s) (c7 env s)∧(ee c' s).bh n=true) (ak:la.bN.length≤ss.length) (af:cls n ss=true) (ar:M3 la env (aM R ss)):ch R n (Dt la ss c') env:=by
 refine aew (fun s hs=> ?_) (EW _ af).2 (by
  have:=ar.2;simp only[hO,List.map_drop]at this⊢;exact this)
 exact aev (P:=fun s=>∀p∈la.bK,p.1≠s) (fun dy U aa=>aV dy ⟨U,aa⟩) ak af (fun j p v ae hw=>ar.1 j p _ ae (mj hw)) s hs
theorem Hn:∀{l:List Nat} {env:bE} {s:Nat},ee (nb l env) s=.un∨ee (nb l env) s=ee env s
 | [],env,s=>.inr rfl
 |a::l,env,s=>by
  rcases Hn (l:=l) (env:=oE env a .un) (s:=s)with h|h
  ·exact .inl h
  ·simp only[nb];rw[h,vN];by_cases he:a=s
   ·rw[if_pos he];exact .inl rfl
   ·rw[if_neg he];exact .inr rfl
theorem afw:∀{l:List (Nat × bb)} {env:bE} {s:Nat},(∀p∈l,p.1≠s)→ee (ML l env) s=ee env s
 | [],env,s,_=>rfl
 |(a,t)::l,env,s,h=>by
  simp only[ML];rw[afw (fun p ae=>h p (cv _ ae)),vN,if_neg (h (a,t) (cz ..))]
theorem afu:∀{l:List (Nat × List bb)} {env:bE} {s:Nat},(∀p∈l,p.1≠s)→ee (MK l env) s=ee env s
 | [],env,s,_=>rfl
 |(a,t)::l,env,s,h=>by
  simp only[MK];rw[afu (fun p ae=>h p (cv _ ae)),vN,if_neg (h (a,t) (cz ..))]
theorem afr:∀{l:List (Nat × bb)} {ss:List al} {env:bE} {s:Nat},(∀p∈l,p.1≠s)→ee (rf l ss env) s=ee env s
 | [],ss,env,s,_=>by cases ss<;>rfl
 |(a,t)::l,[],env,s,h=>rfl
 |(a,t)::l,v::vs,env,s,h=>by
  simp only[rf];rw[afr (fun p ae=>h p (cv _ ae)),vN,if_neg (h (a,t) (cz ..))]
theorem afs:∀{l:List (Nat × List bb)} {ss:List al} {env:bE} {s:Nat},(∀p∈l,p.1≠s)→ee (Ae l ss env) s=ee env s
 | [],ss,env,s,_=>rfl
 |(a,t)::l,ss,env,s,h=>by
  simp only[Ae];rw[afs (fun p ae=>h p (cv _ ae)),vN,if_neg (h (a,t) (cz ..))]
theorem afv {la:dX} {env:bE} {s:Nat} (h:Cn la s):ee (yl la env) s=ee env s:=by
 unfold yl;rw[afu h.2,afw h.1]
theorem aft {la:dX} {ss:List al} {env:bE} {s:Nat} (h:Cn la s):ee (Dt la ss env) s=ee env s:=by
 unfold Dt;rw[afs h.2,afr h.1]
theorem abD {cells:List (Nat × Nat × al)}:∀{l:List Nat} {a:al} {p:Nat × Nat × al},p∈Kq cells l a→p∈cells
 | [],a,p,h=>by cases h
 |o::r,a,p,h=>by
  simp only[Kq]at h;split at h
  ·split at h
   ·rename_i x ad;rcases cu.1 h with rfl|h
    ·exact yY ad
    ·exact abD h
   ·cases h
  ·cases h
theorem Kp {cells:List (Nat × Nat × al)}:∀{l:List (Nat × List Nat)} {p:Nat × Nat × al},p∈nH se cells l→p∈cells
 | [],p,h=>by cases h
 |(s,o)::r,p,h=>by
  simp only[nH]at h;cases aj:Nat.beq s 999999 with
  |true=>rw[aj]at h;exact(ma.1 h).1
  |false=>
   rw[aj]at h;simp only[cond_false]at h;split at h
   ·rcases fu.1 h with h|h
    ·exact abD h
    ·exact Kp h
   ·exact Kp h
theorem T4 {ok:bE→aH→Bool}:∀{l outs:List gv},x3 ok l=some outs→∀x e W,(x,e,W)∈l→(x=.normal→ok e W=true)∧(x≠.normal→(x,e,W)∈outs)
 | [],outs,_,x,e,W,h=>by cases h
 |(h3,cE,cS)::l,outs,aj,x,e,W,h=>by
  by_cases ad:h3=.normal
  ·subst ad;simp only[x3]at aj;obtain⟨U,aa⟩:=eF aj;rcases cu.1 h with h|h
   ·cases h;exact⟨fun _=>U,fun aF=>absurd rfl aF⟩
   ·exact T4 aa x e W h
  ·have dJ:∃r,x3 ok l=some r∧outs=(h3,cE,cS)::r:=by
    cases h3 with
    |normal=>exact absurd rfl ad
    |exit i=>
     simp only[x3]at aj;split at aj
     ·rename_i r ah;cases aj;exact⟨r,ah,rfl⟩
     ·cases aj
    |ret=>
     simp only[x3]at aj;split at aj
     ·rename_i r ah;cases aj;exact⟨r,ah,rfl⟩
     ·cases aj
   obtain⟨r,U,aa⟩:=dJ;rcases cu.1 h with h|h
   ·cases h;exact⟨fun aK=>absurd aK ad,fun _=>by rw[aa];exact cz ..⟩
   ·obtain⟨bg,bl⟩:=T4 U x e W h;exact⟨bg,fun aK=>by rw[aa];exact cv _ (bl aK)⟩
theorem ace {body:dd} {Inv:Nat→aP→aO→Prop} {Q:v_ dm}
  (aj:∀m env V,Inv m env V→bj.iO dm (body env V) fun x bP V'=>(x≠.normal→Q (.done x bP V'))∧(x=.normal→∃eI,eI<m∧Inv eI bP V')):
  ∀(n m:Nat) (env:aP) (V:aO),m<n→Inv m env V→Q (sx body n env V)
 |0,m,env,V,hm,_=>by omega
 |n+1,m,env,V,hm,hi=>by
  refine VS (Q:=Q) (b:=sx body n) (aj m env V hi) ?_;rintro x bP V' ⟨aa,au⟩;cases x with
  |normal=>
   obtain⟨eI,bg,bl⟩:=au rfl;exact ace aj n eI bP V' (by omega) bl
  |exit i=>exact aa (fun h=>by cases h)
  |ret=>exact aa (fun h=>by cases h)
theorem JN {la:dX} {body:fK} {W1 ez HW:aH} {hse:bE} {vs:List ab} (g5:(pz la).all tQ=true) (fF:aW T E R G ez V) (lb:ez= {W1 with cells:=ez.cells,rd:=none})
  (aol:∀s,Cn la s→cZ R (ee (nb (jW body) se) s) (c7 env s)∧(ee (nb (jW body) se) s).bh ez.aD=true)
  (cl:(pz la).length=vs.length) (nE:M3 la env vs)
  (av:∀(j:Nat) (t:bb) (a:ab),(pz la)[j]? =some t→vs[j]? =some a→hf T E G V t a) (j3:(fi (pz la) vs).Nodup)
  (aQ:∀g∈fi (pz la) vs,∀p∈ez.live,dv (R p.1)≠some g) {bL:bE} {oQ:aH} (au:CM la (nb (jW body) se) ez=(bL,oQ)) {jT:aH} {ys:List al} (ba:xY T bL la.ce oQ=some (ys,jT)) {xs:List al} (lq:cls ez.aD xs=true) {l:List bn} (ak:x_ jT bL (ys++xs) la.inv=some l)
  (ani:∀x∈la.inv,0≤ju env (fE env V la.ce++aM R xs) x) {q:List (Nat × List al)} (aB:t_ bL ys la.pi=some q) (sh:∀p∈la.pi,eu T (mD env (fE env V la.ce) p).1 (mD env (fE env V la.ce) p).2) (anh:hse=bL) (P1:HW=ie q (hB l jT)):
  ∃fR,dk R ez fR HW∧aW T E fR G HW V∧ch fR HW.aD hse env∧aM fR ys=fE env V la.ce∧cls HW.aD ys=true:=by
 rw[SO]at au;cases ax:e3 ez (pz la)with
 |mk ss ahA=>
  rw[ax]at au;simp only[Prod.mk.injEq]at au;obtain⟨rfl,rfl⟩:=au;obtain⟨fR,az,ao,aX,bD⟩:=Jr _ g5 fF cl av j3 aQ ax;have J5:la.bN.length≤ss.length:=by
   have:=congrArg List.length aX;rw[hp]at this;rw[this,←cl];simp[pz]
  have aC:ch fR ahA.aD (Dt la ss (nb (jW body) se)) env:=by
   refine asu (fun s hs=> ?_) J5 bD (by rw[aX];exact nE)
   obtain⟨bg,bl⟩:=aol s hs;exact⟨bg.agree az.dq bl,fx.mono az.n bl⟩
  obtain⟨oL,cc,b4,dP,kb⟩:=Hb ao aC ba;have mR:=aC.later cc;obtain⟨bu,bC⟩:=(az.trans cc).aM lq;obtain⟨ep,dV⟩:=DH b4 mR (rQ kb bC) ak;rw[rW,dP,bu]at ep;have jk:∀x∈l,0≤x.ai oL:=by
   intro x ad;have:x.ai oL∈l.map (bn.ai oL):=eO.2 ⟨x,ad,rfl⟩;rw[ep]at this;obtain⟨y,aI,he⟩:=eO.1 this;rw[←he];exact ani y aI
  obtain⟨b3,cI⟩:=Na b4 (fun x ad=>⟨jk x ad,dV x ad⟩);obtain⟨cp,b_⟩:=Nb b3 (fun p ae=>by rw[cI];exact atC mR kb aB (by rw[dP];exact sh) p ae)
  rw[cI]at b_;subst anh;subst P1;have k:=az.trans cc;exact⟨oL,⟨by rw[b_];exact k.n,k.dq⟩,cp,by rw[b_];exact mR,dP,by rw[b_];exact kb⟩
end Go.bO.cK
end
section
namespace Go.bO.cK
variable {dm:Bool} {T:bG} [e8 T] {E:dS} {R aL:cj} {G G':Nat→cR} {W:aH} {V:aO} {se:bE} {env:aP}
theorem aW.ab_ (h:aW T E R G W V) {l:List (Nat × Nat × al)} (hs:∀p∈l,p∈W.cells):aW T E R G {W with cells:=l} V:=
 ⟨⟨h.ok.ty,h.ok.top,h.ok.ge,h.ok.da,h.ok.cC,h.ok.b2⟩,⟨h.aT.ge,h.aT.da,h.aT.cC,fun p ae=>h.aT.cells p (hs p ae),h.aT.live,h.aT.cA,h.aT.wr,h.aT.b2,h.aT.op,h.aT.lt,h.aT.gz,h.aT.rd⟩,
  ⟨h.aE.wf,fun p ae=>h.aE.cells p (hs p ae),h.aE.live,h.aE.gw,h.aE.wr,h.aE.M,h.aE.out,h.aE.n,h.aE.g,h.aE.f',h.aE.cls,h.aE.tok,h.aE.fQ,h.aE.hi,h.aE.lt,h.aE.rd⟩⟩
theorem avd {X VE:Nat→Nat→Prop} (ad:∀i j,X i j→VE i j) {i:Nat} {d:pD} (h:we T G V X i d):we T G V VE i d:=by
 cases d with
 |none=>exact h
 |map a7 t cH=>exact h
 |row sz k n=>exact h
 |obj ts=>
  obtain⟨cs,U,aa,au⟩:=h;exact⟨cs,U,aa,fun j t a aw aA=>let⟨bu,bC⟩:=au j t a aw aA;⟨bu,fun cn sz e lo hi he aK=>bC cn sz e lo hi he (fun aF=>aK (ad i j aF))⟩⟩
theorem afn {a b:Option (Nat × Nat × Option (al × al))} (h:DB a b=true) {p:Nat × Nat × Option (al × al)} (ae:b=some p):∃vE,a=some vE∧vE.1=p.1∧vE.2.1=p.2.1∧∀q,p.2.2=some q→vE.2.2=some q:=by
 subst ae;unfold DB at h;split at h
 ·rename_i aF;cases aF
 ·rename_i vE ka aB;cases aB;obtain⟨U,aa⟩:=a6 h;obtain⟨aa,au⟩:=a6 aa;refine⟨vE,rfl,b5 U,b5 aa,fun q aB=> ?_⟩;rw[aB]at au;simp only at au;split at au
  ·rename_i x ad;obtain⟨e1,aN⟩:=a6 au;rw[ad];have e1:=o2 e1;have aN:=o2 aN;obtain⟨hd,kD⟩:=x;obtain⟨bg,bl⟩:=q;simp only at e1 aN;rw[e1,aN]
  ·cases au
 ·cases h
theorem ath {a b:Option (Nat × Nat × Option (al × al))} (h:DB a b=true) {i:Nat} (aK:¬qz R b i):¬qz R a i:=by
 rintro⟨p,ae,hm⟩;cases b with
 |none=>rw[ae]at h;cases h
 |some q=>
  obtain⟨vE,U,aa,au,_⟩:=afn h rfl;rw[ae]at U;cases U;exact aK ⟨q,rfl,by rw[←aa];exact hm⟩
theorem Wh {fD:Nat→cR} {dD:aO} {dW:cj} {ez W':aH} {V':aO} (aV:aW T (k5 E fD dD) dW fD ez dD) (b0:aW T (k5 E fD dD) aL G' W' V') (aA:hy ez.aD dW aL)
  (aq:ez.cells.all (Kr W'.cells)=true) (ak:∀p∈ez.live,p∈W'.live) (aj:W'.cA.all (fun p=>zD p.1 p.2 ez.cA)=true) (ay:ez.op=[]) (om:W'.op=[]) (gx:DB W'.lt ez.lt=true) (di:ez.rd=none):aW T (k5 E fD dD) aL G' ez V':=by
 have fX:∀i c,fD i=.cls c→G' i=.cls c:=fun i c hi=>(b0.aE.cls i (aV.aE.wf i c hi).1 c).2 hi;refine⟨(aV.ok.mono fX).agree aV.aT aA,aV.aT,⟨fun i c hi=> ?_,fun p ae=> ?_,fun p ae=>b0.aE.live p (ak p ae),(aV.aE.agree aV.aT aA).gw,(aV.aE.agree aV.aT aA).wr,aV.aE.M,b0.aE.out,b0.aE.n,b0.aE.g,b0.aE.f',b0.aE.cls,b0.aE.tok,b0.aE.fQ,
  ⟨fun p ae=>(by rw[ay]at ae;cases ae),fun i c cs U aa au=>⟨fun _=>(b0.aE.hi.ok i c cs U aa au).1 (fun p ae=>by rw[om]at ae;cases ae),fun p ae=>(by rw[ay]at ae;cases ae)⟩⟩,fun p ae=> ?_,fun p ae=>absurd ae (LS di)⟩⟩
 ·obtain⟨az,ao⟩:=b0.aE.wf i c hi;refine⟨az,fun eP=> ?_⟩;have ao:=ao (ath gx eP);refine avd (fun i j ⟨p,ae,bg,bl⟩=> ?_) ao;have:=dI.1 aj p ae;simp only[zD,h4]at this;obtain⟨q,aB,he⟩:=this;obtain⟨e1,aN⟩:=a6 he;exact⟨q,aB,by rw[←b5 e1];exact bg,by rw[←b5 aN];exact bl⟩
 ·have:=dI.1 aq p ae;unfold Kr at this;split at this
  ·rename_i x ad;have hm:=yY ad;obtain⟨i,cs,c,az,ao,aX,bD⟩:=b0.aE.cells _ hm;have vf:=o2 this;exact⟨i,cs,c,az,ao,by rw[vf];exact aX,bD⟩
  ·cases this
 ·obtain⟨vE,c0,e1,aN,bL⟩:=afn gx ae;have:=b0.aE.lt vE c0;unfold yq at this⊢;rw[e1,aN]at this;rcases this with⟨m,j,ko,es,left,cur,bF,a7,t,cH,bg,bl,bS,cP⟩|U
  ·exact .inl ⟨m,j,ko,es,left,cur,bF,a7,t,cH,bg,bl,bS,fun q aB=>cP q (bL q aB)⟩
  ·obtain⟨j,bg,bl,hH,bS⟩:=U;refine .inr ⟨j,bg,bl,?_,bS⟩;cases aB:p.2.2 with
   |none=>rfl
   |some q=>have:=bL q aB;rw[hH]at this;cases this
theorem YH {p:Nat × Nat × Nat} {l:List (Nat × Nat × Nat)} (h:JH p l=true):p∈l:=by
 simp only[JH,h4]at h;obtain⟨q,aB,he⟩:=h;obtain⟨U,aa⟩:=a6 he;obtain⟨aa,au⟩:=a6 aa;have e:p=q:=by
  obtain⟨a,b,c⟩:=p;obtain⟨gX,ea,bF⟩:=q;have:=b5 U;have:=b5 aa;have:=b5 au;simp_all
 rw[e];exact aB
theorem l1.MM (aC:gj E) {dW:cj} {cS:aH} {fD:Nat→cR} {dD:aO} (aV:aW T E dW fD cS dD) (eX:cS.op=[]) {outs:List gv} {rU:bj} (h:l1 dm T (k5 E fD dD) R W outs rU):l1 dm T E R W outs rU:=
 bj.tY h fun _ _ _ ⟨gA,W',aL,G',aa,au,ba,cb⟩=>⟨gA,W',aL,G',aa,au,cK.MM aC aV eX ba,cb⟩
theorem W7 {la:dX} (ec:aW T E R G W V) (fO:ch R W.aD se env) {fm:List al} {W':aH} (ah:EV T la se W=some (fm,W')):
  ∃aL,dk R W aL W'∧aW T E aL G W' V∧aM aL fm=fE env V la.ce∧cls W'.aD fm=true∧W'.op=[]:=by
 unfold EV at ah;split at ah
 ·rename_i ys W1 U;split at ah
  ·rename_i cD aa;cases ah;obtain⟨dM,az,ao,aX,bD⟩:=Hb ec fO U;obtain⟨dQ,bd,bx,bT⟩:=Bq ao aa;obtain⟨b',ct⟩:=bd.aM bD;exact⟨dQ,az.trans bd,bx,by rw[b'];exact aX,ct,bT⟩
  ·cases ah
 ·cases ah
theorem aqE {la:dX} {code:fK} {body:bE→aH→gG} {run:dd} (aj:kh dm T body run):∀(E:dS),gj E→∀(dW:cj) (fD:Nat→cR) (cS:aH) (dD:aO) (se:bE) (c':aP) (outs:List gv) (xs:List al),aW T E dW fD cS dD→ch dW cS.aD se c'→aM dW xs=fE c' dD la.ce→cls cS.aD xs=true→cS.op=[]→Sh T la code body xs se cS=some outs→l1 dm T E dW cS outs (sx run kZ c' dD):=by
 intro E aC dW fD cS dD se c' outs xs ec fO lr lq eX ay;unfold Sh at ay
 ·split at ay
  ·rename_i hse HW W1 ys aF;split at ay
   ·rename_i m m4 hm u6;obtain⟨af,q0⟩:=eF ay;clear ay;split at q0
    ·rename_i l ak;obtain⟨bf,c2⟩:=a6 af;obtain⟨Fp,mS⟩:=Nf aC ec eX;unfold JM at aF;split at aF
     ·rename_i M9 aqs hH Qq od p5;obtain⟨u3,aF⟩:=eF aF;obtain⟨u3,Qs⟩:=a6 u3;cases mU:CM la (nb (jW code) se) {M9 with cells:=nH se cS.cells la.q7,rd:=none}with
      |mk bL oQ=>
       rw[mU]at aF;simp only at aF;split at aF
       ·rename_i en jT di;split at aF
        case h_2=>cases aF
        rename_i jJ bS FM zp;simp only[bk,Prod.mk.injEq]at aF;obtain⟨rfl,rfl,rfl,rfl⟩:=aF;obtain⟨⟨Vk,v2,v3⟩,g5⟩:=Jx fO Qq;obtain⟨lv,rfl,ao,aX,bD,c8,e'⟩:=uV mS v3;generalize lb:({cS with live:=lv,cells:=nH se cS.cells la.q7,rd:=none}:aH)=ez at*;have P0:({({cS with live:=lv}:aH)with cells:=nH se cS.cells la.q7,rd:=none}:aH)=ez:=by rw[←lb]
        have j4:ez.aD=cS.aD:=by rw[←lb]
        have FN:ez.live=lv:=by rw[←lb]
        have o6:ez.cA=cS.cA:=by rw[←lb]
        have Qb:ez.op=[]:=by rw[←lb];exact eX
        have BZ:ez.lt=cS.lt:=by rw[←lb]
        have Qc:ez.rd=none:=by rw[←lb]
        have r0:ez.cells=nH se cS.cells la.q7:=by rw[←lb]
        have Fo:aW T (k5 E fD dD) dW fD ez dD:=by
         rw[←lb];exact((mS.vo ao).ab_ fun p ae=>Kp ae).pq
        have Fs:ez= {({cS with live:=lv}:aH)with cells:=ez.cells,rd:=none}:=by rw[r0];exact P0.symm
        have ej:∀s,(ee (nb (jW code) se) s).bh ez.aD=true:=by
         intro s;rw[j4];rcases Hn (l:=jW code) (env:=se) (s:=s)with h|h
         ·rw[h];rfl
         ·rw[h];exact fO.bh s
        have QA:∀x∈la.inv,0≤ju c' (fE c' dD la.ce++aM dW xs) x:=by
         obtain⟨bg,_⟩:=DH mS fO (rQ lq lq) od;rw[rW,lr]at bg;rw[lr];intro x ad;have fW:ju c' (fE c' dD la.ce++fE c' dD la.ce) x∈la.inv.map (ju c' (fE c' dD la.ce++fE c' dD la.ce)):=eO.2 ⟨x,ad,rfl⟩;rw[←bg]at fW;obtain⟨y,aI,he⟩:=eO.1 fW;rw[←he];exact Fi mS u3 y aI
        have QY:∀p∈la.pi,eu T (mD c' (fE c' dD la.ce) p).1 (mD c' (fE c' dD la.ce) p).2:=by
         have:=Mj mS.ok fO lq p5 Qs;rw[lr]at this;exact this
        have Ft:∃fR,dk dW ez fR (ie bS (hB jJ jT))∧aW T (k5 E fD dD) fR fD (ie bS (hB jJ jT)) dD∧ch fR (ie bS (hB jJ jT)).aD bL c'∧aM fR en=fE c' dD la.ce∧cls (ie bS (hB jJ jT)).aD en=true:=by
         refine JN (la:=la) (body:=code) (se:=se) (W1:= {cS with live:=lv}) g5 Fo Fs (fun s _=>⟨?_,ej s⟩) (vs:=aM dW Vk) (by rw[hp];exact aX) v2 bD c8 (fun g av p ae=>(e' g av).2 p (by rw[FN]at ae;exact ae)) mU di (by rw[j4];exact lq) FM QA zp QY rfl rfl
         rcases Hn (l:=jW code) (env:=se) (s:=s)with h|h
         ·rw[h];trivial
         ·rw[h];exact fO.mf s
        have Q9:∀s,Cn la s→ee bL s=ee (nb (jW code) se) s:=by
         intro s hs;rw[SO]at mU;simp only[Prod.mk.injEq]at mU;rw[←mU.1,aft hs]
        refine l1.MM aC ec eX ?_;have anv:m4.ai dW=ju c' (fE c' dD la.ce) la.ms:=by rw[←lr];exact(x9 mS fO lq u6).1
        have t1:=dE mS.ok bf;have t2:=dE mS.ok c2;simp only[fe,hV]at t1;rw[anv]at t1 t2;obtain⟨Gw,nA⟩:∃Gw:Nat,ju c' (fE c' dD la.ce) la.ms=(Gw:Int):=⟨(ju c' (fE c' dD la.ce) la.ms).toNat,by omega⟩
        refine ace (Inv:=fun eI env V=>∃fR ui,hy ez.aD dW fR∧aW T (k5 E fD dD) fR ui (ie bS (hB jJ jT)) V∧ch fR (ie bS (hB jJ jT)).aD bL env∧aM fR en=fE env V la.ce∧cls (ie bS (hB jJ jT)).aD en=true∧ju env (fE env V la.ce) la.ms=(eI:Int)) (Q:=Ib dm (qx T (k5 E fD dD) dW cS outs)) ?_ kZ Gw c' dD ?_ ?_
        ·rintro eI env V ⟨fR,ui,i1,i2,i3,i5,i6,i4⟩;have u_:ez.aD≤(ie bS (hB jJ jT)).aD:=let⟨_,q,_,_,_,_⟩:=Ft;q.n
         refine bj.tY (aj _ Fp fR ui _ V bL env l i2 i3 ak) ?_;rintro x bP V' ⟨gA,W',aL,G',b_,dh,hD,iA⟩;obtain⟨cc,b4⟩:=T4 q0 x gA W' b_;have lS:hy ez.aD dW aL:=i1.trans (dh.dq.less u_) (b1 _);refine⟨fun ad=> ?_,fun ad=> ?_⟩
         ·exact bj.sJ ⟨gA,W',aL,G',b4 ad,⟨by rw[←j4];exact fp u_ dh.n,by rw[←j4];exact lS⟩,hD,iA⟩
         ·have h7:=cc ad;unfold Wg at h7;split at h7
          case h_2=>cases h7
          rename_i fm M_ F0;obtain⟨oL,x4,tX,zB,hX,Rt⟩:=W7 hD iA F0;have dh:=dh.trans x4;have hD:=tX;have iA:=iA.later x4;have lS:hy ez.aD dW oL:=i1.trans (dh.dq.less u_) (b1 _);clear F0 x4 tX;generalize oL=aL at*;generalize M_=W' at*;split at h7
          ·rename_i ahy aqr av6 asx mn Qx anz FX;obtain⟨bZ,h7⟩:=a6 h7;obtain⟨bZ,avz⟩:=a6 bZ;obtain⟨bZ,avA⟩:=a6 bZ;obtain⟨cB,h7⟩:=a6 h7;obtain⟨z3,h7⟩:=a6 h7;obtain⟨z4,h7⟩:=a6 h7;obtain⟨z5,h7⟩:=a6 h7;obtain⟨AV,D1⟩:=a6 h7;obtain⟨⟨Vl,fJ,yn⟩,_⟩:=Jx iA mn;obtain⟨Sk,rfl,eR,ev,jz,k2,vY⟩:=uV hD yn;have oe:∀p∈ez.live,p∈Sk:=by
            rw[FN];intro p ae;exact YH (dI.1 z4 p ae)
           have PT:aW T (k5 E fD dD) aL G' ez V':=Wh Fo hD lS (by rw[r0];exact cB) (fun p ae=>eR.subset (oe p ae)) (by rw[o6];exact z5) Qb Rt (by rw[BZ];exact avz) Qc
           have Rn:cls W'.aD xs=true:=mE (by have:=dh.n;omega) _ lq
           have QB:∀x∈la.inv,0≤ju bP (fE bP V' la.ce++aM aL xs) x:=by
            obtain⟨bg,_⟩:=DH hD iA (rQ hX Rn) Qx;rw[rW,zB]at bg;intro x ad;have fW:ju bP (fE bP V' la.ce++aM aL xs) x∈la.inv.map (ju bP (fE bP V' la.ce++aM aL xs)):=eO.2 ⟨x,ad,rfl⟩;rw[←bg]at fW;obtain⟨y,aI,he⟩:=eO.1 fW;rw[←he];exact Fi hD bZ y aI
           have QZ:∀p∈la.pi,eu T (mD bP (fE bP V' la.ce) p).1 (mD bP (fE bP V' la.ce) p).2:=by
            have:=Mj hD.ok iA hX FX avA;rw[zB]at this;exact this
           have Qv:=JN (env:=bP) (la:=la) (body:=code) (se:=se) (W1:= {cS with live:=lv}) (HW:=ie bS (hB jJ jT)) (hse:=bL) g5 PT Fs (fun s hs=>⟨by
             have U:=DL z3 (ja s);have aa:ee (yl la bL) s=ee (nb (jW code) se) s:=by rw[afv hs,Q9 s hs]
             have au:Ay (ee (yl la bL) s) (ee gA s)=true:=U;rw[aa]at au;exact af9 au (iA.mf s),ej s⟩) (vs:=aM aL Vl) (by rw[hp];exact ev) fJ jz k2 (fun g av p ae=>(vY g av).2 p (oe p ae)) mU di (by rw[j4];exact lq) FM QB zp QZ rfl rfl
           obtain⟨HS,f1,f2,f3,f4,f5⟩:=Qv;obtain⟨e1,aN⟩:=x9 hD iA hX anz;rw[zB]at e1;obtain⟨I6,eB⟩:=x9 i2 i3 i6 hm;rw[i5]at I6;have d1:=dE hD.ok AV;have d2:=dE hD.ok D1;have em:m.ai aL=m.ai fR:=(jK dh.dq eB).symm;have akY:Int.negSucc 0= -1:=rfl;simp only[fe,eG,akY]at d1;rw[em,I6,i4,e1]at d1;rw[e1]at d2;refine⟨(ju bP (fE bP V' la.ce) la.ms).toNat,by omega,HS,G',lS.trans f1.dq (b1 _),f2,f3,f4,f5,by omega⟩
          ·cases h7
        ·rw[nA]at t1;have:(Gw:Int)≤4611686018427387000:=by simp only[agH,hU]at t1;omega
         show Gw<4611686018427387904;omega
        ·obtain⟨fR,bg,bl,bS,cP,eC⟩:=Ft;exact⟨fR,fD,bg.dq,bl,bS,cP,eC,nA⟩
       ·cases aF
     ·cases aF
    ·cases q0
   ·cases ay
  ·cases ay
theorem Jn {α β:Type} {k:α→Option β} {r:β}:∀{l:List α},uT k l=some r→∃a,k a=some r
 | [],h=>by cases h
 |a::l,h=>by
  simp only[uT]at h;split at h
  ·rename_i q aB;cases h;exact⟨a,aB⟩
  ·exact Jn h
theorem aqF {la:dX} {code:fK} {body:bE→aH→gG} {run:dd} (aj:kh dm T body run):kh dm T (Si T la code body) (sx run kZ):=by
 intro E aC dW fD cS dD se c' outs ec fO ay;unfold Si at ay;split at ay
 ·split at ay
  ·rename_i xs W1 ah;obtain⟨dM,az,ao,aX,bD⟩:=Hb ec fO ah;split at ay
   ·rename_i cD ej;obtain⟨dQ,bd,bx,bT⟩:=Bq ao ej;obtain⟨b',ct⟩:=bd.aM bD;obtain⟨bN,ay⟩:=Jn ay;have ak:=az.trans bd;exact(aqE (la:= {la with bN:=bN}) aj E aC dQ fD cD dD se c' outs xs bx (fO.later ak) (by rw[b'];exact aX) ct bT ay).later ak
   ·cases ay
  ·cases ay
 ·rename_i n _;obtain⟨aK,ay⟩:=eF ay;have:=jf aK;exact agT aj (n+1) kZ (by show n+1≤4611686018427387904;omega) E aC dW fD cS dD se c' outs ec fO ay
theorem aqG {la:dX} {code:fK} {body:bE→aH→gG} {run:dd} (aj:kh dm T body run):kh dm T (xv T la code body) (sx run kZ):=by
 intro E aC dW fD cS dD se c' outs ec fO ay;obtain⟨av4,ay⟩:=Jn ay;exact aqF aj E aC dW fD cS dD se c' outs ec fO ay
end Go.bO.cK
end
section
namespace Go.bO.cK
variable {T:bG} [e8 T] {E:dS} {R aL:cj} {G G':Nat→cR} {W:aH} {V V':aO} {se:bE} {env:aP}
theorem Z8 {n sz e:Nat}:¬m0 (.cF n sz e):=by rintro(h|⟨_,_,_,_,_,h⟩|h)<;>cases h
theorem Ga {z:Nat} {cs:List ab}:¬m0 (.row z cs):=by rintro(h|⟨_,_,_,_,_,h⟩|h)<;>cases h
theorem Cq {cs:List ab}:¬m0 (.obj cs):=by rintro(h|⟨_,_,_,_,_,h⟩|h)<;>cases h
theorem RG {ko:Option cL} {es:List (ab × ab)}:¬m0 (.map ko es):=by rintro(h|⟨_,_,_,_,_,h⟩|h)<;>cases h
theorem aW.Va (h:aW T E R G W V) {lt':Option (Nat × Nat × Option (al × al))} {wr':List Nat} (aK:V'.n=V.n) (av:V'.g=V.g) (bM:∀x,¬m0 (V.at x)→V'.at x=V.at x)
  (tr:∀x,x<E.V.n→¬E.eT x→V'.at x=V.at x) (Ch:∀x c,G x=.cls c→m0 (V.at x)→¬qz R lt' x→we T G V' (l4 R W.cA) x (T.K c)) (p3:∀x c cs,G x=.cls c→m0 (V.at x)→V'.at x≠.obj cs)
  (pe:∀v∈wr',v∈W.wr) (ej:∀p,lt'=some p→p.1<W.aD∧p.2.1<W.aD∧∀q,p.2.2=some q→q.1.bh W.aD=true∧q.2.bh W.aD=true) (ae:∀p,lt'=some p→yq T E R G V' p):
  aW T E R G {W with lt:=lt',wr:=wr',rd:=none} V':=by
 have r9:∀g,((∃n z w,V.at g=.cF n z w)∨∃z cs,V.at g=.row z cs)→V'.at g=V.at g:=fun g av=>by
  rcases av with⟨n,z,w,av⟩|⟨z,cs,av⟩
  ·exact bM g (by rw[av];exact Z8)
  ·exact bM g (by rw[av];exact Ga)
 have g6:∀{sz e x j b},V'.at x=V.at x→ki T G V sz e x j b→ki T G V' sz e x j b:=by
  intro sz e x j b ad ay;exact ay.e6 (fun g av=>r9 g (ay.tok av).2.2) (fun g av=>(ay.tok av).1) (by omega) (fun _ _ h=>h) (fun _ aj=>s' ad aj)
 have eP:∀x,¬m0 (V.at x)→¬qz R W.lt x:=by
  rintro x ad ⟨p,ae,hm⟩;rcases h.aE.lt p ae with⟨m,j,ko,es,left,cur,bF,a7,t,cH,bg,bl,bS,_⟩|⟨j,bg,_⟩
  ·rw[bg]at hm;cases hm;exact ad (by rw[bS.hm];exact .inl rfl)
  ·rw[bg]at hm;cases hm
 refine⟨⟨h.ok.ty,h.ok.top,h.ok.ge,h.ok.da,h.ok.cC,h.ok.b2⟩,⟨h.aT.ge,h.aT.da,h.aT.cC,h.aT.cells,h.aT.live,h.aT.cA,fun v ar=>h.aT.wr v (pe v ar),h.aT.b2,h.aT.op,ej,h.aT.gz,fun q aB=>by cases aB⟩,
  ⟨fun i c hi=> ?_,fun q aB=> ?_,fun q aB=> ?_,h.aE.gw,fun v ar i hi=>h.aE.wr v (pe v ar) i hi,h.aE.M,fun x ad=>h.aE.out x (by omega),by rw[aK];exact h.aE.n,by rw[av];exact h.aE.g,fun x ad eQ=> ?_,h.aE.cls,h.aE.tok,fun g i j e_=>by rw[aK];exact h.aE.fQ g i j e_,⟨h.aE.hi.own,fun i c cs U aa au=> ?_⟩,ae,fun q aB=>by cases aB⟩⟩
 ·obtain⟨az,ao⟩:=h.aE.wf i c hi;refine⟨by omega,fun ak=> ?_⟩
  by_cases di:m0 (V.at i)
  ·exact Ch i c hi di ak
  ·have ao:=ao (eP i di);have gb:=bM i di;cases dU:T.K c with
   |none=>rw[dU]at ao;exact ao.elim
   |row z k n=>
    rw[dU]at ao;obtain⟨e2,bd,bx⟩:=ao;exact⟨e2,by rw[gb];exact bd,bx⟩
   |map a7 t cH=>
    rw[dU]at ao;obtain⟨ko,es,bd,bx⟩:=ao;exact⟨ko,es,by rw[gb];exact bd,bx⟩
   |obj ud=>
    rw[dU]at ao;obtain⟨cU,e1,aN,bL⟩:=ao;refine⟨cU,by rw[gb];exact e1,aN,fun j t a aw aA=> ?_⟩
    obtain⟨bu,bC⟩:=bL j t a aw aA;exact⟨bu,fun cn sz e lo hi he aK=>g6 gb (bC cn sz e lo hi he aK)⟩
 ·obtain⟨x,cU,bF,az,ao,aX,bD⟩:=h.aE.cells q aB;exact⟨x,cU,bF,az,by rw[bM x (by rw[ao];exact Cq)];exact ao,aX,bD⟩
 ·have ak:=h.aE.live q aB;exact ak.e6 (fun g av=>r9 g (ak.tok av).2.2.2) (fun g av=>(ak.tok av).1) (by omega) (fun _ _ h=>h) (fun _ _ h=>h) (fun _ h=>h)
 ·obtain⟨az,ao⟩:=h.aE.f' x ad eQ;exact⟨by rw[tr x ad eQ];exact az,ao⟩
 ·by_cases di:m0 (V.at i)
  ·exact absurd au (p3 i c cs U di)
  ·rw[bM i di]at au;exact h.aE.hi.ok i c cs U aa au
theorem Lc:∀{l r:List gv},CO l=some r→∀x e W,(x,e,W)∈l→x≠.normal∧(x,e,W)∈r
 | [],r,h,x,e,W,hm=>by cases hm
 |(h3,cE,cS)::l,r,h,x,e,W,hm=>by
  cases h3 with
  |normal=>cases h
  |exit i=>
   simp only[CO]at h;split at h
   ·rename_i fl ah;cases h;rcases cu.1 hm with hm|hm
    ·cases hm;exact⟨(by intro aF;cases aF),cz ..⟩
    ·obtain⟨bg,bl⟩:=Lc ah x e W hm;exact⟨bg,cv _ bl⟩
   ·cases h
  |ret=>
   simp only[CO]at h;split at h
   ·rename_i fl ah;cases h;rcases cu.1 hm with hm|hm
    ·cases hm;exact⟨(by intro aF;cases aF),cz ..⟩
    ·obtain⟨bg,bl⟩:=Lc ah x e W hm;exact⟨bg,cv _ bl⟩
   ·cases h
theorem Ld {bU:dT→aP→aO→Prop}:∀{r:bj},(r.all fun x env V=>x≠.normal∧bU x env V)→(xH r).all bU
 |.bad,h=>h
 |.alt _ _,h=>⟨Ld h.1,Ld h.2⟩
 |.done .normal _ _,h=>absurd rfl h.1
 |.done (.exit i) _ _,h=>h.2
 |.done .ret _ _,h=>h.2
theorem PK {go:aP→aO→bj} {bU:dT→aP→aO→Prop}:∀{r:bj},(r.all fun x env V=>x=.normal∧(go env V).all bU)→(Jz go r).all bU
 |.bad,h=>h
 |.alt _ _,h=>⟨PK h.1,PK h.2⟩
 |.done .normal _ _,h=>h.2
 |.done (.exit i) _ _,h=>by cases h.1
 |.done .ret _ _,h=>by cases h.1
theorem VR {bU:dT→aP→aO→Prop}:∀{l:List bj},l≠[]→(∀r∈l,r.all bU)→(yw l).all bU
 | [],h,_=>absurd rfl h
 | [lE],_,h=>h lE (cz ..)
 |lE::s::l,_,h=>⟨h lE (cz ..),VR (by simp) fun r ah=>h r (cv _ ah)⟩
theorem aeh:∀{l:List (ab × ab)} {p:(ab × ab) × List (ab × ab)},p∈tR l→p.1∈l∧(∀e∈p.2,e∈l)∧p.2.length+1=l.length
 | [],p,h=>by cases h
 |e::r,p,h=>by
  rcases cu.1 h with rfl|h
  ·exact⟨cz ..,fun x ad=>cv _ ad,rfl⟩
  ·obtain⟨q,aB,rfl⟩:=eO.1 h;obtain⟨U,aa,au⟩:=aeh aB;refine⟨cv _ U,fun x ad=> ?_,by simp[au]⟩
   rcases cu.1 ad with rfl|ad
   ·exact cz ..
   ·exact cv _ (aa x ad)
theorem apN {cH:bb} {a:ab} (h:abF cH=true) (aA:bR T.D G cH a):a.plain=true:=by
 cases aA<;>first|rfl|cases h
theorem Hh (h:aW T E R G W V) (he:ch R W.aD se env) {v w s:Nat} (ah:Hg v w s se W=true):c7 env s=.val (R w)∧w<W.aD∧W.lt=some (v,w,none)∧∀i,lx (R w)=some i→E.V.n≤i∨E.eT i:=by
 unfold Hg at ah;obtain⟨U,aa⟩:=a6 ah;obtain⟨aa,au⟩:=a6 aa;have bw:W.lt=some (v,w,none):=by
  split at aa
  ·rename_i jx w' ak;obtain⟨b3,cI⟩:=a6 aa;rw[ak,b5 b3,b5 cI]
  ·cases aa
 have Zz:w∈W.wr:=by
  simp only[hF,h4]at au;obtain⟨u,hu,aj⟩:=au;rw[b5 aj];exact hu
 refine⟨?_,h.aT.wr w Zz,bw,fun i hi=>h.aE.wr w Zz i hi⟩;have hs:=he.mf s;split at U
 ·rename_i u hu;rw[hu]at hs;have:=b5 U;subst this;exact hs
 ·cases U
theorem Z6 (h:aW T E R G W V) {u j:Nat} (ay:Ki W u=true) (aU:lx (R u)=some j):∃c,G j=.cls c:=by
 have cY:=h.ok.ty u;unfold Ki at ay;split at ay
 ·rename_i c n aw;rw[aw]at cY;generalize R u=a at cY aU;cases cY with
  |ptr _ _ i av=>cases aU;exact⟨_,av⟩
  |cX _=>cases aU
 ·rename_i c n aw;rw[aw]at cY;generalize R u=a at cY aU;cases cY with
  |map _ _ i av=>cases aU;exact⟨_,av⟩
  |qf _=>cases aU
 ·cases ay
theorem aq0 {body:bE→aH→gG} {sH:dd} {run:Option ab→dd} (aj:kh false T body sH) {s:Nat} {d:Option Nat} (b6:∀v env V,run (some v) env V=sH (dc d (.val v) env) V) (aC:gj E) (h:aW T E R G W V) (he:ch R W.aD se env) {w:Nat} {outs:List gv}
  (ay:SC body s d w se W=some outs):l1 false T E R W outs (CG run s env V (c7 env s)):=by
 unfold SC at ay;obtain⟨ah,ay⟩:=eF ay;obtain⟨cc,b4,dP,kb⟩:=Hh h he ah;split at ay
 case h_2=>cases ay
 rename_i r pY;rcases h.aE.lt _ dP with⟨m,i,ko,es,left,cur,c,a7,t,cH,bg,bl,_⟩|⟨i,bg,bl,_,bS⟩
 ·simp only at bg bl;rw[bg]at bl;cases bl
 simp only at bg;have j7:=kb i (by rw[bg];rfl)
 have hs:aW T E R G {W with lt:=none,rd:=none,wr:=W.wr.filter fun u=> !Nat.beq u w} (V.put i .dead):=by
  have:=h.Va (V':=V.put i .dead) (lt':=none) (wr':=W.wr.filter fun u=> !Nat.beq u w) rfl rfl (fun x ad=>by rw[fS,if_neg (fun e=>by rw[←e,bS.hi]at ad;exact ad (.inr (.inr rfl)))])
   (fun x ad eQ=>by rw[fS,if_neg (fun e=>by rw[←e]at ad eQ;exact j7.elim (fun aF=>by omega) eQ)])
   (fun x c ad di _=>absurd ad (by
    have hj:i≠x→False:=fun cm=>by
     obtain⟨_,ao⟩:=h.aE.wf x c ad;have ao:=ao (by
      rintro⟨p,ae,hm⟩;rw[dP]at ae;cases ae;simp only at hm;rw[bg]at hm;cases hm)
     cases dU:T.K c with
     |none=>rw[dU]at ao;exact ao.elim
     |row z k n=>rw[dU]at ao;obtain⟨cs,bd,_⟩:=ao;rw[bd]at di;exact Ga di
     |map a7 t cH=>rw[dU]at ao;obtain⟨ko,es,bd,_⟩:=ao;rw[bd]at di;exact RG di
     |obj ts=>rw[dU]at ao;obtain⟨cs,bd,_⟩:=ao;rw[bd]at di;exact Cq di
    by_cases FH:i=x
    ·rw[←FH,bS.gf];intro aF;cases aF
    ·exact absurd FH hj))
   (fun x c cs ad di aF=>by
    rw[fS]at aF;by_cases FH:i=x
    ·rw[if_pos FH]at aF;cases aF
    ·rw[if_neg FH]at aF;rw[aF]at di;exact Cq di)
   (fun v ar=>(ma.1 ar).1) (fun p ae=>by cases ae) (fun p ae=>by cases ae)
  exact this
 have ak:dk R W R {W with lt:=none,rd:=none,wr:=W.wr.filter fun u=> !Nat.beq u w}:=⟨b1 _,.refl _ _⟩;have aog:=aj E aC R G _ (V.put i .dead) _ (dc d (.val (.tuple [.bool false])) env) r hs (ch.set (he.later ak) d (x:=.val (.eN [.k (.bool false)])) (e:=.val (.tuple [.bool false])) rfl rfl) pY;refine⟨(fun aF=>by cases aF),?_⟩
 rw[cc,bg];show(KN run s i env V (V.at i)).all _;rw[bS.hi];show(bif Nat.ble V.g i then xH (run (some (.tuple [.bool false])) env (V.put i .dead))else .bad:bj).all _
 rw[rB aC h j7,cond_true,b6];refine Ld (bj.s0 ?_ aog.2);rintro x bP gL ⟨gA,W',aL,G',b_,dh,hD,iA⟩;obtain⟨b',ct⟩:=Lc ay x gA W' b_;exact⟨b',gA,W',aL,G',ct,ak.trans dh,hD,iA⟩
theorem ai3 (aC:gj E) (h:aW T E R G W V) (eX:W.op=[]) {i:Nat} (hi:G i=.no) (j5:m0 (V.at i)) (pe:∀u∈W.wr,lx (R u)≠some i):
  gj (⟨V,G,fun x=>(E.V.n≤x∨E.eT x)∧x≠i⟩:dS)∧aW T ⟨V,G,fun x=>(E.V.n≤x∨E.eT x)∧x≠i⟩ R G W V:=by
 obtain⟨e1,s1⟩:=Nf aC h eX;refine⟨⟨e1.g,fun x ad=>e1.MC x ad.1,fun g j o av=>⟨(e1.DU g j o av).1,fun aU=>⟨(e1.DU g j o av).2 aU.1,fun e=>by subst e;have av:G g=.tok j o:=av;rw[hi]at av;cases av⟩⟩,e1.out⟩,⟨s1.ok,s1.aT,⟨s1.aE.wf,s1.aE.cells,fun p ae=> ?_,s1.aE.gw,fun v ar j aU=> ?_,fun c af u0 j aU=> ?_,s1.aE.out,s1.aE.n,s1.aE.g,fun x ad eQ=>⟨rfl,rfl⟩,s1.aE.cls,fun g av j o e_=>.inl e_,s1.aE.fQ,?_,fun p ae=> ?_,s1.aE.rd⟩⟩⟩
 ·have ak:=s1.aE.live p ae;refine ak.e6 (fun _ _=>rfl) (fun g av=>(ak.tok av).1) (b1 _) (fun g av ba=>ba.imp id fun ba=>⟨ba,fun e=> ?_⟩) (fun _ _ h=>h) (fun _ h=>h);subst e;rcases(ak.tok av).2.2.2 with⟨_,_,_,aF⟩|⟨_,_,aF⟩<;>rw[aF]at j5
  ·exact Z8 j5
  ·exact Ga j5
 ·exact(s1.aE.wr v ar j aU).imp id fun ba=>⟨ba,fun e=>by subst e;exact pe v ar aU⟩
 ·exact⟨s1.aE.M c af u0 j aU,fun e=>by subst e;have aU:G j=.cls c:=aU;rw[hi]at aU;cases aU⟩
 ·exact⟨s1.aE.hi.own,s1.aE.hi.ok⟩
 ·rcases s1.aE.lt p ae with⟨m,j,ko,es,left,cur,c,a7,t,cH,bg,bl,bS,cP⟩|q
  ·refine .inl ⟨m,j,ko,es,left,cur,c,a7,t,cH,bg,bl,⟨bS.av,bS.aq,bS.hm,bS.hi,bS.gf,bS.bw,bS.lW,bS.hr,bS.ak,bS.hw.imp id fun ba=>⟨ba,fun e=> ?_⟩,bS.nA⟩,cP⟩;have:=bS.av;rw[e,hi]at this;cases this
  ·exact .inr q
theorem akZ (h:aW T E R G W V) (he:ch R W.aD se env) {d:Option Nat} {v w m i c:Nat} {ko:Option cL} {es left rest:List (ab × ab)} {cur:Option (ab × ab)} {a7:cL} {t cH:bb} {p:ab × ab} {afx:bE} {cD:aH}
  (lg:O4 T d v w se W=some (afx,cD)) (hm:R v=.map (some m)) (hi:R w=.ptr i 0) (ve:w<W.aD) (ar:v<W.aD) (ak:M4 T E G V m i ko es left cur c a7 t cH) (j7:E.V.n≤i∨E.eT i) (bw:W.lt=some (v,w,none)) (ae:p∈es) (fY:(∀e∈rest,e∈es)∧rest.length≤es.length):
  ∃dQ,dk R W dQ cD∧aW T E dQ G cD (V.put i (.iter m ko es rest (some p)))∧ch dQ cD.aD afx (dc d (.val (.tuple [.bool true,p.1,p.2])) env)∧p.1.plain=true∧cD.op=[]∧cD.lt≠none∧(∀q,cD.lt=some q→q.1=v∧q.2.1=w)∧∀u∈cD.wr,lx (dQ u)≠some i:=by
 unfold O4 at lg;split at lg
 ·rename_i bF n aw;have cY:=h.ok.ty v;rw[aw,hm]at cY;have lf:bF=c:=by
   cases cY with
   |map _ _ _ av=>rw[ak.av]at av;cases av;rfl
  subst lf;rw[ak.aq]at lg;simp only at lg;obtain⟨JU,lg⟩:=eF lg;obtain⟨zx,J_⟩:=ak.hr p ae;cases ax:cW W cH with
  |mk k W1=>
   rw[ax]at lg;simp only at lg;cases zd:cW W1 t with
   |mk x oQ=>
    rw[zd]at lg;simp only at lg;obtain⟨g5,lg⟩:=eF lg;split at lg
    case h_2=>cases lg
    rename_i eX;cases lg;obtain⟨dM,b3,cI,a3,a4⟩:=mQ cH h J_ ax;obtain⟨dQ,cp,b_,dh,hD⟩:=mQ t cI zx zd;obtain⟨b',ct⟩:=cp.ai a4;have zf:=b3.trans cp;have u7:dQ v=.map (some m):=by rw[←zf.dq v ar];exact hm
    have o_:dQ w=.ptr i 0:=by rw[←zf.dq w ve];exact hi
    have hG:=apN JU J_;have JS:i≠m:=fun e=>by have:=ak.hi;rw[e,ak.hm]at this;cases this
    have eP:∀y,m0 (V.at y)→y≠i→∀c2,G y=.cls c2→¬qz dQ (some (v,w,some (k,x))) y→False:=by
     intro y di Cj c2 iE aK;have vg:y≠m:=fun e=>aK ⟨_,rfl,by rw[e];exact u7⟩
     have ao:=(h.aE.wf y c2 iE).2 (by
      rintro⟨q,aB,zr⟩;rw[bw]at aB;cases aB;simp only at zr;rw[hm]at zr;cases zr;exact vg rfl)
     cases dU:T.K c2 with
     |none=>rw[dU]at ao;exact ao.elim
     |row z k n=>rw[dU]at ao;obtain⟨cs,bd,_⟩:=ao;rw[bd]at di;exact Ga di
     |map a7 t cH=>rw[dU]at ao;obtain⟨ko,es,bd,_⟩:=ao;rw[bd]at di;exact RG di
     |obj ts=>rw[dU]at ao;obtain⟨cs,bd,_⟩:=ao;rw[bd]at di;exact Cq di
    have mT:(V.put i (.iter m ko es rest (some p))).at i=.iter m ko es rest (some p):=by rw[fS,if_pos rfl]
    have bM:∀y,y≠i→(V.put i (.iter m ko es rest (some p))).at y=V.at y:=fun y aI=>by rw[fS,if_neg (fun e=>aI e.symm)]
    have hs:=b_.Va (V':=V.put i (.iter m ko es rest (some p))) (lt':=some (v,w,some (k,x))) (wr':=oQ.wr.filter fun u=> !Nat.beq u w) rfl rfl
     (fun y aI=>bM y (fun e=>by rw[e,ak.hi]at aI;exact aI (.inr (.inl ⟨_,_,_,_,_,rfl⟩))))
     (fun y aI eQ=>bM y (fun e=>by rw[e]at aI eQ;exact j7.elim (fun aF=>by omega) eQ))
     (fun y c2 iE di aK=>by
      by_cases Cj:y=i
      ·rw[Cj,ak.gf]at iE;cases iE
      ·exact(eP y di Cj c2 iE aK).elim)
     (fun y c2 cs iE di aF=>by
      by_cases Cj:y=i
      ·rw[Cj,ak.gf]at iE;cases iE
      ·rw[bM y Cj]at aF;rw[aF]at di;exact Cq di)
     (fun u hu=>(ma.1 hu).1)
     (fun q aB=>by cases aB;exact⟨eE ar zf.n,eE ve zf.n,fun q aB=>by cases aB;exact⟨ct,hD⟩⟩)
     (fun q aB=>by
      cases aB;refine .inl ⟨m,i,ko,es,rest,some p,bF,a7,t,cH,u7,o_,⟨ak.av,ak.aq,by rw[bM m (Ne.symm JS)];exact ak.hm,mT,ak.gf,ak.bw,ak.lW,ak.hr,fY,ak.hw,ak.nA⟩,fun q aB=> ?_⟩
      cases aB;simp only;rw[b',a3,dh];exact⟨rfl,hG⟩)
    refine⟨dQ,⟨zf.n,zf.dq⟩,hs,?_,hG,eX,(by intro aF;cases aF),(fun q aB=>by cases aB;exact⟨rfl,rfl⟩),fun u hu aU=> ?_⟩
    ·refine ch.set (he.later zf) d (x:=.val (.eN [.k (.bool true),k,x])) ?_ ?_
     ·simp only[cZ,al.ai,aM];rw[b',a3,dh]
     ·show(true&&(k.bh _&&(x.bh _&&true)))=true;rw[ct,hD];rfl
    ·obtain⟨aou,Zw⟩:=ma.1 hu;have:=dI.1 g5 u aou;rw[g1]at this;rcases this with aj|aj
     ·rw[aj]at Zw;cases Zw
     ·obtain⟨c2,iE⟩:=Z6 b_ aj aU;rw[ak.gf]at iE;cases iE
 ·cases lg
theorem aW.aur (h:aW T E R G W V) {v w m i c:Nat} {ko:Option cL} {es left:List (ab × ab)} {cur:Option (ab × ab)} {a7:cL} {t cH:bb} (hm:R v=.map (some m)) (ak:M4 T E G V m i ko es left cur c a7 t cH) (j7:E.V.n≤i∨E.eT i) (bw:W.lt=some (v,w,none)):
  aW T E R G {W with lt:=none,rd:=none,wr:=W.wr.filter fun u=> !Nat.beq u w} ((V.put i .dead).put m (.map ko es)):=by
 have JS:i≠m:=fun e=>by have:=ak.hi;rw[e,ak.hm]at this;cases this
 have bM:∀y,y≠i→y≠m→((V.put i .dead).put m (.map ko es)).at y=V.at y:=fun y U aa=>by rw[fS,if_neg (fun e=>aa e.symm),fS,if_neg (fun e=>U e.symm)]
 have YK:((V.put i .dead).put m (.map ko es)).at m=.map ko es:=by rw[fS,if_pos rfl]
 have mT:((V.put i .dead).put m (.map ko es)).at i=.dead:=by rw[fS,if_neg (fun e=>JS e.symm),fS,if_pos rfl]
 have eP:∀y,m0 (V.at y)→y≠m→∀c2,G y=.cls c2→False:=by
  intro y di vg c2 iE;have ao:=(h.aE.wf y c2 iE).2 (by
   rintro⟨q,aB,zr⟩;rw[bw]at aB;cases aB;simp only at zr;rw[hm]at zr;cases zr;exact vg rfl)
  cases dU:T.K c2 with
  |none=>rw[dU]at ao;exact ao.elim
  |row z k n=>rw[dU]at ao;obtain⟨cs,bd,_⟩:=ao;rw[bd]at di;exact Ga di
  |map a7 t cH=>rw[dU]at ao;obtain⟨ko,es,bd,_⟩:=ao;rw[bd]at di;exact RG di
  |obj ts=>rw[dU]at ao;obtain⟨cs,bd,_⟩:=ao;rw[bd]at di;exact Cq di
 have:=h.Va (V':=(V.put i .dead).put m (.map ko es)) (lt':=none) (wr':=W.wr.filter fun u=> !Nat.beq u w) rfl rfl
  (fun y aI=>bM y (fun e=>by rw[e,ak.hi]at aI;exact aI (.inr (.inl ⟨_,_,_,_,_,rfl⟩))) (fun e=>by rw[e,ak.hm]at aI;exact aI (.inl rfl)))
  (fun y aI eQ=>bM y (fun e=>by rw[e]at aI eQ;exact j7.elim (fun aF=>by omega) eQ) (fun e=>by rw[e]at aI eQ;exact ak.hw.elim (fun aF=>by omega) eQ))
  (fun y c2 iE di _=>by
   by_cases vg:y=m
   ·subst vg;rw[ak.av]at iE;cases iE;rw[ak.aq];exact⟨ko,es,YK,ak.lW,ak.hr⟩
   ·exact(eP y di vg c2 iE).elim)
  (fun y c2 cs iE di aF=>by
   by_cases vg:y=m
   ·rw[vg,YK]at aF;cases aF
   ·exact eP y di vg c2 iE)
  (fun u hu=>(ma.1 hu).1) (fun q aB=>by cases aB) (fun q aB=>by cases aB)
 exact this
theorem SY:∀{n:Nat} {l:List Nat},l.Nodup→(∀x∈l,x<n)→l.length≤n
 |0,l,_,h=>by
  cases l with
  |nil=>exact b1 _
  |cons a l=>exact absurd (h a (cz ..)) (by omega)
 |n+1,l,aK,h=>by
  by_cases hm:n∈l
  ·have U:=SY (n:=n) (l:=l.erase n) (aK.erase n) fun x ad=>by
    have aa:=h x (List.mem_of_mem_erase ad);have au:x≠n:=fun e=>by subst e;exact(aK.mem_erase_iff.1 ad).1 rfl
    omega
   rw[List.length_erase_of_mem hm]at U;omega
  ·have:=SY (n:=n) aK fun x ad=>by
    have aa:=h x ad;have au:x≠n:=fun e=>by subst e;exact hm ad
    omega
   omega
theorem abI {D:Nat→bb} {es:List (ab × ab)} {tE:IntKind} {lo hi:Int} (QE:lo≤hi) (aQ:qy es) (aw:∀e∈es,bR D G (.int tE lo hi) e.1):(es.length:Int)≤hi-lo+1:=by
 have key:∀{es:List (ab × ab)},qy es→(∀e∈es,bR D G (.int tE lo hi) e.1)→(es.map fun e=>(intOf e.1-lo).toNat).Nodup:=by
  intro es
  induction es with
  |nil=>intro _ _;exact .nil
  |cons a r bm=>
   intro aQ aw;obtain⟨U,aa⟩:=kk.1 aQ;rw[gM,Ov];refine⟨fun hm=> ?_,bm aa fun e he=>aw e (cv _ he)⟩;obtain⟨b,aj,he⟩:=eO.1 hm;have agk:=aw a (cz ..);have yg:=aw b (cv _ aj);generalize aA:a.1=x at agk he;generalize za:b.1=y at yg he;cases agk with
   |int _ _ _ n az ao=>
    cases yg with
    |int _ _ _ gI Gc av0=>
     simp only[intOf]at he;have:n=gI:=by omega
     subst this;exact U b aj tE tE n aA za
 have U:=SY (n:=(hi-lo+1).toNat) (key aQ aw) fun x ad=>by
  obtain⟨e,he,rfl⟩:=eO.1 ad;have te:=aw e he;generalize e.1=y at te;cases te with
  |int _ _ _ n az ao=>simp only[intOf];omega
 rw[ng]at U;omega
theorem RP {v:Nat} {l:bn} (ak:Cu T W v=some l):∃c n t a7 lo hi tE,W.df v=.map c n∧T.K c=.map a7 t (.int tE lo hi)∧lo≤hi∧l=.k (hi-lo+1):=by
 unfold Cu at ak;split at ak
 ·rename_i c n aw;split at ak
  ·rename_i a7 t tE lo hi aq;obtain⟨U,aa⟩:=eF ak;rw[tH]at U;simp only[bk]at aa;refine⟨c,n,t,a7,lo,hi,tE,aw,aq,of_decide_eq_true U,?_⟩;rw[←aa,yt,DM];rfl
  ·cases ak
 ·cases ak
theorem W9 {la:dX} {v:Nat} {ys:List al} {more:Int} (h:aW T E R G W V) (he:ch R W.aD se env) (af:cls W.aD ys=true)
  (ae:∀(l:bn) (m5:Int),la.un≠0→Cu T W v=some l→m5=ju env (aM R ys) la.ms→0≤l.ai R-m5+more):
  aW T E R G (uE T la v ys se W more) V∧(uE T la v ys se W more).aD=W.aD∧(uE T la v ys se W more).lt=W.lt∧(uE T la v ys se W more).wr=W.wr:=by
 unfold uE;split
 ·exact⟨h,rfl,rfl,rfl⟩
 ·rename_i cm;split
  ·rename_i m n hm aK;obtain⟨bg,bl⟩:=x9 h he af hm;obtain⟨c,ct,t,a7,lo,hi,tE,hd,kD,MX,MY⟩:=RP aK;refine⟨h.g2 (by rw[fe,eG,bg];exact ae n _ (fun e=>cm e) aK rfl) ?_,rfl,rfl,rfl⟩
   exact qL (x:=n.sub m) (n1 (by rw[MY];rfl) bl)
  ·exact⟨h,rfl,rfl,rfl⟩
theorem aqZ {la:dX} {code:fK} {body:bE→aH→gG} {sH:dd} {run:Option ab→dd} (aj:kh false T body sH) {s:Nat} {d:Option Nat} (b6:∀v env V,run (some v) env V=sH (dc d (.val v) env) V) {v w:Nat} (ve:v≠w):
  ∀(E:dS),gj E→∀(dW:cj) (fD:Nat→cR) (cS:aH) (dD:aO) (se:bE) (c':aP) (outs:List gv) (xs:List al),aW T E dW fD cS dD→ch dW cS.aD se c'→aM dW xs=fE c' dD la.ce→cls cS.aD xs=true→cS.op=[]→SB T la code body s d v w xs se cS=some outs→l1 false T E dW cS outs (CG run s c' dD (c7 c' s)):=by
 intro E aC dW fD cS dD se c' outs xs ec fO lr lq eX ay;unfold SB at ay;split at ay
 case h_2=>cases ay
 rename_i hse HW W1 ys aF;obtain⟨xj,ay⟩:=eF ay;obtain⟨FA,xj⟩:=a6 xj;obtain⟨Q3,Q2⟩:=a6 xj;obtain⟨Q2,anW⟩:=a6 Q2;split at ay
 case h_2=>cases ay
 rename_i BD cD lg;split at ay
 case h_2=>cases ay
 rename_i l r ak ah;obtain⟨amu,gf⟩:=eF ay;obtain⟨amw,jk⟩:=a6 amu;obtain⟨bZ,cB,z3,z4⟩:=Hh ec fO Q2;have iY:v<cS.aD:=(ec.aT.lt _ z3).1;rcases ec.aE.lt _ z3 with⟨m,i,ko,es,KG,Ol,c,a7,t,cH,cQ,eR,ev,_⟩|⟨i,cQ,eR,_,_⟩
 case inr=>
  simp only at cQ;obtain⟨c,af⟩:=Z6 ec anW (by rw[cQ];rfl)
  rename_i q;rw[q.gf]at af;cases af
 simp only at cQ eR;obtain⟨Fp,mS⟩:=Nf aC ec eX;have aos:E.V.n≤i∨E.eT i:=z4 i (by rw[eR];rfl)
 unfold JM at aF;split at aF
 case h_2=>cases aF
 rename_i M9 aqs hH Qq od p5;obtain⟨u3,aF⟩:=eF aF;obtain⟨u3,Qs⟩:=a6 u3;cases mU:CM la (nb (jW code) se) {M9 with cells:=nH se cS.cells la.q7,rd:=none}with
 |mk bL oQ=>
  rw[mU]at aF;simp only at aF;split at aF
  case h_2=>cases aF
  rename_i en jT di;split at aF
  case h_2=>cases aF
  rename_i jJ bS FM zp;simp only[bk,Prod.mk.injEq]at aF;obtain⟨rfl,rfl,rfl,rfl⟩:=aF;obtain⟨⟨Vk,v2,v3⟩,g5⟩:=Jx fO Qq;obtain⟨lv,rfl,ao,aX,bD,c8,e'⟩:=uV mS v3;generalize lb:({cS with live:=lv,cells:=nH se cS.cells la.q7,rd:=none}:aH)=ez at*;have P0:({({cS with live:=lv}:aH)with cells:=nH se cS.cells la.q7,rd:=none}:aH)=ez:=by rw[←lb]
  have j4:ez.aD=cS.aD:=by rw[←lb]
  have FN:ez.live=lv:=by rw[←lb]
  have o6:ez.cA=cS.cA:=by rw[←lb]
  have Qb:ez.op=[]:=by rw[←lb];exact eX
  have BZ:ez.lt=cS.lt:=by rw[←lb]
  have Qc:ez.rd=none:=by rw[←lb]
  have r0:ez.cells=nH se cS.cells la.q7:=by rw[←lb]
  have Fo:aW T (k5 E fD dD) dW fD ez dD:=by
   rw[←lb];exact((mS.vo ao).ab_ fun p ae=>Kp ae).pq
  have Fs:ez= {({cS with live:=lv}:aH)with cells:=ez.cells,rd:=none}:=by rw[r0];exact P0.symm
  have ej:∀s,(ee (nb (jW code) se) s).bh ez.aD=true:=by
   intro s;rw[j4];rcases Hn (l:=jW code) (env:=se) (s:=s)with h|h
   ·rw[h];rfl
   ·rw[h];exact fO.bh s
  have QA:∀x∈la.inv,0≤ju c' (fE c' dD la.ce++aM dW xs) x:=by
   obtain⟨bg,_⟩:=DH mS fO (rQ lq lq) od;rw[rW,lr]at bg;rw[lr];intro x ad;have fW:ju c' (fE c' dD la.ce++fE c' dD la.ce) x∈la.inv.map (ju c' (fE c' dD la.ce++fE c' dD la.ce)):=eO.2 ⟨x,ad,rfl⟩;rw[←bg]at fW;obtain⟨y,aI,he⟩:=eO.1 fW;rw[←he];exact Fi mS u3 y aI
  have QY:∀p∈la.pi,eu T (mD c' (fE c' dD la.ce) p).1 (mD c' (fE c' dD la.ce) p).2:=by
   have:=Mj mS.ok fO lq p5 Qs;rw[lr]at this;exact this
  have Ft:∃fR,dk dW ez fR (ie bS (hB jJ jT))∧aW T (k5 E fD dD) fR fD (ie bS (hB jJ jT)) dD∧ch fR (ie bS (hB jJ jT)).aD bL c'∧aM fR en=fE c' dD la.ce∧cls (ie bS (hB jJ jT)).aD en=true:=by
   refine JN (la:=la) (body:=code) (se:=se) (W1:= {cS with live:=lv}) g5 Fo Fs (fun s _=>⟨?_,ej s⟩) (vs:=aM dW Vk) (by rw[hp];exact aX) v2 bD c8 (fun g av p ae=>(e' g av).2 p (by rw[FN]at ae;exact ae)) mU di (by rw[j4];exact lq) FM QA zp QY rfl rfl
   rcases Hn (l:=jW code) (env:=se) (s:=s)with h|h
   ·rw[h];trivial
   ·rw[h];exact fO.mf s
  have Q9:∀s,Cn la s→ee bL s=ee (nb (jW code) se) s:=by
   intro s hs;rw[SO]at mU;simp only[Prod.mk.injEq]at mU;rw[←mU.1,aft hs]
  have u_:ez.aD≤(ie bS (hB jJ jT)).aD:=let⟨_,q,_,_,_,_⟩:=Ft;q.n
  generalize P1:ie bS (hB jJ jT)=HW at*;have JS:i≠m:=fun e=>by have:=ev.hi;rw[e,ev.hm]at this;cases this
  have YS:la.un=0∨∃N:Int,(es.length:Int)≤N∧ju c' (fE c' dD la.ce) la.ms≤0∧∀{MZ:cj} {H2:Nat→cR} {V:aO} {l:bn},aW T (k5 E fD dD) MZ H2 HW V→MZ v=.map (some m)→Cu T HW v=some l→l.ai MZ=N:=by
   unfold W8 at FA;split at FA
   ·rename_i aV;exact .inl aV
   ·refine .inr ?_;split at FA
    ·rename_i m5 bB oh nB;have bz:=dE mS.ok FA;obtain⟨bg,_⟩:=x9 mS fO lq oh;rw[lr]at bg;rw[hV,bg]at bz;obtain⟨c2,ct,t2,av2,lo,hi,tE,hd,kD,MX,MY⟩:=RP nB;have cY:=mS.ok.ty v;rw[hd,cQ]at cY;have lf:c2=c:=by
      cases cY with
      |map _ _ _ av=>have:=ev.av;rw[av]at this;cases this;rfl
     subst lf;have eV:=ev.aq;rw[kD]at eV;cases eV;refine⟨hi-lo+1,?_,by omega,fun {MZ H2 V l} hs hm ak=> ?_⟩
     ·exact abI MX ev.lW.2 (fun e he=>(ev.hr e he).2)
     ·obtain⟨fU,jr,t3,av3,iv,ei,avY,bZ,cB,z3,z4⟩:=RP ak;have cY:=hs.ok.ty v;rw[bZ,hm]at cY;have ana:H2 m=.cls fU:=by cases cY with|map _ _ _ av=>exact av
      have anB:m<(k5 E fD dD).V.n:=ev.nA;have Y3:H2 m=.cls c2:=(hs.aE.cls m anB c2).2 ev.av;rw[ana]at Y3;cases Y3;rw[kD]at cB;cases cB;rw[z4,wZ]
    ·cases FA
  have key:∀(n:Nat) (left:List (ab × ab)) (env:aP) (V:aO) (cur:Option (ab × ab)) (fR:cj) (ui:Nat→cR),left.length=n→(∀e∈left,e∈es)→hy ez.aD dW fR→aW T (k5 E fD dD) fR ui HW V→ch fR HW.aD bL env→aM fR en=fE env V la.ce→cls HW.aD en=true→
    V.at i=.iter m ko es left cur→(∀N:Int,la.un≠0→(es.length:Int)≤N→ju c' (fE c' dD la.ce) la.ms≤0→ju env (fE env V la.ce) la.ms+left.length≤es.length)→(xW run s i m ko es (n+1) left env V).all (qx T (k5 E fD dD) dW cS outs):=by
   intro n
   induction n with
   |zero=>
    intro left env V cur fR ui aK hr i1 i2 i3 i5 i6 bM qU;obtain⟨b3,cI,a3,a4⟩:=Hh i2 i3 Q3;have qY:fR v=.map (some m):=by rw[←i1 v (by rw[j4];exact iY)];exact cQ
    have xc:fR w=.ptr i 0:=by rw[←i1 w (by rw[j4];exact cB)];exact eR
    rcases i2.aE.lt _ a3 with⟨eI,hk,ko',es',iK,jV,bF,kx,cn,Cv,cp,b_,dh,_⟩|⟨hk,cp,_⟩
    case inr=>simp only at cp;rw[qY]at cp;cases cp
    simp only at cp b_;rw[qY]at cp;rw[xc]at b_;cases cp;cases b_;have Eo:=dh.hi;rw[bM]at Eo;cases Eo;have tx:left=[]:=wv.1 aK;subst tx;show(bif nG i (c7 env s)then xH (run (some (.tuple [.bool false])) env ((V.put i .dead).put m (.map ko es)))else .bad:bj).all _
    rw[b3,xc,show nG i (.val (.ptr i 0))=true from by show Nat.beq i i=true;rw[gY];exact decide_eq_true rfl,cond_true,b6]
    obtain⟨Ru,yR,Oj,Xh⟩:=W9 (la:=la) (v:=v) (ys:=en) (more:=.ofNat 0) i2 i3 i6 (fun l m5 aV ak oh=>by
     rcases YS with U|⟨N,b',ct,jr⟩
     ·exact absurd U aV
     ·have:=qU N aV b' ct;rw[jr i2 qY ak,oh,i5];simp only[nn]at this;show 0≤N-_+0;omega)
    have im:=Ru.aur qY dh (a4 i (by rw[xc];rfl)) (by rw[Oj];exact a3)
    rw[Xh]at im;have QE:dk fR HW fR {uE T la v en bL HW (.ofNat 0)with lt:=none,rd:=none,wr:=HW.wr.filter fun u=> !Nat.beq u w}:=⟨by show HW.aD≤(uE T la v en bL HW (.ofNat 0)).aD;rw[yR];exact b1 _,.refl _ _⟩
    have Q4:=aj _ Fp fR ui _ _ _ (dc d (.val (.tuple [.bool false])) env) r im (ch.set (i3.later QE) d (x:=.val (.eN [.k (.bool false)])) (e:=.val (.tuple [.bool false])) rfl rfl) ah;refine Ld (bj.s0 ?_ Q4.2);rintro x bP gL ⟨gA,W',aL,G',c2,fU,rN,td⟩;obtain⟨b',ct⟩:=Lc gf x gA W' c2;have WK:=QE.trans fU;exact⟨b',gA,W',aL,G',ct,⟨by rw[←j4];exact fp u_ WK.n,by rw[←j4];exact i1.trans (WK.dq.less u_) (b1 _)⟩,rN,td⟩
   |succ n bm=>
    intro left env V cur fR ui aK hr i1 i2 i3 i5 i6 bM qU;obtain⟨b3,cI,a3,a4⟩:=Hh i2 i3 Q3;have qY:fR v=.map (some m):=by rw[←i1 v (by rw[j4];exact iY)];exact cQ
    have xc:fR w=.ptr i 0:=by rw[←i1 w (by rw[j4];exact cB)];exact eR
    rcases i2.aE.lt _ a3 with⟨eI,hk,ko',es',iK,jV,bF,kx,cn,Cv,cp,b_,dh,_⟩|⟨hk,cp,_⟩
    case inr=>simp only at cp;rw[qY]at cp;cases cp
    simp only at cp b_;rw[qY]at cp;rw[xc]at b_;cases cp;cases b_;have Eo:=dh.hi;rw[bM]at Eo;cases Eo;have j7:=a4 i (by rw[xc];rfl)
    obtain⟨cE,lE,tx⟩:∃e r,left=e::r:=by
     cases left with
     |nil=>cases aK
     |cons e r=>exact⟨e,r,rfl⟩
    have FZ:xW run s i m ko es (n+1+1) left env V=bif nG i (c7 env s)then yw ((tR left).map (LY run i m ko es env V (xW run s i m ko es (n+1))))else .bad:=by rw[tx];rfl
    rw[FZ,b3,xc,show nG i (.val (.ptr i 0))=true from by show Nat.beq i i=true;rw[gY];exact decide_eq_true rfl,cond_true]
    refine VR (by rw[tx];simp[tR]) fun awb sj=> ?_
    obtain⟨p,ae,rfl⟩:=eO.1 sj;obtain⟨et,eY,m7⟩:=aeh ae;have aoy:v<HW.aD:=eE (by rw[j4];exact iY) u_
    obtain⟨Ru,yR,Oj,Xh⟩:=W9 (la:=la) (v:=v) (ys:=en) (more:=.negSucc 0) i2 i3 i6 (fun l m5 aV ak oh=>by
     rcases YS with U|⟨N,b',ct,jr⟩
     ·exact absurd U aV
     ·have:=qU N aV b' ct;rw[jr i2 qY ak,oh,i5];show 0≤N-_+ -1;omega)
    obtain⟨dQ,ia,oI,AS,Vd,agP,awh,awi,u8⟩:=akZ Ru (by rw[yR];exact i3) lg qY xc (by rw[yR];exact cI) (by rw[yR];exact aoy) dh j7 (by rw[Oj];exact a3) (hr _ et) ⟨fun e he=>hr e (eY e he),by have:=dh.ak.2;omega⟩ (rest:=p.2) (p:=p.1)
    have ia:dk fR HW dQ cD:=⟨by rw[←yR];exact ia.n,by have:=ia.dq;rw[yR]at this;exact this⟩
    show(bif p.1.1.plain then Jz _ (run (some (.tuple [.bool true,p.1.1,p.1.2])) env (V.put i (.iter m ko es p.2 (some p.1))))else .bad:bj).all _
    rw[Vd,cond_true,b6];have mT:(V.put i (.iter m ko es p.2 (some p.1))).at i=.iter m ko es p.2 (some p.1):=by rw[fS,if_pos rfl]
    obtain⟨ami,amp⟩:=ai3 Fp oI agP dh.gf (by rw[mT];exact .inr (.inl ⟨_,_,_,_,_,rfl⟩)) u8
    have Q4:=aj _ ami dQ ui cD _ BD _ l amp AS ak;refine PK (bj.s0 ?_ Q4.2);rintro x bP gL ⟨gA,W',aL,G',c2,fU,rN,td⟩;have oa:=dI.1 jk _ c2;have jl:=dI.1 amw _ c2;cases x with
    |exit j=>cases oa
    |ret=>cases oa
    |normal=>
    refine⟨rfl,?_⟩;have YJ:gL.at i=.iter m ko es p.2 (some p.1):=by
     have FO:i<(V.put i (.iter m ko es p.2 (some p.1))).n:=dh.bw;have:=(rN.aE.f' i FO (fun aF=>aF.2 rfl)).1;rw[this];exact mT
    have ajX:aW T (k5 E fD dD) aL G' W' gL:=agS Fp oI agP (fun x ad=>ad.1) rN;have h7:Ny T la xs (nH se cS.cells la.q7) lv cS.cA cS.lt bL gA W'=true:=oa;unfold Ny at h7;split at h7
    case h_2=>cases h7
    rename_i fm M_ F0;obtain⟨oL,x4,tX,zB,hX,Rt⟩:=W7 ajX td F0;have iA:=td.later x4;have lS:hy ez.aD dW oL:=(i1.trans (ia.dq.less u_) (b1 _)).trans ((fU.trans x4).dq.less (fp u_ ia.n)) (b1 _);split at h7
    case h_2=>cases h7
    rename_i ahy aqr asx mn Qx FX;obtain⟨bu,h7⟩:=a6 h7;obtain⟨bu,al7⟩:=a6 bu;obtain⟨bu,al9⟩:=a6 bu;obtain⟨bC,h7⟩:=a6 h7;obtain⟨c4,h7⟩:=a6 h7;obtain⟨eb,iX⟩:=a6 h7;obtain⟨⟨Vl,fJ,yn⟩,_⟩:=Jx iA mn;obtain⟨Sk,rfl,avo,avp,avq,avr,avs⟩:=uV tX yn;have oe:∀p∈ez.live,p∈Sk:=by
     rw[FN];intro p ae;exact YH (dI.1 eb p ae)
    have PT:aW T (k5 E fD dD) oL G' ez gL:=Wh Fo tX lS (by rw[r0];exact bC) (fun p ae=>avo.subset (oe p ae)) (by rw[o6];exact iX) Qb Rt (by rw[BZ];exact al7) Qc
    have Rn:cls M_.aD xs=true:=mE (by have:=(fU.trans x4).n;have:=ia.n;omega) _ lq
    have QB:∀x∈la.inv,0≤ju bP (fE bP gL la.ce++aM oL xs) x:=by
     obtain⟨bg,_⟩:=DH tX iA (rQ hX Rn) Qx;rw[rW,zB]at bg;intro x ad;have fW:ju bP (fE bP gL la.ce++aM oL xs) x∈la.inv.map (ju bP (fE bP gL la.ce++aM oL xs)):=eO.2 ⟨x,ad,rfl⟩;rw[←bg]at fW;obtain⟨y,aI,he⟩:=eO.1 fW;rw[←he];exact Fi tX bu y aI
    have QZ:∀p∈la.pi,eu T (mD bP (fE bP gL la.ce) p).1 (mD bP (fE bP gL la.ce) p).2:=by
     have:=Mj tX.ok iA hX FX al9;rw[zB]at this;exact this
    have Qv:=JN (env:=bP) (la:=la) (body:=code) (se:=se) (W1:= {cS with live:=lv}) (HW:=HW) (hse:=bL) g5 PT Fs (fun s hs=>⟨by
      have U:=DL c4 (ja s);have aa:ee (yl la bL) s=ee (nb (jW code) se) s:=by rw[afv hs,Q9 s hs]
      have au:Ay (ee (yl la bL) s) (ee gA s)=true:=U;rw[aa]at au;exact af9 au (iA.mf s),ej s⟩) (vs:=aM oL Vl) (by rw[hp];exact avp) fJ avq avr (fun g av p ae=>(avs g av).2 p (oe p ae)) mU di (by rw[j4];exact lq) FM QB zp QZ rfl P1.symm
    obtain⟨HS,f1,f2,f3,f4,f5⟩:=Qv;have lk:gL.at m=.eL:=by
     obtain⟨_,_,aiz,_⟩:=Hh f2 f3 Q3;rcases f2.aE.lt _ aiz with⟨eI,hk,ko',es',iK,jV,bF,kx,cn,Cv,cp,b_,dh,_⟩|⟨hk,cp,_⟩
     ·have QJ:HS v=.map (some m):=by rw[←f1.dq v (by rw[j4];exact iY),←lS v (by rw[j4];exact iY)];exact cQ
      simp only at cp;rw[QJ]at cp;cases cp;exact dh.hm
     ·have QJ:HS v=.map (some m):=by rw[←f1.dq v (by rw[j4];exact iY),←lS v (by rw[j4];exact iY)];exact cQ
      simp only at cp;rw[QJ]at cp;cases cp
    show(bif Hf i m (.iter m ko es p.2 (some p.1)) gL then _ else bj.bad).all _
    have pd:Hf i m (.iter m ko es p.2 (some p.1)) gL=true:=by
     unfold Hf;rw[@decide_eq_true _ (Classical.propDecidable _) YJ,lk];rfl
    rw[pd,cond_true];refine bm p.2 bP gL (some p.1) HS G' (by omega) (fun e he=>hr e (eY e he)) (lS.trans f1.dq (b1 _)) f2 f3 f4 f5 YJ fun N aV b' ct=> ?_
    have iD:=qU N aV b' ct;have jl:Od T la (sK HW bL en la.ms) gA W'=true:=jl;unfold Od at jl;split at jl
    ·rename_i a';exact absurd a' aV
    ·rw[F0]at jl;simp only at jl;split at jl
     ·rename_i bd bx anw u7;have jl:=dE tX.ok jl;obtain⟨e1,aN⟩:=x9 i2 i3 i6 anw;obtain⟨I6,eB⟩:=x9 tX iA hX u7;have em:bd.ai oL=bd.ai fR:=(jK ((ia.trans (fU.trans x4)).dq) aN).symm;simp only[fe,eG,hU]at jl;rw[em,e1,i5,I6,zB]at jl;omega
     ·cases jl
  obtain⟨fR,bg,bl,asw,cP,eC⟩:=Ft;refine l1.MM aC ec eX ⟨(fun aF=>by cases aF),?_⟩
  rw[bZ,eR];show(KN run s i c' dD (dD.at i)).all _;rw[ev.hi];show(bif Nat.ble dD.g i&&(Nat.ble dD.g m&&zE (dD.at m))then xW run s i m ko es (KG.length+1) KG c' dD else .bad:bj).all _
  rw[rB aC ec aos,rB aC ec ev.hw,ev.hm];exact key KG.length KG c' dD Ol fR fD rfl ev.ak.1 bg.dq bl asw cP eC ev.hi fun N _ _ ct=>by have:=ev.ak.2;omega
theorem aq1 {la:dX} {code:fK} {body:bE→aH→gG} {sH:dd} {run:Option ab→dd} (aj:kh false T body sH) {s:Nat} {d:Option Nat} (b6:∀v env V,run (some v) env V=sH (dc d (.val v) env) V):kh false T (K4 T la code body s d) (fun env V=>CG run s env V (c7 env s)):=by
 intro E aC dW fD cS dD se c' outs ec fO ay;unfold K4 at ay;split at ay
 case h_2=>cases ay
 rename_i v w bw;cases ve:Nat.beq v w with
 |true=>
  rw[ve,cond_true]at ay;have:=b5 ve;subst this;exact aq0 aj b6 aC ec fO ay
 |false=>
  rw[ve,cond_false]at ay;have cm:v≠w:=fun e=>by subst e;rw[gY,decide_eq_true rfl]at ve;cases ve
  split at ay
  ·rename_i xs W1 ah;obtain⟨dM,az,ao,aX,bD⟩:=Hb ec fO ah;split at ay
   ·rename_i cD ej;obtain⟨dQ,bd,bx,bT⟩:=Bq ao ej;obtain⟨b',ct⟩:=bd.aM bD;obtain⟨bN,ay⟩:=Jn ay;have ak:=az.trans bd;exact(aqZ (la:= {la with bN:=bN}) aj b6 cm E aC dQ fD cD dD se c' outs xs bx (fO.later ak) (by rw[b'];exact aX) ct bT ay).later ak
   ·cases ay
  ·cases ay
end Go.bO.cK
end
