/-
  A WALKER OF CODE IN SMALL, part 13: what is handed over; objects written; new objects.
-/
import Derived.Test.YthjhmfhmejlenaaGreatSX10
import Derived.Test.YthjhmfhmejlenaaGreatAL18
set_option linter.unusedSectionVars false
set_option linter.unusedVariables false
set_option linter.unusedSimpArgs false
section
namespace Go.bO.cK
variable {dm:Bool} {T:bG} [e8 T] {E:dS} {R aL:cj} {G G':Nat→cR} {W:aH} {V:aO} {se:bE} {env:aP}
theorem Hz {v sz e:Nat}:∀{l c_:List (Nat × Nat × Nat)},DQ v sz e l=some c_→∃ep dV,l=ep++(v,sz,e)::dV∧c_=ep++dV
 | [],c_,h=>by cases h
 |p::r,c_,h=>by
  unfold DQ at h;cases aj:Nat.beq v p.1&&(Nat.beq sz p.2.1&&Nat.beq e p.2.2)with
  |true=>
   rw[aj]at h;cases h;obtain⟨U,ama⟩:=a6 aj;obtain⟨aa,au⟩:=a6 ama;have e:p=(v,sz,e):=by
    have b3:=b5 U;have cI:=b5 aa;have a3:=b5 au;obtain⟨a,b,c⟩:=p;simp only at b3 cI a3;rw[b3,cI,a3]
   rw[e];exact⟨[],r,rfl,rfl⟩
  |false=>
   rw[aj]at h;simp only[cond_false]at h;split at h
   ·rename_i fl ah;cases h;obtain⟨ep,dV,U,aa⟩:=Hz ah;exact⟨p::ep,dV,by rw[U];rfl,by rw[aa];rfl⟩
   ·cases h
theorem aW.vo (h:aW T E R G W V) {l:List (Nat × Nat × Nat)} (hs:l.Sublist W.live):aW T E R G {W with live:=l} V:=
 ⟨⟨h.ok.ty,h.ok.top,h.ok.ge,h.ok.da,h.ok.cC,h.ok.b2⟩,⟨h.aT.ge,h.aT.da,h.aT.cC,h.aT.cells,fun p ae=>h.aT.live p (hs.subset ae),h.aT.cA,h.aT.wr,h.aT.b2,h.aT.op,h.aT.lt,fun p ae=>h.aT.gz p (hs.subset ae),h.aT.rd⟩,
  ⟨h.aE.wf,h.aE.cells,fun p ae=>h.aE.live p (hs.subset ae),h.aE.gw.sublist hs,h.aE.wr,h.aE.M,h.aE.out,h.aE.n,h.aE.g,h.aE.f',h.aE.cls,h.aE.tok,h.aE.fQ,h.aE.hi,h.aE.lt,h.aE.rd⟩⟩
def kB:bb→Bool
 |.own _ _ _ _ _=>true
 |_=>false
def k_ (t:bb) (a:ab):List Nat:=if kB t=true then(dv a).toList else []
def fi:List bb→List ab→List Nat
 |t::ts,a::as=>k_ t a++fi ts as
 |_,_=>[]
def D5 (T:bG) (E:dS) (G:Nat→cR) (V:aO) (Bd:Nat→Int→Prop) (t:bb) (a:ab):Prop:=bR T.D G (l0 t) a∧∀cn sz e lo hi,t=.own cn sz e lo hi→mK T E G V (Bd e) sz e a
def ahd (e:Nat) (_:Int):Prop:=gJ e=0
abbrev hf (T:bG) (E:dS) (G:Nat→cR) (V:aO) (t:bb) (a:ab):Prop:=D5 T E G V ahd t a
theorem Ys (h:aW T E R G W V) {s:al} {t:bb} {W':aH} (av:BP T W s t=some W'):
  ∃l,W'= {W with live:=l}∧l.Sublist W.live∧hf T E G V t (s.ai R)∧(∀g∈k_ t (s.ai R),(∃p∈W.live,dv (R p.1)=some g)∧∀p∈l,dv (R p.1)≠some g):=by
 by_cases aw:∃cn sz e lo hi,t=.own cn sz e lo hi
 ·obtain⟨cn,sz,e,lo,hi,rfl⟩:=aw;simp only[BP]at av;split at av
  ·obtain⟨a',aa⟩:=eF av;cases aa;have:=b5 a';subst this;refine⟨W.live,rfl,.refl _,⟨?_,fun _ _ _ _ _ _=>.inl rfl⟩,fun g av=>by simp[k_,al.ai,dv]at av⟩
   rw[xZ];cases gr e with
   |true=>exact .m8 _
   |false=>exact .bN _ _ _ _ _ _ (fv _) (fv _) (fun _=>rfl) (fun x ad=>by cases ad)
  ·rename_i v;split at av
   ·rename_i l ak;obtain⟨aw,aa⟩:=eF av;cases aa;obtain⟨aw,a'⟩:=a6 aw;have a':=b5 a';obtain⟨ep,dV,e1,aN⟩:=Hz ak;have hm:(v,sz,e)∈W.live:=by rw[e1];simp
    have p1:=h.aE.live _ hm;refine⟨l,rfl,by rw[e1,aN];exact EH (.refl _) (EI ..),⟨xK h.ok aw,fun t2 agb aN aqw o_ he=>by cases he;exact p1.e6 (fun _ _=>rfl) (fun g av=>(p1.tok av).1) (b1 _) (fun _ _ h=>h) (fun _ _ h=>h) (fun _ _=>a')⟩,fun g av=> ?_⟩
    have av:dv (R v)=some g:=by simpa[k_,kB,al.ai]using av
    refine⟨⟨_,hm,av⟩,fun p ae=> ?_⟩;have aQ:=h.aE.gw;rw[e1]at aQ;rw[aN]at ae;have aQ:=rH.1 aQ;rcases fu.1 ae with ae|ae
    ·intro aB;exact aQ.2.2 p ae (v,sz,e) (cz ..) g aB av
    ·exact(kk.1 aQ.2.1).1 p ae g av
   ·cases av
  ·cases av
 ·have e1:BP T W s t=bif oA T W s t then some W else none:=by
   cases t<;>first|rfl|exact absurd ⟨_,_,_,_,_,rfl⟩ aw
  have aN:l0 t=t:=by cases t<;>first|rfl|exact absurd ⟨_,_,_,_,_,rfl⟩ aw
  have bL:kB t=false:=by cases t<;>first|rfl|exact absurd ⟨_,_,_,_,_,rfl⟩ aw
  rw[e1]at av;obtain⟨U,aa⟩:=eF av;cases aa;exact⟨W.live,rfl,.refl _,⟨by rw[aN];exact xK h.ok U,fun cn sz e lo hi he=>absurd ⟨_,_,_,_,_,he⟩ aw⟩,fun g av=>by simp[k_,bL]at av⟩
theorem uV:∀{ss:List al} {ts:List bb} {W W':aH} (_:aW T E R G W V) (_:k9 T W ss ts=some W'),
  ∃l,W'= {W with live:=l}∧l.Sublist W.live∧ts.length=ss.length∧(∀(j:Nat) (t:bb) (a:ab),ts[j]? =some t→(aM R ss)[j]? =some a→hf T E G V t a)∧(fi ts (aM R ss)).Nodup∧
   ∀g∈fi ts (aM R ss),(∃p∈W.live,dv (R p.1)=some g)∧∀p∈l,dv (R p.1)≠some g
 | [],[],W,W',h,av=>by
  cases av;exact⟨W.live,rfl,.refl _,rfl,fun j t a aw=>by simp at aw,by simp[fi],fun g av=>by simp[fi]at av⟩
 | [],_::_,W,W',h,av=>by cases av
 |_::_,[],W,W',h,av=>by cases av
 |s::ss,t::ts,W,W',h,av=>by
  simp only[k9]at av;split at av
  ·rename_i W1 U;obtain⟨ep,rfl,ao,aX,bD⟩:=Ys h U;obtain⟨dV,bd,bx,bT,dp,g9,vr⟩:=uV (h.vo ao) av;refine⟨dV,bd,bx.trans ao,by simp[bT],fun j cn a aw aA=> ?_,?_,fun g av=> ?_⟩
   ·cases j with
    |zero=>
     simp only[l5,bk]at aw;simp only[aM,l5,bk]at aA;subst aw;subst aA;exact aX
    |succ j=>exact dp j cn a (by simpa using aw) (by simpa[aM]using aA)
   ·simp only[aM,fi];refine EF.2 ⟨?_,g9,fun x ad y aI Ro=> ?_⟩
    ·unfold k_;split
     ·cases dv (s.ai R)<;>simp
     ·simp
    ·subst Ro;obtain⟨p,ae,mq⟩:=(vr x aI).1;exact(bD x ad).2 p ae mq
   ·simp only[aM,fi]at av;rcases fu.1 av with av|av
    ·obtain⟨bg,bl⟩:=bD g av;exact⟨bg,fun p ae=>bl p (bx.subset ae)⟩
    ·obtain⟨⟨p,ae,mq⟩,bl⟩:=vr g av;exact⟨⟨p,ao.subset ae,mq⟩,bl⟩
  ·cases av
def jw (i:Nat):Nat→List bb→List ab→(Nat→cR)→Nat→cR
 |o,t::ts,a::as,G=>if kB t=true then(match dv a with
   |some g=>fun x=>if x=g then .tok i o else jw i (o+1) ts as G x
   |none=>jw i (o+1) ts as G)else jw i (o+1) ts as G
 |_,_,_,G=>G
theorem ME {i:Nat}:∀{ts:List bb} {as:List ab} {o g:Nat},g∉fi ts as→jw i o ts as G g=G g
 | [],as,o,g,_=>by cases as<;>rfl
 |t::ts,[],o,g,_=>rfl
 |t::ts,a::as,o,g,h=>by
  have aa:g∉fi ts as:=fun hm=>h (nh _ hm);have bm:=ME (i:=i) (o:=o+1) aa;unfold jw;by_cases aw:kB t=true
  ·rw[if_pos aw];cases aq:dv a with
   |none=>exact bm
   |some eH=>
    have cm:g≠eH:=by
     intro he;subst he;exact h (oS _ (by simp[k_,aw,aq]))
    simp only;rw[if_neg cm];exact bm
  ·rw[if_neg aw];exact bm
theorem KW:∀{ts:List bb} {as:List ab} {j g:Nat} {t:bb} {a:ab},ts[j]? =some t→as[j]? =some a→kB t=true→dv a=some g→g∈fi ts as
 | [],as,j,g,t,a,aw,_,_,_=>by simp at aw
 |_::_,[],j,g,t,a,_,aA,_,_=>by simp at aA
 |t1::ts,b3::as,0,g,t,a,aw,aA,ay,av=>by
  simp only[l5,bk]at aw aA;subst aw;subst aA;exact oS _ (by simp[k_,ay,av])
 |t1::ts,b3::as,j+1,g,t,a,aw,aA,ay,av=>nh _ (KW (j:=j) (by simpa using aw) (by simpa using aA) ay av)
theorem U_ {i:Nat}:∀{ts:List bb} {as:List ab} {o j g:Nat} {t:bb} {a:ab},(fi ts as).Nodup→ts[j]? =some t→as[j]? =some a→kB t=true→dv a=some g→jw i o ts as G g=.tok i (o+j)
 | [],as,o,j,g,t,a,_,aw,_,_,_=>by simp at aw
 |_::_,[],o,j,g,t,a,_,_,aA,_,_=>by simp at aA
 |t0::ts,a0::as,o,j,g,t,a,aK,aw,aA,ay,av=>by
  have aK:=EF.1 aK;cases j with
  |zero=>
   simp only[l5,bk]at aw aA;subst aw;subst aA;unfold jw;rw[if_pos ay,av];simp
  |succ j=>
   have aw:ts[j]? =some t:=by simpa using aw
   have aA:as[j]? =some a:=by simpa using aA
   have bm:=U_ (i:=i) (o:=o+1) aK.2.1 aw aA ay av;have fW:=KW aw aA ay av;unfold jw;by_cases aV:kB t0=true
   ·rw[if_pos aV];cases aq:dv a0 with
    |none=>simp only;rw[bm];congr 1;omega
    |some eH=>
     have cm:g≠eH:=by
      intro he;subst he;exact aK.2.2 g (by simp[k_,aV,aq]) g fW rfl
     simp only;rw[if_neg cm,bm];congr 1;omega
   ·rw[if_neg aV,bm];congr 1;omega
structure ahv (E:dS) (G:Nat→cR) (V:aO) (L:List Nat):Prop where
 no:∀g∈L,G g=.no
 cF:∀g∈L,(∃n z w,V.at g=.cF n z w)∨∃z cs,V.at g=.row z cs
 new:∀g∈L,E.V.n≤g∨E.eT g
 lt:∀g∈L,g<V.n
theorem HJ {Bd:Nat→Int→Prop} {ts:List bb} {as:List ab} (h:∀(j:Nat) (t:bb) (a:ab),ts[j]? =some t→as[j]? =some a→D5 T E G V Bd t a):ahv E G V (fi ts as):=by
 have key:∀g∈fi ts as,∃a sz e,mK T E G V (Bd e) sz e a∧dv a=some g:=by
  intro g av
  induction ts generalizing as with
  |nil=>cases as<;>simp[fi]at av
  |cons t ts bm=>
   cases as with
   |nil=>simp[fi]at av
   |cons a as=>
    simp only[fi]at av;rcases fu.1 av with aB|aB
    ·have aV:=h 0 t a rfl rfl;by_cases ay:kB t=true
     ·have aq:dv a=some g:=by simpa[k_,ay]using aB
      cases t<;>simp only[kB,lK]at ay;exact⟨a,_,_,aV.2 _ _ _ _ _ rfl,aq⟩
     ·simp[k_,ay]at aB
    ·exact bm (fun j t a aw aA=>h (j+1) t a (by simpa using aw) (by simpa using aA)) aB
 have ao:∀g∈fi ts as,G g=.no∧(E.V.n≤g∨E.eT g)∧g<V.n∧((∃n z w,V.at g=.cF n z w)∨∃z cs,V.at g=.row z cs):=by
  intro g av;obtain⟨a,sz,e,U,aa⟩:=key g av;exact U.tok aa
 exact⟨fun g av=>(ao g av).1,fun g av=>(ao g av).2.2.2,fun g av=>(ao g av).2.1,fun g av=>(ao g av).2.2.1⟩
theorem agG {i o:Nat} {ts:List bb} {as:List ab} (aK:∀g∈fi ts as,G g=.no) (x c:Nat):jw i o ts as G x=.cls c↔G x=.cls c:=by
 by_cases ad:x∈fi ts as
 ·have U:∀{ts:List bb} {as:List ab} {o:Nat},x∈fi ts as→∃j,jw i o ts as G x=.tok i j:=by
   intro ts
   induction ts with
   |nil=>intro as o h;cases as<;>simp[fi]at h
   |cons t ts bm=>
    intro as o h;cases as with
    |nil=>simp[fi]at h
    |cons a as=>
     unfold jw;by_cases aw:kB t=true
     ·rw[if_pos aw];cases aq:dv a with
      |none=>
       simp only[fi,k_,aw,aq,if_true,Option.toList,EB]at h;exact bm h
      |some g=>
       simp only;by_cases mX:x=g
       ·rw[if_pos mX];exact⟨_,rfl⟩
       ·rw[if_neg mX];simp only[fi,k_,aw,aq,if_true,Option.toList,Bg,EB,cu,mX,false_or]at h;exact bm h
     ·rw[if_neg aw];simp only[fi,k_,aw,if_false,EB]at h;exact bm h
  obtain⟨j,aU⟩:=U (o:=o) ad;rw[aU,aK x ad];exact⟨fun h=>(by cases h),fun h=>(by cases h)⟩
 ·rw[ME ad]
theorem HI {i:Nat}:∀{ts:List bb} {as:List ab} {o x a b:Nat},jw i o ts as G x=.tok a b→a=i∨G x=.tok a b
 | [],as,o,x,a,b,h=>.inr (by cases as<;>exact h)
 |t::ts,[],o,x,a,b,h=>.inr h
 |t::ts,v::as,o,x,a,b,h=>by
  unfold jw at h;by_cases aw:kB t=true
  ·rw[if_pos aw]at h;cases aq:dv v with
   |none=>rw[aq]at h;exact HI h
   |some g=>
    rw[aq]at h;simp only at h;by_cases ad:x=g
    ·rw[if_pos ad]at h;injection h with U _;exact .inl U.symm
    ·rw[if_neg ad]at h;exact HI h
  ·rw[if_neg aw]at h;exact HI h
theorem Ok.mono (h:Ok T G R W) (av:∀i c,G i=.cls c→G' i=.cls c):Ok T G' R W:=⟨fun v=>(h.ty v).mono av,h.top,h.ge,h.da,h.cC,h.b2⟩
end Go.bO.cK
end
section
namespace Go.bO.cK
variable {dm:Bool} {T:bG} [e8 T] {E:dS} {R aL:cj} {G G':Nat→cR} {W:aH} {V:aO} {se:bE} {env:aP}
theorem rB (aC:gj E) (h:aW T E R G W V) {i:Nat} (hi:E.V.n≤i∨E.eT i):Nat.ble V.g i=true:=by
 rw[fT,h.aE.g];refine decide_eq_true ?_;rcases hi with hi|hi
 ·exact fp aC.g hi
 ·exact aC.MC i hi
theorem adE:∀{vs cs:List ab} {j:Nat},vs.length≤cs.length→(re vs cs)[j]? =if j<vs.length then vs[j]? else cs[j]?
 | [],cs,j,_=>by simp[re]
 |v::vs,[],j,h=>by simp at h
 |v::vs,c::cs,0,h=>rfl
 |v::vs,c::cs,j+1,h=>by
  show(re vs cs)[j]? =_;rw[adE (by simpa using h)]
  simp
theorem vH {o:Nat} {vs:List ab}:∀{cs:List ab} {j:Nat},o+vs.length≤cs.length→(gi o vs cs)[j]? =if o≤j∧j<o+vs.length then vs[j-o]? else cs[j]? :=by
 induction o with
 |zero=>
  intro cs j h;show(re vs cs)[j]? =_;rw[adE (by omega)]
  simp
 |succ o bm=>
  intro cs j h;cases cs with
  |nil=>simp at h
  |cons c cs=>
   cases j with
   |zero=>simp[gi]
   |succ j=>
    show(gi o vs cs)[j]? =_;rw[bm (by simp at h;omega)]
    by_cases aU:o≤j∧j<o+vs.length
    ·rw[if_pos aU,if_pos (by omega)];congr 1;omega
    ·rw[if_neg aU,if_neg (by omega)];simp
theorem adF:∀{vs cs:List ab},vs.length≤cs.length→(re vs cs).length=cs.length
 | [],cs,_=>rfl
 |v::vs,[],h=>by simp at h
 |v::vs,c::cs,h=>by
  show(re vs cs).length+1=_;rw[adF (by simpa using h)];rfl
theorem Ds {o:Nat} {vs:List ab}:∀{cs:List ab},o+vs.length≤cs.length→(gi o vs cs).length=cs.length:=by
 induction o with
 |zero=>intro cs h;exact adF (by omega)
 |succ o bm=>
  intro cs h;cases cs with
  |nil=>simp at h
  |cons c cs=>
   show(gi o vs cs).length+1=_;rw[bm (by simp at h;omega)];rfl
theorem zY {v:Nat}:∀{l:List al} {o:Nat} {p:Nat × Nat × al},p∈newObj.q' v o l→∃k s,l[k]? =some s∧p=(v,o+k,s)
 | [],o,p,h=>by cases h
 |s::l,o,p,h=>by
  simp only[newObj.q']at h;rcases cu.1 h with rfl|h
  ·exact⟨0,s,rfl,rfl⟩
  ·obtain⟨k,t,U,aa⟩:=zY h;exact⟨k+1,t,by simpa using U,by rw[aa];congr 2;show o+1+k=o+(k+1);omega⟩
theorem mj {l:List al} {j:Nat} {s:al} (h:l[j]? =some s):(aM R l)[j]? =some (s.ai R):=by rw[hO,ic,h];rfl
theorem af6 (h:aW T E R G W V) {v c i o:Nat} {l:List al} {ts tl:List bb} {cs:List ab} {lv:List (Nat × Nat × Nat)} (ar:v<W.aD) (jI:cls W.aD l=true)
  (hi:R v=.ptr i 0) (av:G i=.cls c) (aq:T.K c=.obj ts) (bM:V.at i=.obj cs) (hw:E.V.n≤i∨E.eT i)
  (oq:∀(j:Nat),j<l.length→tl[j]? =ts[o+j]?) (sd:tl.length=l.length) (bz:o+l.length≤cs.length)
  {Bd:Nat→Int→Prop} (fq:lv.Sublist W.live) (nx:∀(j:Nat) (t:bb) (a:ab),tl[j]? =some t→(aM R l)[j]? =some a→D5 T E G V Bd t a) (amf:∀e x,Bd e x→qw (V.put i (.obj (gi o (aM R l) cs))) i e x)
  (j2:∀cn sz e lo hi k d eh,.own cn sz e lo hi∈ts→gJ e=k+1→cs[k]? =some d→(gi o (aM R l) cs)[k]? =some eh→intOf d≤intOf eh) (j3:(fi tl (aM R l)).Nodup)
  (u1:∀g∈fi tl (aM R l),∀p∈lv,dv (R p.1)≠some g) (eX:T.kept c=true→∃p∈W.op,R p.1=.ptr i 0):
  aW T E R (jw i o tl (aM R l) G) {W with live:=lv,cells:=newObj.q' v o l++E3 W v c o l.length W.cells,cA:=MJ v o l.length W.cA,rd:=none} (V.put i (.obj (gi o (aM R l) cs))):=by
 have fG:=HJ nx;have jm:=fun x c=>agG (i:=i) (o:=o) (G:=G) (ts:=tl) (as:=aM R l) fG.no x c;have oj:∀x,x∉fi tl (aM R l)→jw i o tl (aM R l) G x=G x:=fun x ad=>ME ad;have fX:∀x c,G x=.cls c→jw i o tl (aM R l) G x=.cls c:=fun x c ad=>(jm x c).2 ad;have ga:∀x,x≠i→(V.put i (.obj (gi o (aM R l) cs))).at x=V.at x:=fun x ad=>by rw[fS,if_neg (fun e=>ad e.symm)]
 have mT:(V.put i (.obj (gi o (aM R l) cs))).at i=.obj (gi o (aM R l) cs):=by rw[fS,if_pos rfl]
 have hP:(aM R l).length=l.length:=hp R l;have u5:o+(aM R l).length≤cs.length:=by rw[hP];exact bz
 have j5:∀g,((∃n z w,V.at g=.cF n z w)∨∃z cs,V.at g=.row z cs)→g≠i:=fun g d_ he=>by subst he;rw[bM]at d_;rcases d_ with⟨_,_,_,d_⟩|⟨_,_,d_⟩<;>cases d_
 have iH:∀g∈fi tl (aM R l),g<E.V.n→E.eT g:=fun g av bw=>(fG.new g av).elim (fun d_=>by omega) id
 have PU:∀x e b,(∀k d eh,x=i→gJ e=k+1→cs[k]? =some d→(gi o (aM R l) cs)[k]? =some eh→intOf d≤intOf eh)→qw V x e b→qw (V.put i (.obj (gi o (aM R l) cs))) x e b:=by
  intro x e b hm aj;by_cases ad:x=i
  ·subst ad;intro k e2 eh aq gd hh;rw[mT]at gd;injection gd with gd;subst gd;have FK:k<cs.length:=by rw[←Ds u5];exact(hn.1 hh).1
   have U:=aj k cs cs[k] aq bM (eU FK);exact np U (hm k _ eh rfl aq (eU FK) hh)
  ·exact s' (ga x ad) aj
 have g6:∀{sz e x j a},(∀k d eh,x=i→gJ e=k+1→cs[k]? =some d→(gi o (aM R l) cs)[k]? =some eh→intOf d≤intOf eh)→ki T G V sz e x j a→ki T (jw i o tl (aM R l) G) (V.put i (.obj (gi o (aM R l) cs))) sz e x j a:=by
  intro sz e x j a hm ay;exact ay.e6 (fun g av=>ga g (j5 g (ay.tok av).2.2)) (fun g av=>by rw[oj g (fun hm=>by have:=(ay.tok av).1;rw[fG.no g hm]at this;cases this)];exact(ay.tok av).1) (b1 _) (fun _ _ h=>h.mono fX) (fun b=>PU x e b hm)
 have JF:∀x j,¬l4 R (MJ v o l.length W.cA) x j→(x=i∧o≤j∧j<o+l.length)∨¬l4 R W.cA x j:=by
  intro x j aK;by_cases iH:x=i∧o≤j∧j<o+l.length
  ·exact .inl iH
  ·refine .inr fun⟨p,ae,U,aa⟩=>aK ⟨p,ma.2 ⟨ae,?_⟩,U,aa⟩;simp only[Bh,OU];by_cases Zm:p.1=v
   ·have hj:x=i:=by rw[Zm,hi]at U;injection U with U;exact U.symm
    refine .inr ?_;have:¬(o≤p.2∧p.2<o+l.length):=by rw[aa];exact fun aF=>iH ⟨hj,aF⟩
    rw[fT,kK];by_cases au:o≤p.2
    ·refine .inr (decide_eq_false ?_);show¬p.2<o+l.length;omega
    ·exact .inl (decide_eq_false au)
   ·refine .inl ?_;rw[gY];exact decide_eq_false Zm
 refine⟨⟨(h.ok.mono fX).ty,h.ok.top,h.ok.ge,h.ok.da,h.ok.cC,h.ok.b2⟩,⟨h.aT.ge,h.aT.da,h.aT.cC,fun p ae=> ?_,fun p ae=>h.aT.live p (fq.subset ae),fun p ae=>h.aT.cA p (ma.1 ae).1,h.aT.wr,h.aT.b2,h.aT.op,h.aT.lt,fun p ae=>h.aT.gz p (fq.subset ae),fun p ae=>by cases ae⟩,?_⟩
 ·rcases fu.1 ae with ae|ae
  ·obtain⟨k,s,U,rfl⟩:=zY ae;exact⟨ar,lP U jI⟩
  ·exact h.aT.cells p (ma.1 ae).1
 ·refine⟨fun x bF ad=> ?_,fun p ae=> ?_,fun p ae=> ?_,h.aE.gw.sublist fq,h.aE.wr,h.aE.M,fun x ad=> ?_,h.aE.n,h.aE.g,fun x ad eQ=> ?_,fun x ad bF=> ?_,fun g bw a b e_=> ?_,fun g a b e_=>(HI e_).elim (fun e=>by rw[e];exact(h.aE.wf i c av).1) (h.aE.fQ g a b),⟨fun p ae=>let⟨x,bF,U,aa⟩:=h.aE.hi.own p ae;⟨x,bF,U,fX x bF aa⟩,fun x bF cU ad ek gb=> ?_⟩,fun p ae=> ?_,fun p ae=>by cases ae⟩
  ·
   have iq:=(jm x bF).1 ad;obtain⟨az,ao⟩:=h.aE.wf x bF iq;refine⟨az,fun eP=> ?_⟩;have ao:=ao eP;by_cases hj:x=i
   ·subst hj;rw[av]at iq;injection iq with lf;subst lf;rw[aq]at ao⊢;obtain⟨cU,e1,aN,bL⟩:=ao;rw[bM]at e1;injection e1 with e1;subst e1;refine⟨_,mT,by rw[Ds u5];exact aN,fun j t a aw aA=> ?_⟩
    rw[vH u5,hP]at aA;by_cases aU:o≤j∧j<o+l.length
    ·rw[if_pos aU]at aA;have F4:tl[j-o]? =some t:=by
      rw[oq (j-o) (by omega),show o+(j-o)=j by omega];exact aw
     obtain⟨bu,bC⟩:=nx (j-o) t a F4 aA;refine⟨bu.mono fX,fun cn sz e lo hi he _=> ?_⟩;have o':=bC cn sz e lo hi he;have BW:∀g,dv a=some g→(V.put x (.obj (gi o (aM R l) cs))).at g=V.at g:=fun g av=>ga g (j5 g (o'.tok av).2.2.2);have Yy:∀g,dv a=some g→jw x o tl (aM R l) G g=.tok x j:=fun g av=>by rw[U_ j3 F4 aA (by rw[he];rfl) av];congr 1;omega
     rcases o' with rfl|⟨m4,xs,nl,g,rfl,bd,bx,bT,dp⟩|⟨m4,g,n,rfl,bd,bx,bT,dp⟩
     ·exact .inl rfl
     ·exact .inr (.inl ⟨m4,xs,nl,g,rfl,by rw[BW g rfl];exact bd,Yy g rfl,dp⟩)
     ·exact .inr (.inr ⟨m4,g,n,rfl,bd.e6 (BW g rfl) (fun _ _ h=>h.mono fX) (amf e),Yy g rfl,dp⟩)
    ·rw[if_neg aU]at aA;obtain⟨bu,bC⟩:=bL j t a aw aA;refine⟨bu.mono fX,fun cn sz e lo hi he aK=>g6 (fun k d eh _ sb aQ hh=>j2 cn sz e lo hi k d eh (by rw[←he];exact lM aw) sb aQ hh) (bC cn sz e lo hi he ?_)⟩
     rcases JF x j aK with aF|aF
     ·exact absurd aF.2 aU
     ·exact aF
   ·cases dU:T.K bF with
    |none=>rw[dU]at ao;exact ao.elim
    |row z k n=>
     rw[dU]at ao;obtain⟨e2,bd,bx,bT⟩:=ao;exact⟨e2,by rw[ga x hj];exact bd,bx,fun j t a aw aA=>(bT j t a aw aA).mono fX⟩
    |map a7 t cH=>
     rw[dU]at ao;obtain⟨ko,es,bd,bx,bT⟩:=ao;exact⟨ko,es,by rw[ga x hj];exact bd,bx,fun e he=>⟨(bT e he).1.mono fX,(bT e he).2.mono fX⟩⟩
    |obj ud=>
     rw[dU]at ao;obtain⟨cU,e1,aN,bL⟩:=ao;refine⟨cU,by rw[ga x hj];exact e1,aN,fun j t a aw aA=> ?_⟩
     obtain⟨bu,bC⟩:=bL j t a aw aA;refine⟨bu.mono fX,fun cn sz e lo hi he aK=>g6 (fun _ _ _ vf=>absurd vf hj) (bC cn sz e lo hi he ?_)⟩;rcases JF x j aK with aF|aF
     ·exact absurd aF.1 hj
     ·exact aF
  ·rcases fu.1 ae with ae|ae
   ·obtain⟨k,s,U,rfl⟩:=zY ae;have avR:k<l.length:=(hn.1 U).1;refine⟨i,_,c,hi,mT,?_,fX i c av⟩;rw[vH u5,hP,if_pos (by simp only;omega)]
    simp only[Nat.add_sub_cancel_left];exact mj U
   ·obtain⟨pb,pc⟩:=ma.1 ae;obtain⟨x,cU,bF,az,ao,aX,bD⟩:=h.aE.cells p pb;by_cases hj:x=i
    ·subst hj;rw[bM]at ao;injection ao with ao;subst ao;refine⟨x,_,c,az,mT,?_,fX x c av⟩;have oo:¬(o≤p.2.1∧p.2.1<o+l.length):=by
      intro aF;have U:(Nat.ble o p.2.1&&Nat.blt p.2.1 (Nat.add o l.length))=true:=by
       rw[fT,kK,decide_eq_true aF.1];show decide (p.2.1<o+l.length)=true;exact decide_eq_true aF.2
      rw[U]at pc;simp only[wE,Bh,Bool.or_eq_false_iff]at pc;have cY:=h.ok.ty p.1;have au:=pc.2;split at au
      ·rename_i c2 n aw;rw[aw,az]at cY;cases cY with
       |ptr _ _ _ oc=>
        rw[av]at oc;injection oc with oc;subst oc;simp at au
      ·cases au
     rw[vH u5,hP,if_neg oo];exact aX
    ·exact⟨x,cU,bF,az,by rw[ga x hj];exact ao,aX,fX x bF bD⟩
  ·have c0:=fq.subset ae;have ak:=h.aE.live p c0;exact ak.e6 (fun g av=>ga g (j5 g (ak.tok av).2.2.2)) (fun g av=>by rw[oj g (fun hm=>u1 g hm p ae av)];exact(ak.tok av).1) (b1 _) (fun _ _ h=>h) (fun _ _ h=>h.mono fX) (fun _ h=>h)
  ·have ad:V.n≤x:=ad;rw[oj x (fun hm=>by have:=fG.lt x hm;omega)]
   exact h.aE.out x ad
  ·obtain⟨az,ao⟩:=h.aE.f' x ad eQ;have hj:x≠i:=fun e=>by subst e;exact hw.elim (fun hw=>by omega) eQ
   exact⟨by rw[ga x hj];exact az,by rw[oj x (fun hm=>eQ (iH x hm ad))];exact ao⟩
  ·rw[jm x bF];exact h.aE.cls x ad bF
  ·by_cases hm:g∈fi tl (aM R l)
   ·exact .inr (iH g hm bw)
   ·rw[oj g hm]at e_;exact h.aE.tok g bw a b e_
  ·have iq:=(jm x bF).1 ad;by_cases hj:x=i
   ·subst hj;rw[av]at iq;cases iq;obtain⟨p,ae,he⟩:=eX ek;exact⟨fun aK=>absurd he (aK p ae),(h.aE.hi.ok x c cs av ek bM).2⟩
   ·rw[ga x hj]at gb;exact h.aE.hi.ok x bF cU iq ek gb
  ·refine(h.aE.lt p ae).e6 ⟨rfl,rfl,fun _ _=>⟨rfl,rfl⟩⟩ (b1 _) (fun x _ ad=>ga x fun e=> ?_) fX (fun x _ ad gf=> ?_) (fun _ _ h=>h.mono fX)
   ·rw[e,bM]at ad;rcases ad with ad|⟨_,_,_,_,_,ad⟩|ad<;>cases ad
   ·rw[oj x fun hm=> ?_];exact gf;rcases fG.cF x hm with⟨n,z,w,eX⟩|⟨z,w,eX⟩<;>rw[eX]at ad<;>rcases ad with ad|⟨_,_,_,_,_,ad⟩|ad<;>cases ad
theorem apJ (h:aW T E R G W V) {v c i o:Nat} {s:al} {ts:List bb} {cs:List ab} {t0:bb} {rn cE od:Nat} {a0:ab} (ar:v<W.aD) (gy:s.bh W.aD=true)
  (hi:R v=.ptr i 0) (av:G i=.cls c) (aq:T.K c=.obj ts) (bM:V.at i=.obj cs) (hw:E.V.n≤i∨E.eT i)
  (vc:ts[o]? =some (.own t0 rn cE 0 od)) (fY:gr cE=true) (tC:cs[o]? =some a0) (an5:s.ai R=a0∨gQ 10 [s.ai R,a0])
  (j2:∀cn sz e lo hi k d eh,.own cn sz e lo hi∈ts→gJ e=k+1→cs[k]? =some d→(gi o (aM R [s]) cs)[k]? =some eh→intOf d≤intOf eh) (eX:T.kept c=true→∃p∈W.op,R p.1=.ptr i 0):
  aW T E R G {W with cells:=newObj.q' v o [s]++E3 W v c o 1 W.cells,rd:=none} (V.put i (.obj (gi o (aM R [s]) cs))):=by
 have bw:o<cs.length:=(hn.1 tC).1;have u5:o+(aM R [s]).length≤cs.length:=bw;have ga:∀x,x≠i→(V.put i (.obj (gi o (aM R [s]) cs))).at x=V.at x:=fun x ad=>by rw[fS,if_neg (fun e=>ad e.symm)]
 have mT:(V.put i (.obj (gi o (aM R [s]) cs))).at i=.obj (gi o (aM R [s]) cs):=by rw[fS,if_pos rfl]
 have j5:∀g,((∃n z w,V.at g=.cF n z w)∨∃z cs,V.at g=.row z cs)→g≠i:=fun g d_ he=>by subst he;rw[bM]at d_;rcases d_ with⟨_,_,_,d_⟩|⟨_,_,d_⟩<;>cases d_
 have fV:∀j,(gi o (aM R [s]) cs)[j]? =if j=o then some (s.ai R)else cs[j]? :=fun j=>by
  rw[vH u5];by_cases aU:j=o
  ·subst aU;rw[if_pos ⟨b1 _,gT _⟩,if_pos rfl,ID];rfl
  ·rw[if_neg aU,if_neg (by show¬(o≤j∧j<o+1);omega)]
 have PU:∀x e b,(∀k d eh,x=i→gJ e=k+1→cs[k]? =some d→(gi o (aM R [s]) cs)[k]? =some eh→intOf d≤intOf eh)→qw V x e b→qw (V.put i (.obj (gi o (aM R [s]) cs))) x e b:=by
  intro x e b hm aj;by_cases ad:x=i
  ·subst ad;intro k e2 eh aq gd hh;rw[mT]at gd;injection gd with gd;subst gd;have FK:k<cs.length:=by rw[←Ds u5];exact(hn.1 hh).1
   have U:=aj k cs cs[k] aq bM (eU FK);exact np U (hm k _ eh rfl aq (eU FK) hh)
  ·exact s' (ga x ad) aj
 have g6:∀{sz e x j a},(∀k d eh,x=i→gJ e=k+1→cs[k]? =some d→(gi o (aM R [s]) cs)[k]? =some eh→intOf d≤intOf eh)→ki T G V sz e x j a→ki T G (V.put i (.obj (gi o (aM R [s]) cs))) sz e x j a:=by
  intro sz e x j a hm ay;exact ay.e6 (fun g av=>ga g (j5 g (ay.tok av).2.2)) (fun g av=>(ay.tok av).1) (b1 _) (fun _ _ h=>h) (fun b=>PU x e b hm)
 refine⟨⟨h.ok.ty,h.ok.top,h.ok.ge,h.ok.da,h.ok.cC,h.ok.b2⟩,⟨h.aT.ge,h.aT.da,h.aT.cC,fun p ae=> ?_,h.aT.live,h.aT.cA,h.aT.wr,h.aT.b2,h.aT.op,h.aT.lt,h.aT.gz,fun p ae=>by cases ae⟩,?_⟩
 ·rcases fu.1 ae with ae|ae
  ·obtain⟨k,dy,U,rfl⟩:=zY ae;exact⟨ar,lP (l:=[s]) U (by simp[cls,gy])⟩
  ·exact h.aT.cells p (ma.1 ae).1
 ·refine⟨fun x bF ad=> ?_,fun p ae=> ?_,fun p ae=> ?_,h.aE.gw,h.aE.wr,h.aE.M,h.aE.out,h.aE.n,h.aE.g,fun x ad eQ=> ?_,h.aE.cls,h.aE.tok,h.aE.fQ,⟨h.aE.hi.own,fun x bF cU ad ek gb=> ?_⟩,fun p ae=> ?_,fun p ae=>by cases ae⟩
  ·obtain⟨az,ao⟩:=h.aE.wf x bF ad;refine⟨az,fun eP=> ?_⟩;have ao:=ao eP;by_cases hj:x=i
   ·subst hj;rw[av]at ad;injection ad with lf;subst lf;rw[aq]at ao⊢;obtain⟨cU,e1,aN,bL⟩:=ao;rw[bM]at e1;injection e1 with e1;subst e1;refine⟨_,mT,by rw[Ds u5];exact aN,fun j t a aw aA=> ?_⟩
    rw[fV]at aA;by_cases aU:j=o
    ·subst aU;rw[if_pos rfl]at aA;cases aA;rw[vc]at aw;cases aw;obtain⟨bu,bC⟩:=bL j _ a0 vc tC;rw[xZ,fY]at bu;have Fz:s.ai R=a0∨(s.ai R=.slice [] true none)∨∃g n m,m≤n∧s.ai R=.ref g 0 m 1∧a0=.ref g 0 n 1:=by
      rcases an5 with ae|ae
      ·exact .inl ae
      ·generalize s.ai R=x at ae;cases ae with
       |aem=>exact .inl rfl
       |pre g n m nA=>exact .inr (.inr ⟨g,n,m,nA,rfl,rfl⟩)
     refine⟨?_,fun cn sz e lo hi he aK=> ?_⟩
     ·rw[xZ,fY];rcases Fz with af|af|⟨g,n,m,nA,af,iE⟩
      ·rw[af];exact bu
      ·rw[af];exact .m8 _
      ·rw[af];rw[iE]at bu;cases bu with
       |rv _ _ _ _ bg bl=>exact .rv _ _ g m (fv _) (fp nA bl)
     ·have ay:=g6 (fun k d eh _ sb aQ hh=>j2 cn sz e lo hi k d eh (by rw[←he];exact lM vc) sb aQ hh) (bC cn sz e lo hi he aK)
      rcases Fz with af|af|⟨g,n,m,nA,af,iE⟩
      ·rw[af];exact ay
      ·rw[af];exact .inl rfl
      ·rw[af];rw[iE]at ay;rcases ay with ay|⟨hH,xs,nl,eH,ay,_⟩|⟨hH,eH,gI,ay,⟨e2,bg,bl,bS⟩,cP,eC⟩
       ·cases ay
       ·cases ay
       ·cases ay;exact .inr (.inr ⟨hH,g,m,rfl,⟨e2,bg,fp (l_ _ nA) bl,bS⟩,cP,eC⟩)
    ·rw[if_neg aU]at aA;obtain⟨bu,bC⟩:=bL j t a aw aA;exact⟨bu,fun cn sz e lo hi he aK=>g6 (fun k d eh _ sb aQ hh=>j2 cn sz e lo hi k d eh (by rw[←he];exact lM aw) sb aQ hh) (bC cn sz e lo hi he aK)⟩
   ·cases dU:T.K bF with
    |none=>rw[dU]at ao;exact ao.elim
    |row z k n=>
     rw[dU]at ao;obtain⟨e2,bd,bx,bT⟩:=ao;exact⟨e2,by rw[ga x hj];exact bd,bx,bT⟩
    |map a7 t cH=>
     rw[dU]at ao;obtain⟨ko,es,bd,bx,bT⟩:=ao;exact⟨ko,es,by rw[ga x hj];exact bd,bx,bT⟩
    |obj ud=>
     rw[dU]at ao;obtain⟨cU,e1,aN,bL⟩:=ao;refine⟨cU,by rw[ga x hj];exact e1,aN,fun j t a aw aA=> ?_⟩
     obtain⟨bu,bC⟩:=bL j t a aw aA;exact⟨bu,fun cn sz e lo hi he aK=>g6 (fun _ _ _ vf=>absurd vf hj) (bC cn sz e lo hi he aK)⟩
  ·rcases fu.1 ae with ae|ae
   ·obtain⟨k,dy,U,rfl⟩:=zY ae;have j1:k=0:=by
     have:=(hn.1 U).1;simp at this;omega
    subst j1;cases U;exact⟨i,_,c,hi,mT,by rw[fV];exact if_pos rfl,av⟩
   ·obtain⟨pb,pc⟩:=ma.1 ae;obtain⟨x,cU,bF,az,ao,aX,bD⟩:=h.aE.cells p pb;by_cases hj:x=i
    ·subst hj;rw[bM]at ao;injection ao with ao;subst ao;refine⟨x,_,c,az,mT,?_,av⟩;have oo:p.2.1≠o:=by
      intro aF;have U:(Nat.ble o p.2.1&&Nat.blt p.2.1 (Nat.add o 1))=true:=by
       rw[fT,kK,decide_eq_true (by omega)]
       show decide (p.2.1<o+1)=true;exact decide_eq_true (by omega)
      rw[U]at pc;simp only[wE,Bh,Bool.or_eq_false_iff]at pc;have cY:=h.ok.ty p.1;have au:=pc.2;split at au
      ·rename_i c2 n aw;rw[aw,az]at cY;cases cY with
       |ptr _ _ _ oc=>
        rw[av]at oc;injection oc with oc;subst oc;simp at au
      ·cases au
     rw[fV,if_neg oo];exact aX
    ·exact⟨x,cU,bF,az,by rw[ga x hj];exact ao,aX,bD⟩
  ·have ak:=h.aE.live p ae;exact ak.e6 (fun g av=>ga g (j5 g (ak.tok av).2.2.2)) (fun g av=>(ak.tok av).1) (b1 _) (fun _ _ h=>h) (fun _ _ h=>h) (fun _ h=>h)
  ·obtain⟨az,ao⟩:=h.aE.f' x ad eQ;have hj:x≠i:=fun e=>by subst e;exact hw.elim (fun hw=>by omega) eQ
   exact⟨by rw[ga x hj];exact az,ao⟩
  ·by_cases hj:x=i
   ·subst hj;rw[av]at ad;cases ad;obtain⟨p,ae,he⟩:=eX ek;exact⟨fun aK=>absurd he (aK p ae),(h.aE.hi.ok x c cs av ek bM).2⟩
   ·rw[ga x hj]at gb;exact h.aE.hi.ok x bF cU ad ek gb
  ·refine(h.aE.lt p ae).e6 ⟨rfl,rfl,fun _ _=>⟨rfl,rfl⟩⟩ (b1 _) (fun x _ ad=>ga x fun e=> ?_) (fun _ _ h=>h) (fun x _ ad gf=>gf) (fun _ _ h=>h);rw[e,bM]at ad;rcases ad with ad|⟨_,_,_,_,_,ad⟩|ad<;>cases ad
theorem XD {β:Type} {o:Nat}:∀{l r:List β},pS o l=some r→l.length=o+r.length:=by
 induction o with
 |zero=>intro l r h;cases h;simp
 |succ o bm=>
  intro l r h;cases l with
  |nil=>cases h
  |cons a l=>have:=bm (l:=l) h;simp;omega
theorem UR {β:Type}:∀{n:Nat} {l r:List β},ru n l=some r→r.length=n∧∀j,j<n→r[j]? =l[j]?
 |0,l,r,h=>by cases h;exact⟨rfl,fun j aU=>by omega⟩
 |n+1,[],r,h=>by cases h
 |n+1,a::l,r,h=>by
  simp only[ru]at h;split at h
  ·rename_i q aB;cases h;obtain⟨U,aa⟩:=UR aB;refine⟨by simp[U],fun j aU=> ?_⟩
   cases j with
   |zero=>rfl
   |succ j=>simp only[nV];exact aa j (by omega)
  ·cases h
theorem IQ (h:aW T E R G W V) {v i o:Nat} {cs:List ab} {d:al} (hi:R v=.ptr i 0) (bM:V.at i=.obj cs) (ax:pU v o W.cells=some d):cs[o]? =some (d.ai R):=by
 obtain⟨x,e2,c2,cQ,eR,ev,_⟩:=h.aE.cells _ (yY ax);simp only at cQ ev;rw[hi]at cQ;injection cQ with cQ _;subst cQ;rw[bM]at eR;injection eR with eR;subst eR;exact ev
theorem aq5 (h:aW T E R G W V) {v c i o:Nat} {l:List al} {ts:List bb} {cs:List ab} (hi:R v=.ptr i 0) (aq:T.K c=.obj ts) (bM:V.at i=.obj cs) (bz:o+l.length≤cs.length) (hm:SE T W v c o l=true):
  ∀cn sz e lo hi k d eh,.own cn sz e lo hi∈ts→gJ e=k+1→cs[k]? =some d→(gi o (aM R l) cs)[k]? =some eh→intOf d≤intOf eh:=by
 intro cn sz e lo ei k d eh fW sb aQ hh;unfold SE at hm;rw[aq]at hm;have U:=dI.1 hm _ fW;simp only[sb]at U;unfold acF at U;rw[vH (by rw[hp];exact bz),hp]at hh
 by_cases iH:o≤k∧k<o+l.length
 ·rw[if_pos iH]at hh;have aj:(Nat.ble o k&&Nat.blt k (Nat.add o (fH l)))=true:=by
   rw[fT,kK,hl,decide_eq_true iH.1];show decide (k<o+l.length)=true;exact decide_eq_true iH.2
  rw[aj,cond_true]at U;split at U
  ·rename_i n d0 aK amS;rw[j_]at aK;have e1:=IQ h hi bM amS;rw[aQ]at e1;cases e1;have aN:=mj (R:=R) aK;have hs:Nat.sub k o=k-o:=rfl;rw[hs,hh]at aN;cases aN;split at U
   ·rename_i az b' ao d1 FQ o9;obtain⟨bg,_⟩:=gP (R:=R) FQ;obtain⟨bl,_⟩:=gP (R:=R) o9;have U:=dE h.ok U;rw[eG]at U;rw[bg,bl];simp only[intOf];omega
   ·cases U
  ·cases U
 ·rw[if_neg iH,aQ]at hh;cases hh;exact Bk _
theorem ago {v sz e aR:Nat}:∀{l r:List (Nat × Nat × Nat)},Jv.Mw v sz e l=some (aR,r)→∃ep dV,l=ep++(v,sz,aR)::dV∧r=ep++dV∧gr aR=true∧hT aR=e
 | [],r,h=>by cases h
 |p::l,r,h=>by
  unfold Jv.Mw at h;cases aj:Nat.beq v p.1&&(Nat.beq sz p.2.1&&(gr p.2.2&&Nat.beq e (hT p.2.2)))with
  |true=>
   rw[aj]at h;cases h;obtain⟨U,aa⟩:=a6 aj;obtain⟨aa,au⟩:=a6 aa;obtain⟨cb,ba⟩:=a6 au;obtain⟨a,b,c⟩:=p;have b3:=b5 U;have cI:=b5 aa;have a4:=b5 ba;simp only at b3 cI a4 cb;subst b3;subst cI;exact⟨[],l,rfl,rfl,cb,a4.symm⟩
  |false=>
   rw[aj]at h;simp only[cond_false]at h;split at h
   ·rename_i aN b4 ah;cases h;obtain⟨ep,dV,U,aa,au,ba⟩:=ago ah;exact⟨p::ep,dV,by rw[U];rfl,by rw[aa];rfl,au,ba⟩
   ·cases h
theorem af5 (h:aW T E R G W V) {v o:Nat} {l:List al} {W':aH} (ar:v<W.aD) (jI:cls W.aD l=true) (hs:Ht T W v o l=some W'):
  ∃aL,dk R W aL W'∧∃i cs G',R v=.ptr i 0∧V.at i=.obj cs∧o+l.length≤cs.length∧(E.V.n≤i∨E.eT i)∧aW T E aL G' W' (V.put i (.obj (gi o (aM R l) cs))):=by
 unfold Ht at hs;split at hs
 ·rename_i c af;obtain⟨i,hi,av⟩:=tf h af;obtain⟨hm,hs⟩:=eF hs;split at hs
  ·rename_i agK ny;split at hs
   ·rename_i ts aQ;split at hs
    ·rename_i tl aw;have hw:=xB h (S7 ny) hm (i:=i) (by rw[hi];rfl) av
     split at hs
     case h_2=>cases hs
     rename_i cS j5;obtain⟨dW,bZ,cB,z3⟩:=adv h ar hi av j5;obtain⟨z4,z5⟩:=bZ.aM jI;have od:=hi;have hi:dW v=.ptr i 0:=by rw[←bZ.dq v ar];exact hi
     have ar:=eE ar bZ.n;have h:=cB;rw[←z4];obtain⟨fX,hs⟩:=eF hs;rw[hl]at aw;obtain⟨t1,t2⟩:=UR aw;have Ch:=(h.aE.obj av (by rw[ny];intro _ _ _ aF;cases aF)).2
     rw[ny]at Ch;obtain⟨cs,e1,aN,bL⟩:=Ch;have bz:o+l.length≤cs.length:=by
      rw[←aN];have sd:=XD aQ;have:l.length≤ts.length:=by
       rcases lJ ts.length l.length with bw|d_
       ·have U:=t2 ts.length bw;rw[kI (b1 ts.length),EE]at U;omega
       ·exact d_
      omega
     have j2:=aq5 h hi ny e1 bz fX;have oq:∀(j:Nat),j<l.length→tl[j]? =agK[o+j]? :=fun j aU=>by rw[t2 j aU,BB aQ j]
     cases B5:RL cS v o l tl with
     |true=>
      rw[B5]at hs;simp only[cond_true]at hs;cases hs;unfold RL at B5;split at B5
      ·rename_i u t0 rn cE sw xa _;obtain⟨hH,eC⟩:=a6 B5;obtain⟨bg,bS⟩:=a6 hH;have:=b5 bS;subst this;obtain⟨_,bl⟩:=a6 eC;have vc:agK[o]? =some (.own t0 rn cE 0 xa):=by
        have:=oq 0 (by simp)
        rw[pN]at this;rw[←this];rfl
       split at bl
       ·rename_i w Cf;refine⟨dW,⟨bZ.n,bZ.dq⟩,i,cs,G,od,e1,bz,hw,?_⟩;have tC:=IQ h hi e1 Cf;refine apJ h ar (by simpa[cls]using z5) hi av ny e1 hw vc bg tC ?_ j2 z3
        rcases g1 _ _|>.mp bl with bl|bl
        ·have:=b5 bl;subst this;exact .inl rfl
        ·refine .inr ?_;obtain⟨p,ae,aB⟩:=h4.1 bl;have sh:=h.ok.b2 p ae;unfold Z7 at aB;split at aB
         ·rename_i a b;obtain⟨cc,b4⟩:=a6 aB;have:=b5 cc;subst this;have:=b5 b4;subst this;exact G4 (T:=T) (by decide) sh
         ·cases aB
       ·cases bl
      ·cases B5
     |false=>
      rw[B5]at hs;simp only[cond_false]at hs;split at hs
      ·rename_i W1 mn;cases hs;unfold Jv at mn;split at mn
       ·rename_i u t0 rn cE sw xa _;split at mn
        ·cases mn
        ·rename_i k sb;split at mn
         ·rename_i aR r d o' am5;split at mn
          ·rename_i b q6 eh BY p7;obtain⟨bS,cP⟩:=eF mn;cases cP;obtain⟨eC,iM⟩:=a6 bS;have bg:=xK h.ok eC;have bl:=dE h.ok iM;rw[eG]at bl;obtain⟨ep,dV,cQ,eR,ev,jz⟩:=ago o';obtain⟨_,uA,za,rfl⟩:=Ew (R:=dW) BY;rw[yW]at bl;have zh:(u,rn,aR)∈cS.live:=by rw[cQ];simp
           have p1:=h.aE.live _ zh;simp only at p1;obtain⟨o9,_⟩:=gP (R:=dW) p7;have amV:=IQ h hi e1 am5;have fq:r.Sublist cS.live:=by rw[cQ,eR];exact EH (.refl _) (EI ..)
           have u1:=h.aE.gw;rw[cQ]at u1;have u1:=rH.1 u1;have fY:gr cE=true:=by
            unfold gr;rw[fT];refine decide_eq_true ?_;have:Nat.div cE 1000000000=k+1:=sb;have aa:cE/1000000000=k+1:=this;omega
           have P5:hT aR=hT cE:=jz;have al_:D5 T E G V (fun _ x=>x≤eh.ai dW) (.own t0 rn cE sw xa) (dW u):=by
            refine⟨by rw[xZ,fY];exact bg,fun cn sz e lo hi he=> ?_⟩
            cases he;rcases p1 with ak|⟨aV,_⟩|⟨_,g,n,U,⟨e2,aa,au,ba,cb⟩,du,ew,hW⟩
            ·exact .inl ak
            ·rw[ev]at aV;cases aV
            ·refine .inr (.inr ⟨fY,g,n,U,⟨e2,aa,au,by rw[←P5];exact ba,fun j a aU aA=> ?_⟩,du,ew,hW⟩)
             have:=cb j a aU aA uA za;simp only[At.ai]at bl;omega
           have nx:∀(j:Nat) (t:bb) (a:ab),[bb.own t0 rn cE sw xa][j]? =some t→(aM dW [al.x u])[j]? =some a→D5 T E G V (fun _ x=>x≤eh.ai dW) t a:=by
            intro j t a aU aA;cases j with
            |zero=>cases aU;cases aA;exact al_
            |succ j=>simp at aU
           refine⟨dW,⟨bZ.n,bZ.dq⟩,i,cs,jw i o [.own t0 rn cE sw xa] (aM dW [.x u]) G,od,e1,bz,hw,?_⟩;have ano:∀uI,(gi o (aM dW [.x u]) cs)[k]? =some uI→eh.ai dW≤intOf uI:=fun uI r2=>by
            have:=j2 t0 rn cE sw xa k _ uI (by
             have:=oq 0 (by simp)
             rw[pN]at this;exact lM (this.symm.trans rfl)) sb amV r2
            rw[o9]at this;exact this
           have:=af6 h (v:=v) (o:=o) (l:=[.x u]) (tl:=[.own t0 rn cE sw xa]) (Bd:=fun e x=>x≤eh.ai dW∧e=cE) ar z5 hi av ny e1 hw oq t1 bz fq (fun j t a aU aA=>by
            obtain⟨et,eY⟩:=nx j t a aU aA;refine⟨et,fun cn sz e lo hi he=> ?_⟩;have ak:=eY cn sz e lo hi he;have amY:e=cE:=by
             cases j with
             |zero=>cases aU;cases he;rfl
             |succ j=>simp at aU
            exact ak.e6 (fun _ _=>rfl) (fun g av=>(ak.tok av).1) (b1 _) (fun _ _ h=>h) (fun _ _ h=>h) (fun x ad=>⟨ad,amY⟩)) (fun e x ad ao e2 uI FI JL r2=>by
             rw[ad.2,sb]at FI;have:k=ao:=by omega
             subst this;rw[fS,if_pos rfl]at JL;injection JL with JL;subst JL;exact np ad.1 (ano uI r2)) j2 (by
             show(k_ (.own t0 rn cE sw xa) (dW u)++[]).Nodup;rw[wB];unfold k_;cases dv (dW u)<;>simp[kB]) (fun g av p ae aB=>by
             have av:dv (dW u)=some g:=by simpa[fi,k_,kB,aM,al.ai]using av
             rw[eR]at ae;rcases fu.1 ae with ae|ae
             ·exact u1.2.2 p ae (u,rn,aR) (cz ..) g aB av
             ·exact(kk.1 u1.2.1).1 p ae g av aB) z3
           exact this
          ·cases mn
         ·cases mn
       ·cases mn
      ·split at hs
       ·rename_i W1 nx;cases hs;obtain⟨lv,rfl,ao,aX,bD,c8,e'⟩:=uV h nx;refine⟨dW,⟨bZ.n,bZ.dq⟩,i,cs,jw i o tl (aM dW l) G,od,e1,bz,hw,?_⟩;have:=af6 h (v:=v) (o:=o) (l:=l) (tl:=tl) ar z5 hi av ny e1 hw oq t1 bz ao bD (fun e x ad aX akE d3 Y9=>by rw[show gJ e=0 from ad]at Y9;cases Y9) j2 c8 (fun g av=>(e' g av).2) z3
        rw[hl];exact this
       ·cases hs
    ·cases hs
   ·cases hs
  ·cases hs
 ·cases hs
theorem Nw (h:aW T E R G W V) {is:Bool} {b:Option bn} {l:List al} (aj:El W is b l=true):is=false∨∃x s r k f,b=some x∧l=s::r∧s.ai R=.int k f∧f≤x.ai R:=by
 unfold El at aj;rcases g1 _ _|>.mp aj with aj|aj
 ·exact .inl (by simpa using aj)
 ·refine .inr ?_;cases b with
  |none=>cases aj
  |some x=>
   cases l with
   |nil=>cases aj
   |cons s r=>
    simp only[Jm]at aj;cases p7:gD s with
    |none=>rw[p7]at aj;cases aj
    |some p=>
     obtain⟨k,f⟩:=p;rw[p7]at aj;have aj:=dE h.ok aj;rw[eG]at aj;exact⟨x,s,r,k,_,rfl,rfl,(gP (R:=R) p7).1,by omega⟩
theorem arN (aC:gj E) (h:aW T E R G W V) (he:ch R W.aD se env) {n:Nat} {x v:aG} {d:Option Nat}:dt dm T E R W (Tk T n x v d se W) (fun k=>CX n x v d k env V):=by
 unfold Tk;split
 ·rename_i s hs;obtain⟨e1,bf⟩:=fM he hs;split
  ·rename_i l ak;obtain⟨az,ao,aX,bD⟩:=yE h ak;have fB:pR n (s.ai R)=true:=IN (by rw[az,hp,ao]) aX
   have b6:∀k,CX n x v d k env V=Tj n (aM R l) d k env V (bV x env):=by
    intro k;show Th n x d k env V (bV v env)=_;rw[e1];show(bif pR n (s.ai R)then Ti n (wI (s.ai R)) d k env V (bV x env)else .bad)=_
    rw[fB,EL,az,adt];rfl
   have obj:∀{w o:Nat} {W':aH},w<W.aD→bV x env=.val (sD o (R w))→Ht T W w o l=some W'→dt dm T E R W (some [(jN d .un se,W')]) (fun k=>CX n x v d k env V):=by
    intro w o W' hw ad mV;obtain⟨aL,m4,i,cs,G',bd,bx,bT,dp,g9⟩:=af5 h hw (bD _ bf) mV;have iG:=he.later m4;refine nO m4 g9 (iG.set d (e:=.val .top) trivial rfl) fun k=> ?_;rw[b6,ad,bd];show(bif Nat.ble V.g i then HQ i (0+o) n (aM R l) d k env V (V.at i)else .bad)=_
    rw[rB aC h dp,bx,fy];show(bif mP (o+n) cs then _ else _)=_
    rw[BM (by rw[←ao];exact bT)];rfl
   split
   ·rename_i b o ad;obtain⟨U,aa⟩:=mg he x;rw[ad]at U;simp only[cZ]at U;have aj:=he.mf b;have jl:=he.bh b;split
    ·rename_i cs lp;rw[lp]at aj jl;simp only[cZ]at aj;split
     ·rename_i cU ae;obtain⟨et,eY,m7,z'⟩:=TM (n:=W.aD) (R:=R) ae;refine nO (.refl _ _) h ((he.put b (x:=.box cU) rfl (eY (bD _ bf) jl)).set d (e:=.val .top) trivial rfl) fun k=> ?_;rw[b6,U];show MV b o n (aM R l) d k env V (c7 env b)=_;rw[aj];show(bif mP (o+n) (aM R cs)then _ else _)=_
      rw[BM (by rw[hp,←ao];exact m7),et];rfl
     ·exact db
    ·exact db
   ·rename_i w o ad;obtain⟨U,aa⟩:=mg he x;rw[ad]at U aa;split
    ·rename_i W' mV;exact obj (e9 aa) U mV
    ·exact db
   ·rename_i w ad;obtain⟨U,aa⟩:=mg he x;rw[ad]at U aa;split
    ·rename_i W' mV;refine obj (e9 aa) ?_ mV;obtain⟨_,_,i,_,_,bd,_⟩:=af5 h (e9 aa) (bD _ bf) mV;simp only[cZ,al.ai]at U;rw[U,bd];rfl
    ·exact db
   ·rename_i w sz av5 o ad;obtain⟨U,aa⟩:=mg he x;rw[ad]at U aa;split
    ·rename_i t is b ah;refine kd fun aj=> ?_;obtain⟨mR,aj⟩:=a6 aj;obtain⟨Cg,_⟩:=a6 aa;obtain⟨j6,jl⟩:=L4 (fun _=>aC) h (e9 Cg) ah;split
     ·rename_i ts aQ;split
      ·rename_i tl aw;refine kd fun cY=> ?_;rw[hl]at aw;obtain⟨t1,t2⟩:=UR aw;obtain⟨m,bd,bx,bT⟩:=U;have dj:(iT t).length=sz:=by
        obtain⟨U,_⟩:=a6 mR;rw[hl]at U;exact b5 U
       obtain⟨bg,bl⟩:=sZ cY;have J1:o+l.length≤sz:=by
        rw[←dj,XD aQ,bg];have:tl.length≤ts.length:=by
         rcases lJ ts.length tl.length with bw|d_
         ·have U:=t2 ts.length (by omega)
          rw[kI (b1 ts.length),EE]at U;omega
         ·exact d_
        omega
       rcases j6 with⟨xs,nl,tok,cQ,eR,ev⟩|⟨B,g,ct,c2,cs,cQ,eR,ev,jz,k2,vY,Vs,Vt,Vu⟩
       ·exfalso;unfold Ak at ah;rcases bT with⟨eH,k',bF,bZ,_⟩|⟨nR,gq,fg,c3,bZ,cB,_⟩
        ·rw[cQ]at bZ;cases bZ
        ·rw[cQ]at bZ;cases bZ;split at ah
         ·rename_i e bz;obtain⟨hm,fY⟩:=T7 bz;rcases h.aE.live _ hm with ak|⟨aV,_⟩|⟨_,g,n,U,_⟩
          ·simp only at ak;rw[cQ]at ak;cases ak;simp at cB
          ·simp only at aV;rw[fY]at aV;cases aV
          ·simp only at U;rw[cQ]at U;cases U
         ·split at ah
          ·rename_i e u amN;obtain⟨off,hm,sj⟩:=T6 amN;obtain⟨i,c,agL,t0,lo,hi,de,cy,e5,oz,kA,ra,GF⟩:=T5 h sj;obtain⟨hk,uG,bF,f1,f2,f3,f4⟩:=h.aE.cells _ hm;simp only at f1 f3;rw[de]at f1;injection f1 with f1 _;subst f1;obtain⟨hc,fJ⟩:=h.aE.obj cy (by rw[e5];intro _ _ _ aF;cases aF)
           rw[e5]at fJ;obtain⟨qM,bu,bC,c4⟩:=fJ;rw[f2]at bu;injection bu with bu;subst bu;have gU:=(c4 off _ _ oz f3).2 _ _ _ _ _ rfl (GF i);simp only[al.ai]at gU;rw[cQ]at gU;rcases gU with gU|⟨aV,_⟩|⟨_,g,n,U,_⟩
           ·cases gU;simp at cB
           ·rw[kA]at aV;cases aV
           ·cases U
          ·cases ah
       ·obtain⟨ld,Qu,zo⟩:=Vu rfl;subst ld;rcases bT with⟨eH,k',bF,bZ,cB,z3⟩|⟨nR,gq,fg,c3,bZ,_⟩
        ·rw[cQ]at bZ;cases bZ;have bz:m*sz+sz≤cs.length:=by
          have:(m+1)*sz≤ct*sz:=l_ _ cB;rw[pM]at this;omega
         have hG:(m*sz+o)+(aM R l).length≤cs.length:=by rw[hp];omega
         have FU:0<sz:=by omega
         have pa:∀j,m*sz+o≤j→j<m*sz+o+l.length→j%sz=o+(j-(m*sz+o)):=fun j U aa=>by
          have:j=(o+(j-(m*sz+o)))+m*sz:=by omega
          rw[this,EG,yG (by omega)]
          omega
         have Q8:=zo (gi (m*sz+o) (aM R l) cs) (Ds hG) (fun j cn a F3 aA=>by
          rw[vH hG,hp]at aA;by_cases aU:m*sz+o≤j∧j<m*sz+o+l.length
          ·rw[if_pos aU]at aA;rw[pa j aU.1 aU.2]at F3;have oq:tl[j-(m*sz+o)]? =some cn:=by rw[t2 _ (by omega),BB aQ];exact F3
           rw[hO,ic]at aA;cases tz:l[j-(m*sz+o)]? with
           |none=>rw[tz]at aA;cases aA
           |some dy=>
            rw[tz]at aA;cases aA;exact xK h.ok (bl _ dy cn tz oq)
          ·rw[if_neg aU]at aA;exact k2 j cn a F3 aA) (fun j a r' aA=>by
          rw[vH hG,hp]at aA;by_cases aU:m*sz+o≤j∧j<m*sz+o+l.length
          ·rw[if_pos aU]at aA;have JT:=pa j aU.1 aU.2;rw[r']at JT;have QL:o=0:=by omega
           have anm:j-(m*sz+o)=0:=by omega
           rw[anm]at aA;subst QL;refine Vt _ ?_;rcases g1 _ _|>.mp aj with aj|aj
           ·exact absurd (e9 aj) (by omega)
           ·rcases Nw h aj with aj|⟨c3,dy,fl,k',n_,cp,b_,dh,hD⟩
            ·exact .inl aj
            ·refine .inr ⟨c3,cp,?_⟩;rw[b_]at aA;simp only[aM,l5,bk]at aA;rw[←aA,dh];exact hD
          ·rw[if_neg aU]at aA;exact vY j a r' aA)
         refine nO (.same rfl) Q8 (he.set d (e:=.val .top) trivial rfl) fun k=> ?_;rw[b6,z3];show(bif Nat.ble V.g g then HQ g (m*sz+o) n (aM R l) d k env V (V.at g)else .bad)=_
         rw[rB aC h Qu,ev];show(bif mP (m*sz+o+n) cs then _ else _)=_
         rw[BM (by rw[←ao];rw[hp]at hG;exact hG)];rfl
        ·rw[cQ]at bZ;cases bZ
      ·exact db
     ·exact db
    ·exact db
   ·exact db
  ·exact db
 ·exact db
end Go.bO.cK
end
section
namespace Go.bO.cK
variable {dm:Bool} {T:bG} [e8 T] {E:dS} {R aL:cj} {G G':Nat→cR} {W:aH} {V:aO} {se:bE} {env:aP}
theorem acM (h:aW T E R G W V) {c:Nat} {o:eA} {l:List al} {tl:List bb} {lv:List (Nat × Nat × Nat)} {tv:bb} {a:ab} (jI:cls W.aD l=true) (ak:l=[]∨o=.obj (aM R l))
  (fq:lv.Sublist W.live) (nx:∀(j:Nat) (t:bb) (a:ab),tl[j]? =some t→(aM R l)[j]? =some a→hf T E G V t a)
  (u1:∀g∈fi tl (aM R l),∀p∈lv,dv (R p.1)≠some g)
  (aor:∀G',G' V.n=.cls c→bR T.D G' tv a) (lV:lx a=some V.n) (FV:l≠[]→a=.ptr V.n 0)
  (p3:∀G' V',(∀x c,G x=.cls c→G' x=.cls c)→V'.at V.n=o→(∀j t b g,tl[j]? =some t→(aM R l)[j]? =some b→kB t=true→dv b=some g→G' g=.tok V.n j∧V'.at g=V.at g∧g<V'.n)→we T G' V' (l4 R W.cA) V.n (T.K c))
  (j3:(fi tl (aM R l)).Nodup) (ec:∀cs,o=.obj cs→T.kept c=true→eu T (hY c) [.agg cs]):
  aW T E (hK R W.aD a) (fun x=>if x=V.n then .cls c else jw V.n 0 tl (aM R l) G x) {W.push tv with live:=lv,wr:=W.aD::W.wr,cells:=newObj.q' W.aD 0 l++W.cells,rd:=none} (V.new o):=by
 have fG:=HJ nx;have jm:=fun x c=>agG (i:=V.n) (o:=0) (G:=G) (ts:=tl) (as:=aM R l) fG.no x c;have oj:∀x,x∉fi tl (aM R l)→jw V.n 0 tl (aM R l) G x=G x:=fun x ad=>ME ad;have P4:(V.new o).n=V.n+1:=rfl;have P_:(V.new o).at V.n=o:=by rw[kp,if_pos rfl]
 have ga:∀x,x≠V.n→(V.new o).at x=V.at x:=fun x ad=>by rw[kp,if_neg (fun e=>ad e.symm)]
 have PZ:∀x c,G x=.cls c→x≠V.n:=fun x c ad e=>by rw[e,h.aE.out V.n (b1 _)]at ad;cases ad
 generalize BS:(fun x=>if x=V.n then cR.cls c else jw V.n 0 tl (aM R l) G x)=G'
 have Fq:G' V.n=.cls c:=by rw[←BS];simp
 have qR:∀x,x≠V.n→G' x=jw V.n 0 tl (aM R l) G x:=fun x ad=>by rw[←BS];simp only[if_neg ad]
 have fX:∀x c,G x=.cls c→G' x=.cls c:=fun x bF ad=>by rw[qR x (PZ x bF ad)];exact(jm x bF).2 ad
 have iH:∀g∈fi tl (aM R l),g<E.V.n→E.eT g:=fun g av bw=>(fG.new g av).elim (fun d_=>by omega) id
 have lS:=pB R W.aD a;have hs:=h.agree lS;have g6:∀{sz e x j b},x<V.n→ki T G V sz e x j b→ki T G' (V.new o) sz e x j b:=by
  intro sz e x j b ad ay;exact ay.e6 (fun g av=>ga g (by have:=(ay.tok av).2.1;omega)) (fun g av=>by
   have aa:=(ay.tok av).1;have:=(ay.tok av).2.1;rw[qR g (by omega),oj g (fun hm=>by rw[fG.no g hm]at aa;cases aa)];exact aa) (hA _) (fun _ _ h=>h.mono fX) (fun _ aj=>s' (ga x (by omega)) aj)
 have YG:l4 (hK R W.aD a) W.cA=l4 R W.cA:=by
  funext i j
  apply propext;constructor
  ·rintro⟨p,ae,U,aa⟩;exact⟨p,ae,by rw[lS _ (h.aT.cA p ae)];exact U,aa⟩
  ·rintro⟨p,ae,U,aa⟩;exact⟨p,ae,by rw[←lS _ (h.aT.cA p ae)];exact U,aa⟩
 have bz:W.aD≤W.aD+1:=hA _;refine⟨⟨fun v=> ?_,fun v ar=> ?_,hs.ok.ge,hs.ok.da,hs.ok.cC,hs.ok.b2⟩,
  ⟨fun x ad=>jC bz (l:=x.t) (h.aT.ge x ad),fun x ad=>R8 bz (h.aT.da x ad),fun p ae=>⟨pO (h.aT.cC p ae).1,jC bz (l:=p.2.t) (h.aT.cC p ae).2⟩,fun p ae=> ?_,fun p ae=>pO (h.aT.live p (fq.subset ae)),fun p ae=>pO (h.aT.cA p ae),fun v ar=> ?_,fun p ae=>mE bz _ (h.aT.b2 p ae),fun p ae=>⟨pO (h.aT.op p ae).1,mE bz _ (h.aT.op p ae).2⟩,fun p ae=>⟨pO (h.aT.lt p ae).1,pO (h.aT.lt p ae).2.1,fun q aB=>⟨k1 bz _ ((h.aT.lt p ae).2.2 q aB).1,k1 bz _ ((h.aT.lt p ae).2.2 q aB).2⟩⟩,fun p ae=>II (h.aT.gz p (fq.subset ae)),fun p ae=>by cases ae⟩,?_⟩
 ·show bR T.D G' ((W.push tv).df v) _;rw[MH];by_cases he:W.aD=v
  ·subst he;rw[if_pos rfl,gK];exact aor G' Fq
  ·rw[if_neg he];exact(hs.ok.ty v).mono fX
 ·show(W.push tv).df v=.any;have ar:W.aD+1≤v:=ar;rw[MH,if_neg (by omega)]
  exact h.ok.top v (by omega)
 ·rcases fu.1 ae with ae|ae
  ·obtain⟨k,s,U,rfl⟩:=zY ae;exact⟨gT _,k1 bz _ (lP U jI)⟩
  ·exact⟨pO (h.aT.cells p ae).1,k1 bz _ (h.aT.cells p ae).2⟩
 ·rcases cu.1 ar with rfl|ar
  ·exact gT _
  ·exact pO (h.aT.wr v ar)
 ·refine⟨fun x bF ad=> ?_,fun p ae=> ?_,fun p ae=> ?_,?_,fun v ar i hi=> ?_,h.aE.M,fun x ad=> ?_,II h.aE.n,h.aE.g,fun x ad eQ=> ?_,fun x ad bF=> ?_,fun g bw p q e_=> ?_,fun g p q e_=> ?_,⟨fun p ae=>let⟨x,bF,U,aa⟩:=hs.aE.hi.own p ae;⟨x,bF,U,fX x bF aa⟩,fun x bF cU ad ek gb=> ?_⟩,fun p ae=> ?_,fun p ae=>by cases ae⟩
  ·show _∧(_→we T G' (V.new o) (l4 (hK R W.aD a) W.cA) x (T.K bF));rw[YG];by_cases pf:x=V.n
   ·subst pf;rw[Fq]at ad;injection ad with ad;subst ad;refine⟨gT _,fun _=>p3 G' (V.new o) fX P_ fun j t b g aw aj ay av=> ?_⟩;have hm:=KW aw aj ay av;have bw:=fG.lt g hm;refine⟨?_,ga g (by omega),pO bw⟩
    rw[qR g (by omega),U_ j3 aw aj ay av,fy]
   ·rw[qR x pf]at ad;have iq:=(jm x bF).1 ad;obtain⟨az,ao⟩:=hs.aE.wf x bF iq;rw[YG]at ao;refine⟨pO az,fun eP=> ?_⟩;have ao:=ao eP;cases dU:T.K bF with
    |none=>rw[dU]at ao;exact ao.elim
    |row z k n=>
     rw[dU]at ao;obtain⟨e2,bd,bx,bT⟩:=ao;exact⟨e2,by rw[ga x pf];exact bd,bx,fun j t a aw aA=>(bT j t a aw aA).mono fX⟩
    |map a7 t cH=>
     rw[dU]at ao;obtain⟨ko,es,bd,bx,bT⟩:=ao;exact⟨ko,es,by rw[ga x pf];exact bd,bx,fun e he=>⟨(bT e he).1.mono fX,(bT e he).2.mono fX⟩⟩
    |obj ud=>
     rw[dU]at ao;obtain⟨cU,e1,aN,bL⟩:=ao;refine⟨cU,by rw[ga x pf];exact e1,aN,fun j t a aw aA=> ?_⟩
     obtain⟨bu,bC⟩:=bL j t a aw aA;exact⟨bu.mono fX,fun cn sz e lo hi he aK=>g6 az (bC cn sz e lo hi he aK)⟩
  ·rcases fu.1 ae with ae|ae
   ·obtain⟨k,s,U,rfl⟩:=zY ae;have cm:l≠[]:=fun e=>by rw[e]at U;simp at U
    have ay:o=.obj (aM R l):=ak.elim (fun e=>absurd e cm) id;refine⟨V.n,aM R l,c,by rw[gK];exact FV cm,by rw[P_,ay],?_,Fq⟩
    simp only[fy];rw[←qo lS s (lP U jI)];exact mj U
   ·obtain⟨x,cU,bF,az,ao,aX,bD⟩:=hs.aE.cells p ae;exact⟨x,cU,bF,az,by rw[ga x (PZ x bF bD)];exact ao,aX,fX x bF bD⟩
  ·have c0:=fq.subset ae;have ams:=lS _ (h.aT.live p c0);have ak:=h.aE.live p c0;rw[←ams];exact ak.e6 (fun g av=>ga g (by have:=(ak.tok av).2.2.1;omega)) (fun g av=>by
    have:=(ak.tok av).2.2.1;rw[qR g (by omega),oj g (fun hm=>u1 g hm p ae av)];exact(ak.tok av).1) (hA _) (fun _ _ h=>h) (fun _ _ h=>h.mono fX) (fun _ aj=>NO lS (h.aT.gz p c0) aj)
  ·exact hs.aE.gw.sublist fq
  ·rcases cu.1 ar with rfl|ar
   ·rw[gK,lV]at hi;injection hi with hi;subst hi;exact .inl h.aE.n
   ·exact hs.aE.wr v ar i hi
  ·have ad:V.n+1≤x:=ad;rw[qR x (by omega),oj x (fun hm=>by have:=fG.lt x hm;omega)]
   exact h.aE.out x (by omega)
  ·have aK:=h.aE.n;obtain⟨az,ao⟩:=h.aE.f' x ad eQ;exact⟨by rw[ga x (by omega)];exact az,by rw[qR x (by omega),oj x (fun hm=>eQ (iH x hm ad))];exact ao⟩
  ·have aK:=h.aE.n;rw[qR x (by omega),jm x bF];exact h.aE.cls x ad bF
  ·have aK:=h.aE.n;rw[qR g (by omega)]at e_
   by_cases hm:g∈fi tl (aM R l)
   ·exact .inr (iH g hm bw)
   ·rw[oj g hm]at e_;exact h.aE.tok g bw p q e_
  ·by_cases Y4:g=V.n
   ·subst Y4;rw[Fq]at e_;cases e_
   ·rw[qR g Y4]at e_;rcases HI e_ with e|e
    ·rw[e];exact gT _
    ·exact pO (h.aE.fQ g p q e)
  ·by_cases pf:x=V.n
   ·subst pf;rw[Fq]at ad;cases ad;rw[P_]at gb;have aK:=h.aE.n;refine⟨fun _=>⟨ec cU gb ek,fun bw=>by omega⟩,fun p ae he=> ?_⟩
    obtain⟨y,c2,U,aa⟩:=hs.aE.hi.own p ae;rw[he]at U;injection U with U;exact absurd U.symm (PZ y c2 aa)
   ·rw[qR x pf]at ad;rw[ga x pf]at gb;exact hs.aE.hi.ok x bF cU ((jm x bF).1 ad) ek gb
  ·refine(hs.aE.lt p ae).e6 ⟨rfl,rfl,fun _ _=>⟨rfl,rfl⟩⟩ (hA _) (fun x ad _=>ga x (by omega)) fX (fun x ad di gf=> ?_) (fun _ _ h=>h.mono fX)
   rw[qR x (by omega),oj x fun hm=> ?_];exact gf
   rcases fG.cF x hm with⟨n,z,w,eX⟩|⟨z,w,eX⟩<;>rw[eX]at di<;>rcases di with ad|⟨_,_,_,_,_,ad⟩|ad<;>cases ad
theorem aW.ie (h:aW T E R G W V) {br:List (Nat × List al)} (ae:∀p∈br,eu T p.1 (aM R p.2)∧cls W.aD p.2=true):aW T E R G {W with b2:=br++W.b2} V:=
 ⟨⟨h.ok.ty,h.ok.top,h.ok.ge,h.ok.da,h.ok.cC,fun p c0=>(fu.1 c0).elim (fun e=>(ae p e).1) (h.ok.b2 p)⟩,
  ⟨h.aT.ge,h.aT.da,h.aT.cC,h.aT.cells,h.aT.live,h.aT.cA,h.aT.wr,fun p c0=>(fu.1 c0).elim (fun e=>(ae p e).2) (h.aT.b2 p),h.aT.op,h.aT.lt,h.aT.gz,h.aT.rd⟩,
  h.aE.same rfl rfl rfl rfl rfl rfl rfl rfl⟩
theorem adA {c v:Nat} {p:Nat × List al}:∀{l:List (Nat × Nat × al)},p∈newObj.others W c v l→∃u o s,(u,o,s)∈l∧p=(12,[.x v,.x u])
 | [],h=>by cases h
 |(u,o,s)::l,h=>by
  have rest:p∈newObj.others W c v l→∃pA ey dy,(pA,ey,dy)∈(u,o,s)::l∧p=(12,[.x v,.x pA]):=fun h=>let⟨a,b,c,d,e⟩:=adA h;⟨a,b,c,cv _ d,e⟩
  unfold newObj.others at h;revert h;generalize (Nat.beq o 0&&_)=uA;cases uA with
  |true=>
   intro h;rcases cu.1 h with h|h
   ·exact⟨u,o,s,cz ..,h⟩
   ·exact rest h
  |false=>exact rest
theorem arb (h:aW T E R G W V) (he:ch R W.aD se env) {c:Nat} {l:List al} {d:Option Nat} {run:bI→bj} (jI:cls W.aD l=true) (cm:l≠[])
  (b6:∀k,run k=k (dc d (.val (.ptr V.n 0)) env) (V.new (.obj (aM R l)))):dt dm T E R W (newObj T c l d se W) run:=by
 unfold newObj;split
 ·rename_i ts aq;refine kd fun JU=> ?_;have ec:T.kept c=true→eu T (hY c) [.agg (aM R l)]:=fun ek=>by
   rw[ek]at JU;have:=e8.pw h.ok (T:=T) (k:=hY c) (as:=[.agg l]) (by simpa using JU)
   simpa only[aM,al.ai]using this
  split
  ·rename_i W1 av;obtain⟨lv,rfl,ao,aX,bD,c8,e'⟩:=uV h av;simp only[cW];have J7:=acM h (c:=c) (o:=.obj (aM R l)) (tl:=ts) (lv:=lv) (tv:=.ptr c false) (a:=.ptr V.n 0) jI (.inr rfl) ao bD (fun g av=>(e' g av).2) (fun G' BS=>.ptr _ _ _ BS) rfl (fun _=>rfl)
    (fun G' V' fX bM mW=>by
     rw[aq];refine⟨aM R l,bM,by rw[hp];exact aX,fun j t b aw aj=> ?_⟩
     obtain⟨bu,bC⟩:=bD j t b aw aj;refine⟨bu.mono fX,fun cn sz e lo hi aB _=> ?_⟩;rcases bC cn sz e lo hi aB with rfl|⟨m4,xs,nl,g,rfl,bd,bx,bT,dp⟩|⟨m4,g,n,rfl,bd,bx,bT,dp⟩
     ·exact .inl rfl
     ·obtain⟨b',ct,jr⟩:=mW j t _ g aw aj (by rw[aB];rfl) rfl
      exact .inr (.inl ⟨m4,xs,nl,g,rfl,by rw[ct];exact bd,b',jr⟩)
     ·obtain⟨b',ct,jr⟩:=mW j t _ g aw aj (by rw[aB];rfl) rfl
      exact .inr (.inr ⟨m4,g,n,rfl,bd.e6 ct (fun _ _ h=>h.mono fX) (fun x ad k cs d aq=>by rw[show gJ e=0 from ad]at aq;cases aq),b',jr⟩)) c8 (fun cs gd ek=>by cases gd;exact ec ek)
   have anV:aW T E (hK R W.aD (.ptr V.n 0)) (fun x=>if x=V.n then cR.cls c else jw V.n 0 ts (aM R l) G x) {{W.push (.ptr c false)with live:=lv,wr:=W.aD::W.wr,cells:=newObj.q' W.aD 0 l++W.cells,rd:=none}with b2:=bif T.kept c then newObj.others {W with live:=lv} c W.aD W.cells++W.b2 else W.b2} (V.new (.obj (aM R l))):=by
    cases ny:T.kept c with
    |false=>exact J7
    |true=>
     refine J7.ie fun p ae=> ?_;obtain⟨u,o,s,hm,rfl⟩:=adA ae;obtain⟨i,cs,bF,az,ao,aX,bD⟩:=h.aE.cells _ hm;have hu:=(h.aT.cells _ hm).1;simp only at az hu;refine⟨.inl ?_,?_⟩
     ·simp only[aM,al.ai,gK];rw[←pB R W.aD (.ptr V.n 0) u hu,az];exact .OJ _ _ (fun e=>by have:=(h.aE.wf i bF bD).1;omega)
     ·show(Nat.blt W.aD (W.aD+1)&&(Nat.blt u (W.aD+1)&&true))=true;rw[gp (show W.aD<W.aD+1 by omega),gp (show u<W.aD+1 by omega)];rfl
   exact ke he ⟨hA _,pB _ _ _⟩ anV (a:=.ptr V.n 0) (by simp only[al.ai,gK]) (gp (gT _)) b6
  ·exact db
 ·exact db
theorem Pv {k:Nat→dG} {run:bI→bj} (aq:∀c,dt dm T E R W (k c) run):∀{l:List Nat},dt dm T E R W (E_ k l) run
 | []=>db
 |c::l=>by
  have U:=aq c;have aa:=Pv aq (l:=l);simp only[E_];split
  ·rename_i r ah;rw[ah]at U;exact U
  ·exact aa
theorem ac2 (h:aW T E R G W V) (he:ch R W.aD se env) {an:gE} {l:List al} {d:Option Nat} {run:bI→bj} (jI:cls W.aD l=true) (cm:l≠[])
  (b6:∀k,run k=k (dc d (.val (.ptr V.n 0)) env) (V.new (.obj (aM R l)))):dt dm T E R W (Lf T an l d se W) run:=by
 unfold Lf;split
 ·exact Pv fun c=>arb h he jI cm b6
 ·exact db
theorem aq3 (h:aW T E R G W V) (he:ch R W.aD se env) {c:Nat} {d:Option Nat} {run:bI→bj}
  (b6:∀k,run k=k (dc d (.val (.map (some V.n))) env) (V.new (.map none []))):dt dm T E R W (SD T c d se W) run:=by
 unfold SD;split
 ·rename_i a7 t cH aq;simp only[cW];have J7:=acM h (c:=c) (o:=.map none []) (l:=[]) (tl:=[]) (lv:=W.live) (tv:=.map c false) (a:=.map (some V.n)) rfl (.inl rfl) (.refl _) (fun j t a aw=>by simp at aw) (fun g av=>by simp[fi]at av) (fun G' BS=>.map _ _ _ BS) rfl (fun aF=>absurd rfl aF)
   (fun G' V' fX bM mW=>by
    rw[aq];exact⟨none,[],bM,⟨(fun k' ek=>by cases ek),.nil⟩,(fun e he=>by cases he)⟩) (by simp[fi]) (fun cs gd _=>by cases gd)
  exact ke he (W':= {W.push (.map c false)with live:=W.live,wr:=W.aD::W.wr,cells:=newObj.q' W.aD 0 []++W.cells,rd:=none}) ⟨hA _,pB _ _ _⟩ J7 (a:=.map (some V.n)) (by simp only[al.ai,gK]) (gp (gT _)) b6
 ·exact db
theorem Dz {n bytes:Nat} (h:n≤rk bytes):oC n bytes=true:=by
 have hm:n≤maxLen∧n*bytes≤140737488355328:=by
  unfold rk at h;cases aj:Nat.beq bytes 0 with
  |true=>
   rw[aj]at h;have:=b5 aj;subst this;exact⟨h,by simp⟩
  |false=>
   rw[aj]at h;have FU:0<bytes:=by
    rcases uv bytes with aV|aV
    ·subst aV;cases aj
    ·exact aV
   simp only[cond_false]at h;have YU:n≤maxLen∧n≤140737488355328/bytes:=by
    rw[fT]at h;have aQ:Nat.div 140737488355328 bytes=140737488355328/bytes:=rfl;rw[aQ]at h;by_cases af:maxLen≤140737488355328/bytes
    ·rw[decide_eq_true af]at h;simp only[cond_true]at h;omega
    ·rw[decide_eq_false af]at h;simp only[cond_false]at h;omega
   exact⟨YU.1,(Nat.le_div_iff_mul_le FU).1 YU.2⟩
 unfold oC;rw[fT,fT,decide_eq_true hm.1];exact decide_eq_true hm.2
theorem aW.grow (h:aW T E R G W V) {V':aO} {og:Option Nat} (aK:V.n≤V'.n) (av:V'.g=V.g) (bM:∀x,x<V.n→og≠some x→V'.at x=V.at x)
  (ay:∀g,og=some g→G g=.no∧(E.V.n≤g∨E.eT g)∧∀p∈W.live,dv (R p.1)≠some g) (anF:∀g,og=some g→¬m0 (V.at g)) (di:W.rd=none):aW T E R G W V':=by
 have gf:∀x k,G x=k→k≠.no→og≠some x:=fun x k ad aq he=>aq (by rw[←ad];exact(ay x he).1)
 have g6:∀{sz e x j b},V'.at x=V.at x→ki T G V sz e x j b→ki T G V' sz e x j b:=by
  intro sz e x j b ad ay;exact ay.e6 (fun g av=>bM g (ay.tok av).2.1 (gf g _ (ay.tok av).1 (by intro aF;cases aF))) (fun g av=>(ay.tok av).1) aK (fun _ _ h=>h) (fun _ aj=>s' ad aj)
 refine⟨h.ok,h.aT,⟨fun x c ad=> ?_,fun p ae=> ?_,fun p ae=> ?_,h.aE.gw,h.aE.wr,h.aE.M,fun x ad=>h.aE.out x (fp aK ad),fp h.aE.n aK,by rw[av];exact h.aE.g,fun x ad eQ=> ?_,h.aE.cls,h.aE.tok,fun g i j av=>eE (h.aE.fQ g i j av) aK,⟨h.aE.hi.own,fun x c cs ad aq gb=> ?_⟩,fun p ae=> ?_,fun p ae=>absurd ae (LS di)⟩⟩
 ·obtain⟨az,ao⟩:=h.aE.wf x c ad;have gb:=bM x az (gf x _ ad (by intro aF;cases aF))
  refine⟨eE az aK,fun eP=> ?_⟩;have ao:=ao eP;cases dU:T.K c with
  |none=>rw[dU]at ao;exact ao.elim
  |row z k n=>
   rw[dU]at ao;obtain⟨e2,bd,bx⟩:=ao;exact⟨e2,by rw[gb];exact bd,bx⟩
  |map a7 t cH=>
   rw[dU]at ao;obtain⟨ko,es,bd,bx,bT⟩:=ao;exact⟨ko,es,by rw[gb];exact bd,bx,bT⟩
  |obj ud=>
   rw[dU]at ao;obtain⟨cU,e1,aN,bL⟩:=ao;refine⟨cU,by rw[gb];exact e1,aN,fun j t a aw aA=> ?_⟩
   obtain⟨bu,bC⟩:=bL j t a aw aA;exact⟨bu,fun cn sz e lo hi he aK=>g6 gb (bC cn sz e lo hi he aK)⟩
 ·obtain⟨x,cU,bF,az,ao,aX,bD⟩:=h.aE.cells p ae;obtain⟨c8,_⟩:=h.aE.wf x bF bD;exact⟨x,cU,bF,az,by rw[bM x c8 (gf x _ bD (by intro aF;cases aF))];exact ao,aX,bD⟩
 ·have ak:=h.aE.live p ae;exact ak.e6 (fun g av=>bM g (ak.tok av).2.2.1 (fun he=>(ay g he).2.2 p ae av)) (fun g av=>(ak.tok av).1) aK (fun _ _ h=>h) (fun _ _ h=>h) (fun _ h=>h)
 ·obtain⟨az,ao⟩:=h.aE.f' x ad eQ;refine⟨?_,ao⟩;have bw:=eE ad h.aE.n;rw[bM x bw (fun he=> ?_)]
  ·exact az
  ·rcases(ay x he).2.1 with U|U
   ·omega
   ·exact eQ U
 ·rw[bM x (h.aE.wf x c ad).1 (gf x _ ad (by intro aF;cases aF))]at gb
  exact h.aE.hi.ok x c cs ad aq gb
 ·exact(h.aE.lt p ae).e6 ⟨rfl,rfl,fun _ _=>⟨rfl,rfl⟩⟩ aK (fun x ad di=>bM x ad fun he=>anF x he di) (fun _ _ h=>h) (fun _ _ _ h=>h) (fun _ _ h=>h)
def aht (T:bG) (E:dS) (G:Nat→cR) (V:aO) (W:aH) (R:cj) (te:bb) (sz e:Nat) (a:ab) (n:Nat):Prop:=
 (a=.slice [] true none∧n=0)∨∃xs nl g,a=.slice xs nl (some g)∧n=xs.length∧V.at g=.cF xs.length sz e∧G g=.no∧(E.V.n≤g∨E.eT g)∧g<V.n∧(∀x∈xs,bR T.D G te x)∧(nl=true→xs=[])∧∀p∈W.live,dv (R p.1)≠some g
theorem Tq {te:bb} {v sz e:Nat} {u off:Nat}:∀{l:List (Nat × Nat × al)},z_ T W v sz e te l=some (u,off)→(u,off,al.x v)∈l∧C1 T W sz e te u off=true
 | [],h=>by cases h
 |(pA,z2,s)::r,h=>by
  have skip:z_ T W v sz e te r=some (u,off)→(u,off,al.x v)∈(pA,z2,s)::r∧C1 T W sz e te u off=true:=fun h=>let⟨a,b⟩:=Tq h;⟨cv _ a,b⟩
  cases s with
  |x w=>
   simp only[z_]at h;cases aj:Nat.beq v w&&C1 T W sz e te pA z2 with
   |true=>
    rw[aj]at h;cases h;obtain⟨U,aa⟩:=a6 aj;have:=b5 U;subst this;exact⟨cz ..,aa⟩
   |false=>rw[aj]at h;exact skip h
  |_=>exact skip h
theorem ar1 (h:aW T E R G W V) {te:bb} {sz e u off:Nat} (ay:C1 T W sz e te u off=true):∃i c ts t lo hi,R u=.ptr i 0∧G i=.cls c∧T.K c=.obj ts∧ts[off]? =some (.own t sz e lo hi)∧(E.V.n≤i∨E.eT i):=by
 unfold C1 at ay;split at ay
 ·rename_i c af;obtain⟨i,hi,av⟩:=tf h af;obtain⟨U,aa⟩:=a6 ay;split at aa
  ·rename_i t gu aR lo ei r aQ;obtain⟨au,ba⟩:=a6 aa;obtain⟨ba,_⟩:=a6 ba;have:=b5 au;subst this;have:=b5 ba;subst this;have fV:(hE (T.K c))[off+0]? =some (.own t sz e lo ei):=by rw[←BB aQ 0];rfl
   cases aq:T.K c with
   |none=>rw[aq]at fV;simp[hE]at fV
   |map a7 t cH=>rw[aq]at fV;simp[hE]at fV
   |row z k n=>rw[aq]at fV;simp[hE]at fV
   |obj ts=>
    rw[aq]at fV;exact⟨i,c,ts,t,lo,ei,hi,av,aq,fV,xB h (S7 aq) U (by rw[hi];rfl) av⟩
  ·cases aa
 ·cases ay
theorem aW.pq (h:aW T E R G W V):aW T E R G {W with rd:=none} V:=
 ⟨⟨h.ok.ty,h.ok.top,h.ok.ge,h.ok.da,h.ok.cC,h.ok.b2⟩,⟨h.aT.ge,h.aT.da,h.aT.cC,h.aT.cells,h.aT.live,h.aT.cA,h.aT.wr,h.aT.b2,h.aT.op,h.aT.lt,h.aT.gz,fun p ae=>by cases ae⟩,
  ⟨h.aE.wf,h.aE.cells,h.aE.live,h.aE.gw,h.aE.wr,h.aE.M,h.aE.out,h.aE.n,h.aE.g,h.aE.f',h.aE.cls,h.aE.tok,h.aE.fQ,h.aE.hi,h.aE.lt,fun p ae=>by cases ae⟩⟩
theorem aW.Iw (aC:gj E) (h:aW T E R G W V) {u off i c:Nat} (hu:u<W.aD) (de:R u=.ptr i 0) (cy:G i=.cls c) (kA:E.V.n≤i∨E.eT i) (o6:W.cA=[]) {f:Nat × Nat × al→Bool} {gF:Nat→cR}
  (ld:∀x c,gF x=.cls c↔G x=.cls c) (o9:∀g,gF g≠G g→G g=.tok i off∧gF g=.no):aW T E R gF {W with cA:=[(u,off)],cells:=W.cells.filter f,rd:=none} V:=by
 have vb:∀g,G g≠.tok i off→gF g=G g:=fun g av=>Classical.byContradiction fun cm=>av (o9 g cm).1;refine⟨⟨(h.ok.mono fun x c ad=>(ld x c).2 ad).ty,h.ok.top,h.ok.ge,h.ok.da,h.ok.cC,h.ok.b2⟩,
  ⟨h.aT.ge,h.aT.da,h.aT.cC,fun p ae=>h.aT.cells p (ma.1 ae).1,h.aT.live,(fun p ae=>by rw[iS.1 ae];exact hu),h.aT.wr,h.aT.b2,h.aT.op,h.aT.lt,h.aT.gz,fun p ae=>by cases ae⟩,
  ⟨fun x c2 ad=> ?_,fun p ae=> ?_,fun p ae=> ?_,h.aE.gw,h.aE.wr,h.aE.M,fun x ad=> ?_,h.aE.n,h.aE.g,fun x ad eQ=> ?_,fun x ad c2=> ?_,fun g bw a b e_=> ?_,fun g a b e_=> ?_,⟨fun p ae=>let⟨x,c2,U,aa⟩:=h.aE.hi.own p ae;⟨x,c2,U,(ld x c2).2 aa⟩,fun x c2 e2 ad FI gb=>h.aE.hi.ok x c2 e2 ((ld x c2).1 ad) FI gb⟩,fun p ae=> ?_,fun p ae=>by cases ae⟩⟩
 ·have iq:=(ld x c2).1 ad;obtain⟨az,ao⟩:=h.aE.wf x c2 iq;refine⟨az,fun eP=> ?_⟩;have ao:=ao eP;cases dU:T.K c2 with
  |none=>rw[dU]at ao;exact ao.elim
  |row z k n=>
   rw[dU]at ao;obtain⟨e2,bd,bx,bT⟩:=ao;exact⟨e2,bd,bx,fun j t a aw aA=>(bT j t a aw aA).mono fun x c ad=>(ld x c).2 ad⟩
  |map a7 t cH=>
   rw[dU]at ao;obtain⟨ko,es,bd,bx,bT⟩:=ao;exact⟨ko,es,bd,bx,fun e he=>⟨(bT e he).1.mono fun x c ad=>(ld x c).2 ad,(bT e he).2.mono fun x c ad=>(ld x c).2 ad⟩⟩
  |obj ud=>
   rw[dU]at ao;obtain⟨cU,e1,aN,bL⟩:=ao;refine⟨cU,e1,aN,fun j t a aw aA=> ?_⟩;obtain⟨bu,bC⟩:=bL j t a aw aA;refine⟨bu.mono fun x c ad=>(ld x c).2 ad,fun cn sz e lo hi he aK=> ?_⟩;have xg:¬l4 R W.cA x j:=by rw[o6];rintro⟨p,ae,_⟩;cases ae
   have ay:=bC cn sz e lo hi he xg;refine ay.e6 (fun _ _=>rfl) (fun g av=> ?_) (b1 _) (fun _ _ h=>h.mono fun x c ad=>(ld x c).2 ad) (fun _ h=>h);have bx:=(ay.tok av).1;rw[vb g (fun lU=> ?_)]
   ·exact bx
   ·rw[bx]at lU;injection lU with e1 aN;exact aK ⟨(u,off),cz ..,by rw[e1];exact de,aN.symm⟩
 ·obtain⟨pb,pc⟩:=ma.1 ae;obtain⟨x,e2,c2,az,ao,aX,bD⟩:=h.aE.cells p pb;exact⟨x,e2,c2,az,ao,aX,(ld x c2).2 bD⟩
 ·have ak:=h.aE.live p ae;refine ak.e6 (fun _ _=>rfl) (fun g av=> ?_) (b1 _) (fun _ _ h=>h) (fun _ _ h=>h.mono fun x c ad=>(ld x c).2 ad) (fun _ h=>h);have au:=(ak.tok av).1;rw[vb g (by rw[au];intro aF;cases aF)];exact au
 ·rw[vb x (by rw[h.aE.out x ad];intro aF;cases aF)];exact h.aE.out x ad
 ·obtain⟨az,ao⟩:=h.aE.f' x ad eQ;refine⟨az,?_⟩;rw[vb x (fun av=> ?_)]
  ·exact ao
  ·rcases h.aE.tok x ad i off av with U|U
   ·obtain⟨bg,bl⟩:=aC.DU x i off U;rcases kA with kA|kA
    ·omega
    ·exact eQ (bl kA)
   ·exact eQ U
 ·rw[ld x c2];exact h.aE.cls x ad c2
 ·have:gF g=G g:=Classical.byContradiction fun cm=>by
   have:=(o9 g cm).2;rw[e_]at this;cases this
  rw[this]at e_;exact h.aE.tok g bw a b e_
 ·have:gF g=G g:=Classical.byContradiction fun cm=>by
   have:=(o9 g cm).2;rw[e_]at this;cases this
  rw[this]at e_;exact h.aE.fQ g a b e_
 ·exact(h.aE.lt p ae).e6 ⟨rfl,rfl,fun _ _=>⟨rfl,rfl⟩⟩ (b1 _) (fun _ _ _=>rfl) (fun x c h=>(ld x c).2 h) (fun x _ _ gf=>by rw[vb x (by rw[gf];intro aF;cases aF)];exact gf) (fun _ _ h=>h.mono fun x c ad=>(ld x c).2 ad)
theorem acU {g i off:Nat} (bl:G g=.tok i off) (x c:Nat):(fun x=>if x=g then cR.no else G x) x=.cls c↔G x=.cls c:=by
 by_cases ad:x=g
 ·subst ad;simp[bl]
 ·simp[ad]
theorem auV (aC:gj E) (h:aW T E R G W V) {te:bb} {sz e:Nat} {s:al} {n:bn} {W1:aH} (fY:gr e=false) (af:s.bh W.aD=true) (aw:UQ T W sz e te s=some (n,W1)):
  (W1.aD=W.aD∧W1.rd=none)∧∃gF m,aW T E R gF W1 V∧n.ai R=(m:Nat)∧n.bh W.aD=true∧aht T E gF V W1 R te sz e (s.ai R) m∧(∀t a,bR T.D G t a→bR T.D gF t a):=by
 unfold UQ at aw;split at aw
 ·cases aw;exact⟨⟨rfl,rfl⟩,G,0,h.pq,by simp,rfl,.inl ⟨rfl,rfl⟩,fun _ _ h=>h⟩
 ·rename_i v;have vd:=h.ok.ty v;have cl:=h9 h.ok v;have jI:=q8 h (e9 af);split at aw
  ·rename_i t lo hi cY;obtain⟨hse,aw⟩:=eF aw;obtain⟨il,J4⟩:=a6 hse;rw[cY]at vd;have hP:∀{xs nl tok},R v=.slice xs nl tok→(∀x∈xs,bR T.D G te x)∧(nl=true→xs=[]):=by
    intro xs nl tok ah;rw[ah]at vd;cases vd with
    |bN _ _ _ _ _ _ _ _ aK ad=>exact⟨fun x hm=>mH il (ad x hm),aK⟩
   split at aw
   ·rename_i l ak;cases aw;obtain⟨ep,dV,e1,aN⟩:=Hz ak;have fq:l.Sublist W.live:=by rw[e1,aN];exact EH (.refl _) (EI ..)
    have hm:(v,sz,e)∈W.live:=by rw[e1];simp
    have p1:=h.aE.live _ hm;have aQ:=h.aE.gw;rw[e1]at aQ;have aQ:=rH.1 aQ;rcases p1 with gx|⟨_,xs,nl,g,gx,az,ao,aX,bD⟩|⟨aV,_⟩
    ·refine⟨⟨rfl,rfl⟩,G,0,(h.vo fq).pq,?_,jI,.inl ⟨gx,rfl⟩,fun _ _ h=>h⟩;rw[cl,gx];rfl
    ·obtain⟨hd,kD⟩:=hP gx;refine⟨⟨rfl,rfl⟩,G,xs.length,(h.vo fq).pq,by rw[cl,gx];rfl,jI,.inr ⟨xs,nl,g,gx,rfl,az,ao,aX,bD,hd,kD,fun p ae aB=> ?_⟩,fun _ _ h=>h⟩
     have nx:dv (R v)=some g:=by rw[gx];rfl
     have ae:p∈ep++dV:=by rw[←aN];exact ae
     rcases fu.1 ae with ae|ae
     ·exact aQ.2.2 p ae (v,sz,e) (cz ..) g aB nx
     ·exact(kk.1 aQ.2.1).1 p ae g nx aB
    ·simp only at aV;rw[fY]at aV;cases aV
   ·split at aw
    ·rename_i u off o6 g6;cases aw;obtain⟨fW,anG⟩:=Tq g6;obtain⟨i,c,ts,t0,sw,od,de,cy,e5,oz,kA⟩:=ar1 h anG;obtain⟨hk,cs,bF,f1,f2,f3,f4⟩:=h.aE.cells _ fW;simp only at f1 f3;rw[de]at f1;injection f1 with f1 _;subst f1;obtain⟨hc,fJ⟩:=h.aE.obj cy (by rw[e5];intro _ _ _ aF;cases aF)
     rw[e5]at fJ;obtain⟨cU,bu,bC,c4⟩:=fJ;rw[f2]at bu;injection bu with bu;subst bu;have ik:=c4 off _ _ oz f3;have amq:¬l4 R W.cA i off:=by rw[o6];rintro⟨p,ae,_⟩;cases ae
     have gU:=ik.2 _ _ _ _ _ rfl amq;simp only[al.ai]at gU;have hu:u<W.aD:=(h.aT.cells _ fW).1;rcases gU with gU|⟨_,xs,nl,g,gU,bg,bl,bS⟩|⟨aV,_⟩
     ·refine⟨⟨rfl,rfl⟩,G,0,h.Iw aC hu de cy kA o6 (fun _ _=>Iff.rfl) (fun g cm=>absurd rfl cm),?_,jI,.inl ⟨gU,rfl⟩,fun _ _ h=>h⟩;rw[cl,gU];rfl
     ·have jm:=acU (G:=G) bl;have B8:=Ly aC h bl kA;obtain⟨hd,kD⟩:=hP gU;refine⟨⟨rfl,rfl⟩,fun x=>if x=g then .no else G x,xs.length,h.Iw aC hu de cy kA o6 jm (fun x cm=> ?_),by rw[cl,gU];rfl,jI,.inr ⟨xs,nl,g,gU,rfl,bg,by simp,B8,bS,fun x ad=>(hd x ad).mono fun y c aI=>(jm y c).2 aI,kD,fun p ae aB=> ?_⟩,
       fun t a aA=>aA.mono fun y c aI=>(jm y c).2 aI⟩
      ·by_cases ad:x=g
       ·subst ad;exact⟨bl,by simp⟩
       ·simp[ad]at cm
      ·have au:=((h.aE.live p ae).tok aB).1;rw[bl]at au;cases au
     ·rw[fY]at aV;cases aV
    ·cases aw
  ·cases aw
 ·cases aw
end Go.bO.cK
end
section
namespace Go.bO.cK
variable {dm:Bool} {T:bG} [e8 T] {E:dS} {R aL:cj} {G G':Nat→cR} {W:aH} {V:aO} {se:bE} {env:aP}
theorem aW.VG (h:aW T E R G W V) {v:Nat} {l:bn} (ar:v<W.aD) (af:l.bh W.aD=true) (ak:lenOf (R v)=l.ai R):aW T E R G {W with cC:=(v,l)::W.cC} V:=
 ⟨⟨h.ok.ty,h.ok.top,h.ok.ge,h.ok.da,fun p ae=>(cu.1 ae).elim (fun e=>by subst e;exact ak) (h.ok.cC p),h.ok.b2⟩,
  ⟨h.aT.ge,h.aT.da,fun p ae=>(cu.1 ae).elim (fun e=>by subst e;exact⟨ar,af⟩) (h.aT.cC p),h.aT.cells,h.aT.live,h.aT.cA,h.aT.wr,h.aT.b2,h.aT.op,h.aT.lt,h.aT.gz,h.aT.rd⟩,
  ⟨h.aE.wf,h.aE.cells,h.aE.live,h.aE.gw,h.aE.wr,h.aE.M,h.aE.out,h.aE.n,h.aE.g,h.aE.f',h.aE.cls,h.aE.tok,h.aE.fQ,h.aE.hi,h.aE.lt,h.aE.rd⟩⟩
theorem Ja {sz:Nat}:∀{ys:List ab},(∀y∈ys,y.cells.length=sz∧y.cells.all ab.one=true)→nt sz ys=true
 | [],_=>rfl
 |y::ys,h=>by
  obtain⟨U,aa⟩:=h y (cz ..);show(bif pR sz y then nt sz ys else false)=true
  rw[IN U aa];exact Ja fun z a'=>h z (cv _ a')
theorem afM {D:Nat→bb} {t:bb} {lo hi:Nat} {a:ab} (h:bR D G (.bN t lo hi) a):∃xs nl tok,a=.slice xs nl tok∧lo≤xs.length∧xs.length≤hi∧(nl=true→xs=[])∧∀x∈xs,bR D G t x:=by
 cases h with
 |bN _ _ _ xs nl tok U aa au ba=>exact⟨xs,nl,tok,rfl,U,aa,au,ba⟩
theorem afY (h:aW T E R G W V) {te:bb} {sz:Nat} {l:List al} (ak:l.all (fun s=>oA T W s te&&(oY T W sz s).isSome)=true):nt sz (aM R l)=true∧∀y∈aM R l,bR T.D G te y:=by
 have key:∀y∈aM R l,(y.cells.length=sz∧y.cells.all ab.one=true)∧bR T.D G te y:=by
  intro y aI;rw[hO]at aI;obtain⟨s,hs,rfl⟩:=eO.1 aI;obtain⟨U,aa⟩:=a6 (dI.1 ak s hs);obtain⟨r,ah⟩:=yN.1 aa;obtain⟨az,ao,aX,_⟩:=yE h ah;exact⟨⟨by rw[az,hp,ao],aX⟩,xK h.ok U⟩
 exact⟨Ja fun y aI=>(key y aI).1,fun y aI=>(key y aI).2⟩
theorem Mo (h:aW T E R G W V) {te:bb} {sz:Nat} {s:al} {m:bn} (hs:vP T W sz te s=some m):
  ∃ys nl tok,s.ai R=.slice ys nl tok∧m.ai R=(ys.length:Nat)∧(s.bh W.aD=true→m.bh W.aD=true)∧nt sz ys=true∧∀y∈ys,bR T.D G te y:=by
 unfold vP at hs;split at hs
 ·rename_i v;have ar:=h.ok.ty v;have cl:=h9 h.ok v;split at hs
  ·rename_i t lo hi aw;obtain⟨af,aa⟩:=eF hs;cases aa;obtain⟨U,aa⟩:=a6 af;rw[aw]at ar;obtain⟨xs,nl,tok,ah,_,_,_,ad⟩:=afM ar;exact⟨xs,nl,tok,ah,by rw[cl,ah];rfl,fun ej=>q8 h (e9 ej),Ja fun y aI=>wU U (ad y aI),fun y aI=>mH aa (ad y aI)⟩
  ·cases hs
 ·obtain⟨af,aa⟩:=eF hs;cases aa;obtain⟨az,ao⟩:=afY h af;exact⟨_,_,_,rfl,by rw[wZ,hp,hl];rfl,fun _=>rfl,az,ao⟩
 ·obtain⟨af,aa⟩:=eF hs;cases aa;obtain⟨az,ao⟩:=afY h af;rw[uP]at az ao;exact⟨_,_,_,rfl,by rw[wZ,hl];rfl,fun _=>rfl,az,ao⟩
 ·cases hs
theorem ae4 {e:Nat} (h:gr e=false):gJ e=0:=by
 unfold gr at h;rw[fT]at h;have h:=of_decide_eq_false h;show e/1000000000=0;omega
theorem alJ {jP mF:al} (Xq:jP.bh W.aD=true) (Xr:mF.bh W.aD=true) (h:aW T E R G W V) (he:ch R W.aD se env) {t:bb} {sz e lo hi:Nat} {a:ab} {l:bn} {d:Option Nat} {run:bI→bj} (fY:gr e=false) (aw:bR T.D G (.bN t lo hi) a) (ak:mK T E G V (mI R e) sz e a)
  (aQ:∀p∈W.live,∀g,dv a=some g→dv (R p.1)≠some g) (af:l.bh W.aD=true) (cl:lenOf a=l.ai R) (aj:gQ 1 [a,jP.ai R,mF.ai R]) (ah:∀k,run k=k (dc d (.val a) env) V):
  dt dm T E R W (match cW W (.own t sz e lo hi)with
   |(.x v,W)=>iL se d (.x v) (mz T (CP t) 1 [.x v,jP,mF] {W with cC:=(v,l)::W.cC})
   |_=>none) run:=by
 cases ax:cW W (.own t sz e lo hi)with
 |mk s W1=>
  obtain⟨rfl,ij,az,ao,aX⟩:=Ff h (by rw[xZ,fY];exact aw) ak (by rw[ae4 fY];exact fv _) aQ ax
  subst ij;simp only;have ej:=jC (hA W.aD) (l:=l.t) af;have U:=ao.VG (v:=W.aD) (l:=l) (gT _) ej (by rw[aX,cl];exact jK az.dq af)
  obtain⟨bg,bl⟩:=U.mz (b:=CP t) (k:=1) (as:=[.x W.aD,jP,mF]) (by
   simp only[cls,al.bh,gp (gT W.aD),k1 (hA W.aD) jP Xq,k1 (hA W.aD) mF Xr,aH.push,Nat.add_eq];rfl) (.inl (by
   simp only[aM,al.ai,aX];rw[←qo az.dq jP Xq,←qo az.dq mF Xr];exact aj))
  exact ke he ⟨fp (hA _) (Nat.le_of_eq bl.symm),az.dq⟩ bg (a:=a) (by simp only[al.ai,aX]) (by rw[bl];exact gp (gT _)) ah
theorem R5 (xs:List ab):j9 xs 0=xs.length:=by rw[m3,fy]
theorem ajb (aC:gj E) (h:aW T E R G W V) (he:ch R W.aD se env) {te:bb} {sz e bytes:Nat} {x y:aG} {jP mF:al} {d:Option Nat} (e1:bV x env=.val (jP.ai R)) (bf:jP.bh W.aD=true) (aN:bV y env=.val (mF.ai R)) (c2:mF.bh W.aD=true):
  dt dm T E R W (No T te sz e bytes jP mF d se W) (fun k=>xN sz e bytes x y d k env V):=by
 ·unfold No;split
  ·rename_i m n W1 hm aK;obtain⟨ys,arn,au4,cQ,eR,ev,jz,k2⟩:=Mo h hm;refine kd fun aj=> ?_;obtain⟨cp,b_⟩:=a6 aj;obtain⟨En,fY⟩:=a6 cp;have fY:gr e=false:=by simpa using fY
   obtain⟨⟨DX,HR⟩,gF,bB,t1,t2,t3,t4,t5⟩:=auV aC h fY bf aK;have zi:m.bh W1.aD=true:=by rw[DX];exact ev c2
   have zl:n.bh W1.aD=true:=by rw[DX];exact t3
   have kQ:bB+ys.length≤rk bytes:=by
    have:=dE t1.ok b_;simp only[fe,hV,wY,t2,eR,hU]at this;omega
   have w8:ch R W1.aD se env:=by rw[DX];exact he
   have lu:∀z∈ys,bR T.D gF te z:=fun z a'=>t5 _ _ (k2 z a');have F2:Mn sz V (bV y env)=some ys:=by
    rw[aN,cQ,afX];show(bif nt sz ys then some ys else none)=_
    rw[jz];rfl
   have b6:∀k,xN sz e bytes x y d k env V=(bif tF ys then Eh sz e bytes d k env V (.val (jP.ai R))else Ni ys sz e bytes d k env V (.val (jP.ai R))):=by
    intro k;show Np sz e bytes x d k env V (Mn sz V (bV y env))=_;rw[F2];show(bif tF ys then Eh sz e bytes d k env V (bV x env)else Ih ys sz e bytes d k env V (bV x env))=_
    rw[e1,VW]
   have QF:(n.add m).ai R=((bB+ys.length:Nat):Int):=by rw[wY,t2,eR];omega
   have fin:∀{V':aO} {a:ab} (_:aW T E R gF W1 V') (_:bR T.D gF (.bN te 0 (rk bytes)) a) (_:mK T E gF V' (mI R e) sz e a) (_:∀p∈W1.live,∀g,dv a=some g→dv (R p.1)≠some g) (_:lenOf a=((bB+ys.length:Nat):Int)) (_:gQ 1 [a,jP.ai R,mF.ai R])
     (_:∀k,xN sz e bytes x y d k env V=k (dc d (.val a) env) V'),dt dm T E R W (match cW W1 (.own te sz e 0 (rk bytes))with
     |(.x v,W)=>iL se d (.x v) (mz T (CP te) 1 [.x v,jP,mF] {W with cC:=(v,n.add m)::W.cC})
     |_=>none) (fun k=>xN sz e bytes x y d k env V):=by
    intro V' a s1 aw ak aQ cl jZ ah outs ay bo k aq;exact alJ (by rw[DX];exact bf) (by rw[DX];exact c2) s1 w8 fY aw ak aQ (EO zl zi) (by rw[cl,QF]) jZ ah outs ay bo k fun p ae aL G' bP Ee bg bl bS=>aq p ae aL G' bP Ee ((dk.same DX).trans bg) bl bS
   have Gn:∀p∈W1.live,∀g,dv (R p.1)=some g→g<V.n:=by
    intro p ae g av;exact((t1.aE.live p ae).tok av).2.2.1
   have avT:∀g aro,V.at g=.cF aro sz e→True:=fun _ _ _=>trivial;rcases t4 with⟨aA,sg⟩|⟨xs,nl,g,aA,sg,bu,bC,c4,eb,iX,k8,lR⟩
   ·subst sg;cases zA:tF ys with
    |true=>
     have F6:=Kh.1 zA;subst F6;refine fin t1 (a:=.slice [] true none) (.bN _ _ _ _ _ _ (fv _) (fv _) (fun _=>rfl) (fun z a'=>by cases a')) (.inl rfl) (fun p ae g av=>by cases av) rfl (by rw[aA,cQ];exact .app [] [] ..) fun k=> ?_
     rw[b6,zA,aA];rfl
    |false=>
     have s1:aW T E R gF W1 (V.new (.cF ys.length sz e)):=t1.grow (og:=none) (hA _) rfl (fun z a' _=>by rw[kp,if_neg (by omega)]) (fun g av=>by cases av) (fun g av=>by cases av) HR
     refine fin s1 (a:=.slice ys false (some V.n)) (.bN _ _ _ _ _ _ (fv _) (by omega) (fun aF=>by cases aF) lu) (.inr (.inl ⟨fY,ys,false,V.n,rfl,by rw[kp,if_pos rfl],t1.aE.out _ (b1 _),.inl t1.aE.n,gT _⟩)) (fun p ae g av aB=> ?_) (by simp[lenOf]) (by rw[aA,cQ];exact .app [] ys ..) fun k=> ?_
     ·simp only[dv,bk]at av;have:=Gn p ae g aB;omega
     ·rw[b6,zA,aA];show Ei ys sz e bytes d k env V=_;unfold Ei;rw[R5,Dz (by omega)];rfl
   ·subst sg;cases zA:tF ys with
    |true=>
     have F6:=Kh.1 zA;subst F6;refine fin t1 (a:=.slice xs nl (some g)) (.bN _ _ _ _ _ _ (fv _) (by simpa using kQ) k8 iX) (.inr (.inl ⟨fY,xs,nl,g,rfl,bu,bC,c4,eb⟩)) (fun p ae eH av aB=> ?_) (by simp[lenOf]) (by rw[aA,cQ];have:=gQ.app xs [] nl arn nl (some g) au4 (some g);rw[wB]at this;exact this) fun k=> ?_
     ·simp only[dv,bk]at av;subst av;exact lR p ae aB
     ·rw[b6,zA,aA];show(bif Nd sz e bytes (V.at g)then _ else _)=_
      rw[bu];show(bif(Nat.beq sz sz&&(Nat.beq e e&&oC xs.length bytes))then _ else _)=_
      rw[gY,gY,Dz (by simpa using kQ)]
      simp
    |false=>
     have s1:aW T E R gF W1 ((V.put g .dead).new (.cF (xs.length+ys.length) sz e)):=t1.grow (og:=some g) (hA _) rfl (fun z a' cm=>by
       rw[kp,if_neg (by show¬V.n=z;omega),fS,if_neg (fun e=>cm (by rw[e]))]) (fun eH eW=>by cases eW;exact⟨bC,c4,lR⟩) (fun eH eW he=>by cases eW;rw[bu]at he;rcases he with he|⟨_,_,_,_,_,he⟩|he<;>cases he) HR
     refine fin s1 (a:=.slice (xs++ys) false (some V.n)) (.bN _ _ _ _ _ _ (fv _) (by simpa using kQ) (fun aF=>by cases aF) (fun z a'=>(fu.1 a').elim (iX z) (lu z)))
      (.inr (.inl ⟨fY,xs++ys,false,V.n,rfl,by rw[kp,iz];exact if_pos rfl,t1.aE.out _ (b1 _),.inl t1.aE.n,gT _⟩)) (fun p ae eH av aB=> ?_) (by simp[lenOf]) (by rw[aA,cQ];exact .app xs ys ..) fun k=> ?_
     ·simp only[dv,bk]at av;have:=Gn p ae eH aB;omega
     ·rw[b6,zA,aA];show Ig g xs ys sz e bytes d k env V (V.at g)=_;rw[bu];show(bif(Nat.beq sz sz&&(Nat.beq e e&&(Nat.ble V.g g&&oC (Nat.add xs.length (j9 ys 0)) bytes)))then _ else _)=_
      rw[gY,gY,rB aC t1 c4,R5];have ah:=Dz kQ;have jY:Nat.add xs.length ys.length=xs.length+ys.length:=rfl;rw[jY,ah];simp;rfl
  ·exact db
theorem adw (h:aW T E R G W V) {u:Nat} (hu:u<W.aD):∃aL,dk R W aL (GQ T W u)∧aW T E aL G (GQ T W u) V:=by
 unfold GQ;split
 ·rename_i c af;obtain⟨i,hi,av⟩:=tf h af;split
  ·rename_i W1 ay;obtain⟨aL,az,ao,_⟩:=adv h hu hi av ay;exact⟨aL,az,ao⟩
  ·exact⟨R,.refl _ _,h⟩
 ·exact⟨R,.refl _ _,h⟩
theorem arS (h:aW T E R G W V) {sz e:Nat} {te:bb} {s:al}:∃aL,dk R W aL (Lt T W sz e te s)∧aW T E aL G (Lt T W sz e te s) V:=by
 unfold Lt;split
 ·split
  ·rename_i u off _ ay;exact adw h (h.aT.cells _ (Tq ay).1).1
  ·exact⟨R,.refl _ _,h⟩
 ·exact⟨R,.refl _ _,h⟩
theorem LX {dW:cj} {cS:aH} {r:dG} {run:bI→bj} (ak:dk R W dW cS) (ah:dt dm T E dW cS r run):dt dm T E R W r run:=fun outs ay bo k aq=>ah outs ay bo k fun p ae aL G' bP V' U aa au=>aq p ae aL G' bP V' (ak.trans U) aa au
theorem aja (aC:gj E) (h:aW T E R G W V) (he:ch R W.aD se env) {te:bb} {sz e bytes:Nat} {x y:aG} {d:Option Nat}:dt dm T E R W (Nn T te sz e bytes x y d se W) (fun k=>xN sz e bytes x y d k env V):=by
 unfold Nn;split
 ·rename_i jP mF ad aI;obtain⟨e1,bf⟩:=fM he ad;obtain⟨aN,c2⟩:=fM he aI;obtain⟨aL,az,ao⟩:=arS h (sz:=sz) (e:=e) (te:=te) (s:=jP);obtain⟨bd,bx⟩:=az.ai bf;obtain⟨bT,dp⟩:=az.ai c2;exact LX az (ajb aC ao (he.later az) (by rw[bd];exact e1) bx (by rw[bT];exact aN) dp)
 ·exact db
theorem ajN (h:aW T E R G W V) (he:ch R W.aD se env) {sz e n:Nat} {z:ab} {br:List (Nat × aG)} {d:Option Nat}:dt dm T E R W (NK T sz e n z br d se W) (fun k=>Ll true sz e n z br d k env V):=by
 unfold NK;split
 ·rename_i l ak;obtain⟨f1,f2⟩:=Me h he ak (Ob _ _ _);have h8:aM R (List.replicate n (al.k z))=List.replicate n z:=by rw[hO,Oy];rfl
  rw[h8]at f1;split
  ·rename_i m hm;obtain⟨ys,nl,tok,cQ,eR,ev,jz,k2⟩:=Mo h hm;simp only[al.ai,ab.slice.injEq]at cQ;obtain⟨rfl,rfl,rfl⟩:=cQ;have cl:(aM R l).length=n:=by
    have:∀{br:List (Nat × aG)} {xs r:List ab},k0 sz xs br env=some r→r.length=xs.length:=by
     intro br
     induction br with
     |nil=>intro xs r aF;simp only[k0]at aF;cases aF;rfl
     |cons p br bm=>
      intro xs r aF;obtain⟨i,o⟩:=p;simp only[k0]at aF;split at aF
      ·obtain⟨_,au⟩:=eF aF;rw[bm au,I_,OT]
      ·cases aF
    rw[this f1,yM]
   cases fY:gr e with
   |true=>exact db
   |false=>
   simp only[cond_false];have s1:aW T E R G {W with rd:=none} (V.new (.cF n sz e)):=h.pq.grow (og:=none) (hA _) rfl (fun z a' _=>by rw[kp,if_neg (by omega)]) (fun g av=>by cases av) (fun g av=>by cases av) rfl
   have aw:bR T.D G (.bN (T.E e) n n) (.slice (aM R l) false (some V.n)):=.bN _ _ _ _ _ _ (by omega) (by omega) (fun aF=>by cases aF) k2
   have o':mK T E G (V.new (.cF n sz e)) (mI R e) sz e (.slice (aM R l) false (some V.n)):=.inr (.inl ⟨fY,_,false,V.n,rfl,by rw[kp,if_pos rfl,cl],h.aE.out _ (b1 _),.inl h.aE.n,gT _⟩)
   cases ax:cW {W with rd:=none} (.own (T.E e) sz e n n)with
   |mk s W1=>
    obtain⟨rfl,ij,az,ao,aX⟩:=Ff s1 (by rw[xZ,fY];exact aw) o' (by rw[ae4 fY];exact fv _) (fun p ae g av aB=>by
     simp only[dv,bk]at av;have:=((h.aE.live p ae).tok aB).2.2.1;omega) ax
    refine ke he ⟨az.n,az.dq⟩ ao (a:=.slice (aM R l) false (some V.n)) (by simp only[al.ai,aX]) (by rw[ij];exact gp (gT _)) fun k=> ?_
    show adh sz e n d k env V (k0 sz (List.replicate n z) br env)=_;rw[f1];rfl
  ·exact db
 ·exact db
end Go.bO.cK
end
section
namespace Go.bO.cK
variable {dm:Bool} {T:bG} [e8 T] {E:dS} {R aL:cj} {G G':Nat→cR} {W:aH} {V:aO} {se:bE} {env:aP}
theorem WW {sz:Nat} {t cn:bb} {a x:ab} {j:Nat} (aC:iV T sz t=true) (aA:bR T.D G t a) (aw:(iT t)[j]? =some cn) (ad:a.cells[j]? =some x):bR T.D G cn x:=by
 by_cases av:∃l,t=.agg l
 ·obtain⟨l,rfl⟩:=av;cases aA with
  |agg _ cs ak h=>exact h j cn x aw ad
 ·have e:iT t=[t]:=by cases t<;>first|rfl|exact absurd ⟨_,rfl⟩ av
  obtain⟨_,aa⟩:=a6 aC;rw[e]at aw aa;rw[EN (z6 (by simpa using aa) aA)]at ad
  cases j with
  |zero=>cases aw;cases ad;exact aA
  |succ j=>simp at aw
theorem Fb {sz:Nat}:∀{ys:List ab},(∀y∈ys,y.cells.length=sz)→(k7 ys).length=ys.length*sz
 | [],_=>by simp[k7]
 |y::ys,h=>by
  rw[BN,wx,iz,h y (cz ..),←BN,Fb fun z a'=>h z (cv _ a'),mb,pM,Nat.add_comm]
theorem Px {sz:Nat} (ae:0<sz):∀{ys:List ab} {j:Nat} {a:ab},(∀y∈ys,y.cells.length=sz)→(k7 ys)[j]? =some a→∃y,ys[j/sz]? =some y∧y.cells[j%sz]? =some a
 | [],j,a,_,h=>by simp[k7]at h
 |y::ys,j,a,ak,h=>by
  have aV:=ak y (cz ..);rw[BN,wx,←BN]at h;by_cases aU:j<sz
  ·rw[kl (by omega)]at h
   exact⟨y,by rw[Ot aU];rfl,by rw[yG aU];exact h⟩
  ·rw[km (by omega),aV]at h
   obtain⟨z,U,aa⟩:=Px ae (fun z a'=>ak z (cv _ a')) h;refine⟨z,?_,?_⟩
   ·rw[Nat.div_eq_sub_div ae (by omega),nV];exact U
   ·rw[Nat.mod_eq_sub_mod (by omega)];exact aa
theorem Ya {sz:Nat} {te:bb} {ys:List ab} (aC:iV T sz te=true) (aI:∀y∈ys,bR T.D G te y):sW T.D G te sz (k7 ys):=by
 intro j cn a aw aA;have ak:∀y∈ys,y.cells.length=sz:=fun y Rp=>(wU aC (aI y Rp)).1;rcases uv sz with aV|aV
 ·have:=(hn.1 aA).1;rw[Fb ak,aV,EK]at this;omega
 ·obtain⟨y,U,aa⟩:=Px aV ak aA;exact WW aC (aI y (lM U)) aw aa
theorem as8 {sz n:Nat} {t te:bb} {cs:List ab} (aC:iV T sz t=true) (mR:iV T sz te=true) (hs:jQ fuel t te=true) (ak:n*sz≤cs.length) (ah:sW T.D G t sz cs):sW T.D G te sz (cs.take (n*sz)):=by
 intro j cn a aw aA;have aU:j<n*sz:=by
  have:=(hn.1 aA).1;rw[nm]at this;omega
 rw[wH aU]at aA;have ae:0<sz:=by
  rcases uv sz with aV|aV
  ·rw[aV,EK]at aU;omega
  ·exact aV
 have hm:=wz j ae;have aQ:=I1 j sz;have bw:j/sz<n:=(OZ ae).2 aU;have bz:(j/sz+1)*sz≤n*sz:=l_ _ bw;rw[pM]at bz;have aB:j=j/sz*sz+j%sz:=by rw[qH];exact aQ.symm
 have cl:((cs.drop (j/sz*sz)).take sz).length=sz:=by rw[nm,nk];omega
 obtain⟨b,cp,b_⟩:=XF (T:=T) (G:=G) aC cl (fun q t2 x J6 ad=>by
  have J2:q<sz:=by rw[←cl];exact(hn.1 ad).1
  rw[wH J2,k4]at ad;refine ah (j/sz*sz+q) t2 x ?_ ad;rw[Nat.add_comm,EG,yG J2];exact J6)
 refine WW mR (mH hs cp) aw ?_;rw[b_,wH hm,k4,←aB];exact aA
theorem auk (h:aW T E R G W V) {te:bb} {sz:Nat} {s:al} {m:bn} (af:s.bh W.aD=true) (aC:iV T sz te=true) (hs:Ux T W sz te s=some m):
  ∃ys k,DJ sz V (.val (s.ai R))=some (ys,k)∧m.ai R=(k:Nat)∧m.bh W.aD=true∧ys.length=k*sz∧sW T.D G te sz ys∧∀l,s=.bN l→ys=k7 (aM R l)∧l.all (fun s=>oA T W s te&&(oY T W sz s).isSome)=true:=by
 have slice:∀{xs:List ab} {nl tok},s.ai R=.slice xs nl tok→nt sz xs=true→(∀y∈xs,bR T.D G te y)→DJ sz V (.val (s.ai R))=some (k7 xs,xs.length)∧(k7 xs).length=xs.length*sz∧sW T.D G te sz (k7 xs):=by
  intro xs nl tok he hP ad;refine⟨?_,Fb fun y aI=>(wU aC (ad y aI)).1,Ya aC ad⟩;rw[he];show(bif nt sz xs then some (k7 xs,j9 xs 0)else none)=_
  rw[hP,R5];rfl
 have g':vP T W sz te s=some m→∃ys k,DJ sz V (.val (s.ai R))=some (ys,k)∧m.ai R=(k:Nat)∧m.bh W.aD=true∧ys.length=k*sz∧sW T.D G te sz ys∧∀l,s=.bN l→ys=k7 (aM R l)∧l.all (fun s=>oA T W s te&&(oY T W sz s).isSome)=true:=by
  intro hs;obtain⟨ys,nl,tok,cQ,eR,ev,jz,k2⟩:=Mo h hs;obtain⟨bZ,cB,z3⟩:=slice cQ jz k2;refine⟨_,_,bZ,eR,ev af,cB,z3,fun l ak=> ?_⟩;subst ak;simp only[al.ai,ab.slice.injEq]at cQ;refine⟨by rw[cQ.1],?_⟩
  simp only[vP]at hs;exact(eF hs).1
 unfold Ux at hs;split at hs
 ·rename_i v;split at hs
  ·rename_i t is b ah;obtain⟨aB,aa⟩:=eF hs;cases aa;obtain⟨PX,fq⟩:=a6 aB;obtain⟨j6,_⟩:=L4 (fun aF=>by cases aF) h (e9 af) ah
   have cl:=h9 h.ok v;have jI:=q8 h (e9 af);rcases j6 with⟨xs,nl,tok,cQ,eR,_⟩|⟨B,g,n,c,cs,cQ,eR,ev,jz,k2,_⟩
   ·obtain⟨bZ,cB,z3⟩:=slice (nl:=nl) (tok:=tok) cQ (Ja fun y aI=>wU PX (eR y aI)) (fun y aI=>mH fq (eR y aI));exact⟨_,_,bZ,by rw[cl,cQ];rfl,jI,cB,z3,fun l ak=>by cases ak⟩
   ·have jk:(cs.take (n*sz)).all ab.one=true:=dI.2 fun a aA=>by
     obtain⟨j,aU⟩:=Ow.1 aA;have sa:j<n*sz:=by
      have:=(hn.1 aU).1;rw[nm]at this;omega
     have ae:0<sz:=by
      rcases uv sz with aV|aV
      ·rw[aV,EK]at sa;omega
      ·exact aV
     obtain⟨e1,aN⟩:=a6 PX;rw[hl]at e1;have e1:=b5 e1;have hm:j%sz<(iT t).length:=by rw[e1];exact wz _ ae
     rw[wH sa]at aU;exact z6 (dI.1 aN _ (l' hm)) (k2 j _ a (eU hm) aU)
    refine⟨cs.take (n*sz),n,?_,by rw[cl,cQ];rfl,jI,by rw[nm];omega,as8 PX aC fq jz k2,fun l ak=>by cases ak⟩
    simp only[al.ai];rw[cQ];have gU:i' V g=some cs:=by unfold i';rw[ev];rfl
    show @Option.rec _ (fun _=>Option (List ab × Nat)) none (fun cs=>Option.rec none (fun ys=>bif ys.all ab.one then some (ys,n)else none) (nU (iw (Nat.mul n sz)) 0 cs)) (i' V g)=_
    rw[gU];show @Option.rec _ (fun _=>Option (List ab × Nat)) none (fun ys=>bif ys.all ab.one then some (ys,n)else none) (iw (n*sz) cs)=_
    rw[AH jz];show(bif(cs.take (n*sz)).all ab.one then some (cs.take (n*sz),n)else none)=_
    rw[jk];rfl
  ·exact g' hs
 ·exact g' hs
def ahu (T:bG) (E:dS) (G:Nat→cR) (V:aO) (W:aH) (R:cj) (sz e:Nat) (a:ab) (n:Nat):Prop:=
 (a=.slice [] true none∧n=0)∨∃g cs,a=.ref g 0 n 1∧V.at g=.row sz cs∧n*sz≤cs.length∧sW T.D G (T.E (hT e)) sz cs∧Ec (mI R e) sz cs∧G g=.no∧(E.V.n≤g∨E.eT g)∧g<V.n∧∀p∈W.live,dv (R p.1)≠some g
theorem agp {v sz e aR:Nat}:∀{l r:List (Nat × Nat × Nat)},Mx v sz e l=some (aR,r)→∃ep dV,l=ep++(v,sz,aR)::dV∧r=ep++dV∧gr aR=true∧hT aR=e
 | [],r,h=>by cases h
 |p::l,r,h=>by
  unfold Mx at h;cases aj:Nat.beq v p.1&&(Nat.beq sz p.2.1&&(gr p.2.2&&Nat.beq e (hT p.2.2)))with
  |true=>
   rw[aj]at h;cases h;obtain⟨U,aa⟩:=a6 aj;obtain⟨aa,au⟩:=a6 aa;obtain⟨cb,ba⟩:=a6 au;obtain⟨a,b,c⟩:=p;have b3:=b5 U;have cI:=b5 aa;have a4:=b5 ba;simp only at b3 cI a4 cb;subst b3;subst cI;exact⟨[],l,rfl,rfl,cb,a4.symm⟩
  |false=>
   rw[aj]at h;simp only[cond_false]at h;split at h
   ·rename_i aN b4 ah;cases h;obtain⟨ep,dV,U,aa,au,ba⟩:=agp ah;exact⟨p::ep,dV,by rw[U];rfl,by rw[aa];rfl,au,ba⟩
   ·cases h
theorem N0 {v sz e aR u off:Nat}:∀{l:List (Nat × Nat × al)},AG.cellOf T W v sz e l=some (aR,u,off)→(u,off,al.x v)∈l∧rowAt T W true sz u off=some aR∧hT aR=e
 | [],h=>by cases h
 |(pA,z2,s)::r,h=>by
  have skip:AG.cellOf T W v sz e r=some (aR,u,off)→(u,off,al.x v)∈(pA,z2,s)::r∧rowAt T W true sz u off=some aR∧hT aR=e:=fun h=>let⟨a,b⟩:=N0 h;⟨cv _ a,b⟩
  cases s with
  |x w=>
   simp only[AG.cellOf]at h;cases aj:Nat.beq v w with
   |true=>
    rw[aj]at h;simp only[cond_true]at h;split at h
    ·rename_i aN he;cases aI:Nat.beq e (hT aN)with
     |true=>
      rw[aI]at h;cases h;have:=b5 aj;subst this;exact⟨cz ..,he,(b5 aI).symm⟩
     |false=>rw[aI]at h;exact skip h
    ·exact skip h
   |false=>rw[aj]at h;exact skip h
  |_=>exact skip h
theorem ae7 (e:Nat):hT e<1000000000:=wz _ (by decide)
theorem L5 {e:Nat} (h:gJ e=0):hT e=e:=by
 have h:e/1000000000=0:=h;show e%1000000000=e;omega
theorem ae3 (e:Nat):gJ (hT e)=0:=by
 have:=ae7 e;show hT e/1000000000=0;omega
theorem ajH (h:aW T E R G W V) {e u i:Nat} {l:bn} {uG:List ab} (de:R u=.ptr i 0) (f2:V.at i=.obj uG) (ak:A' W e u=some l):l.bh W.aD=true∧∃k d,gJ e=k+1∧uG[k]? =some d∧l.ai R=intOf d:=by
 unfold A' at ak;split at ak
 ·cases ak
 ·rename_i k aq;split at ak
  ·rename_i d aQ;split at ak
   ·rename_i k' c_ p7;cases ak;obtain⟨e1,bf⟩:=gP (R:=R) p7;exact⟨bf _ (h.aT.cells _ (yY aQ)).2,k,_,aq,IQ h de f2 aQ,by rw[e1];rfl⟩
   ·cases ak
  ·cases ak
theorem auU (aC:gj E) (h:aW T E R G W V) {sz e:Nat} {s:al} {n:bn} {aR:Nat} {W1:aH} (fY:gr e=true) (p0:gJ e=0) (af:s.bh W.aD=true) (aw:AG T W sz e s=some (n,aR,W1)):
  ∃aL gF m,dk R W aL W1∧W1.rd=none∧aW T E aL gF W1 V∧n.ai aL=(m:Nat)∧n.bh W1.aD=true∧ahu T E gF V W1 aL sz aR (s.ai aL) m∧gr aR=true∧hT aR=e∧gJ aR≤W1.aD∧∀t a,bR T.D G t a→bR T.D gF t a:=by
 unfold AG at aw;split at aw
 ·cases aw;exact⟨R,G,0,.same rfl,rfl,h.pq,by simp,rfl,.inl ⟨rfl,rfl⟩,fY,L5 p0,by rw[p0];exact fv _,fun _ _ h=>h⟩
 ·rename_i v;obtain⟨B',aw⟩:=eF aw;have cl:=h9 h.ok v;have jI:=q8 h (e9 af);split at aw
  ·rename_i aN l ak;cases aw;obtain⟨ep,dV,e1,aN,bL,eB⟩:=agp ak;have fq:l.Sublist W.live:=by rw[e1,aN];exact EH (.refl _) (EI ..)
   have hm:(v,sz,aR)∈W.live:=by rw[e1];simp
   have p1:=h.aE.live _ hm;have oe:=h.aT.gz _ hm;have aQ:=h.aE.gw;rw[e1]at aQ;have aQ:=rH.1 aQ;rcases p1 with gx|⟨aV,_⟩|⟨_,g,m,gx,⟨cs,az,ao,aX,bD⟩,c8,e',sr⟩
   ·refine⟨R,G,0,.same rfl,rfl,(h.vo fq).pq,?_,jI,.inl ⟨gx,rfl⟩,bL,eB,oe,fun _ _ h=>h⟩;rw[cl,gx];rfl
   ·simp only at aV;rw[bL]at aV;cases aV
   ·refine⟨R,G,m,.same rfl,rfl,(h.vo fq).pq,by rw[cl,gx];rfl,jI,.inr ⟨g,cs,gx,az,ao,aX,bD,c8,e',sr,fun p ae aB=> ?_⟩,bL,eB,oe,fun _ _ h=>h⟩
    have nx:dv (R v)=some g:=by rw[gx];rfl
    have ae:p∈ep++dV:=by rw[←aN];exact ae
    rcases fu.1 ae with ae|ae
    ·exact aQ.2.2 p ae (v,sz,aR) (cz ..) g aB nx
    ·exact(kk.1 aQ.2.1).1 p ae g nx aB
  ·split at aw
   ·rename_i aN u off o6 ik;obtain⟨fW,sj,aI⟩:=N0 ik;obtain⟨i,c,ts,t0,lo,hi,de,cy,e5,oz,kA,ra,GF⟩:=T5 h sj;have S6:=ra rfl;obtain⟨hk,cs,bF,f1,f2,f3,f4⟩:=h.aE.cells _ fW;simp only at f1 f3;rw[de]at f1;injection f1 with f1 _;subst f1;obtain⟨hc,fJ⟩:=h.aE.obj cy (by rw[e5];intro _ _ _ aF;cases aF)
    rw[e5]at fJ;obtain⟨cU,bu,bC,c4⟩:=fJ;rw[f2]at bu;injection bu with bu;subst bu;have gU:=(c4 off _ _ oz f3).2 _ _ _ _ _ rfl (GF i);simp only[al.ai]at gU;have hu:u<W.aD:=(h.aT.cells _ fW).1;split at aw
    ·rename_i bL cD zc;cases aw;have amI:∃aL,dk R W aL cD∧aW T E aL G cD V∧cD.cA=W.cA∧cD.live=W.live∧gr aR=true∧hT aR=e∧gJ aR≤cD.aD∧∀x,qw V i aN x→mI aL aR x:=by
      unfold Ww at zc;split at zc
      ·rename_i kr;cases zc;refine⟨R,.refl _ _,h,rfl,rfl,by rw[aI];exact fY,by rw[aI];exact L5 p0,by rw[ae3];exact fv _,fun x _ b aj=> ?_⟩
       rw[ae3]at aj;cases aj
      ·rename_i k aq;split at zc
       ·rename_i l ak;obtain⟨lc,k',d,az,ao,aX⟩:=ajH h de f2 ak;simp only[cW]at zc;cases zc;have ae:=h.push (t:=.gn .i64) (a:=.int .i64 (l.ai R)) (.gn _ _);have aA:=pB R W.aD (.int .i64 (l.ai R));have o':l.ai (hK R W.aD (.int .i64 (l.ai R)))=l.ai R:=(jK aA lc).symm;have abY:l.bh (W.push (.gn .i64)).aD=true:=jC (hA _) lc;have c6:(bn.at (.i W.aD)).ai (hK R W.aD (.int .i64 (l.ai R)))=l.ai R:=by simp only[yW,At.ai,gK,intOf]
        have lq:(bn.at (.i W.aD)).bh (W.push (.gn .i64)).aD=true:=Bp (gp (ps W _));have s1:=ae.h0 (f:=.ge ((bn.at (.i W.aD)).sub l)) (n1 lq abY) (by simp only[Lit.ai,eG,c6,o'];exact decide_eq_true (by omega))
        have s2:=s1.h0 (f:=.ge (l.sub (.at (.i W.aD)))) (n1 (n:=(W.push (.gn .i64)).aD) abY lq) (by simp only[Lit.ai,eG,c6,o'];exact decide_eq_true (by omega))
        have avN:=ae7 aN;have fF:gJ (Nat.add (hT aN) (Nat.mul 1000000000 (Nat.add W.aD 1)))=W.aD+1:=by
         show(hT aN+1000000000*(W.aD+1))/1000000000=W.aD+1;omega
        refine⟨_,⟨hA _,aA⟩,s2,rfl,rfl,?_,?_,by rw[fF];exact b1 _,fun x ad b aj=> ?_⟩
        ·unfold gr;rw[fT];refine decide_eq_true ?_;show 1000000≤hT aN+1000000000*(W.aD+1);omega
        ·rw[←aI];show(hT aN+1000000000*(W.aD+1))%1000000000=_;omega
        ·rw[fF]at aj;have:b=W.aD:=by omega
         subst this;rw[gK];have:=ad k' cs d az f2 ao;simp only[intOf];omega
       ·cases zc
     obtain⟨aL,bZ,cB,z3,z4,z5,AV,D1,avw⟩:=amI;have J9:=eE hu bZ.n;have ac1:aL u=.ptr i 0:=by rw[←bZ.dq u hu];exact de
     have YO:cD.cA=[]:=by rw[z3];exact o6
     have zw:aL v=R v:=(bZ.dq v (e9 af)).symm;obtain⟨b',ct⟩:(gg cD v).ai aL=lenOf (R v)∧(gg cD v).bh cD.aD=true:=⟨by rw[h9 cB.ok,zw],q8 cB (eE (e9 af) bZ.n)⟩
     rcases gU with gU|⟨aV,_⟩|⟨_,g,m,gU,⟨qM,hH,bg,bl,bS⟩,cP,eC⟩
     ·refine⟨aL,G,0,⟨bZ.n,bZ.dq⟩,rfl,cB.Iw aC J9 ac1 cy S6 YO (fun _ _=>Iff.rfl) (fun g cm=>absurd rfl cm),?_,ct,.inl ⟨by simp only[al.ai];rw[zw,gU],rfl⟩,z5,AV,D1,fun _ _ h=>h⟩
      rw[b',gU];rfl
     ·rw[kA]at aV;cases aV
     ·have jm:=acU (G:=G) cP;have B8:=Ly aC h cP S6;refine⟨aL,fun x=>if x=g then .no else G x,m,⟨bZ.n,bZ.dq⟩,rfl,cB.Iw aC J9 ac1 cy S6 YO jm (fun x cm=> ?_),by rw[b',gU];rfl,ct,
       .inr ⟨g,qM,by simp only[al.ai];rw[zw,gU],hH,bg,fun j t a aw aA=> ?_,fun j a aU aA=>avw _ (bS j a aU aA),by simp,B8,eC,fun p ae aB=> ?_⟩,z5,AV,D1,fun t a aA=>aA.mono fun y c aI=>(jm y c).2 aI⟩
      ·by_cases ad:x=g
       ·subst ad;exact⟨cP,by simp⟩
       ·simp[ad]at cm
      ·rw[AV,←aI]at aw;exact(bl j t a aw aA).mono fun y c aI=>(jm y c).2 aI
      ·have au:=((cB.aE.live p ae).tok aB).1;rw[cP]at au;cases au
    ·cases aw
   ·cases aw
 ·cases aw
theorem ajk {dM:cj} {W1:aH} {gF:Nat→cR} (h:aW T E R G W V) (U:aW T E dM gF W1 V) (t0:dk R W dM W1) {e sz:Nat} {s:al} {te:bb} {ys:List ab} (af:s.bh W.aD=true) (aA:Nv W1 e s=true) (hs:∀l,s=.bN l→ys=k7 (aM R l)∧l.all (fun s=>oA T W s te&&(oY T W sz s).isSome)=true):Ec (mI dM e) sz ys:=by
 intro j a aU P6;unfold Nv at aA;split at aA
 ·rename_i aj;intro b za;unfold A_ at aj;rw[za]at aj;cases aj
 ·rename_i b aj;obtain⟨_,uA,za,rfl⟩:=Ew (R:=dM) aj;split at aA
  ·rename_i l;obtain⟨aa,au⟩:=hs l rfl;have ak:∀y∈aM R l,y.cells.length=sz:=by
    intro y aI;rw[hO]at aI;obtain⟨s,p6,rfl⟩:=eO.1 aI;obtain⟨_,bl⟩:=a6 (dI.1 au s p6);obtain⟨r,ah⟩:=yN.1 bl;obtain⟨az,ao,_,_⟩:=yE h ah;rw[az,hp,ao]
   have ae:0<sz:=by
    rcases uv sz with aV|aV
    ·have:=(hn.1 P6).1;rw[aa,Fb ak,aV,EK]at this;omega
    ·exact aV
   rw[aa]at P6;obtain⟨y,cQ,eR⟩:=Px ae ak P6;rw[aU]at eR;rw[hO,ic]at cQ;cases tz:l[j/sz]? with
   |none=>rw[tz]at cQ;cases cQ
   |some fa=>
    rw[tz]at cQ;cases cQ;have hm:=lM tz;obtain⟨_,bl⟩:=a6 (dI.1 au fa hm);obtain⟨r,ah⟩:=yN.1 bl;obtain⟨az,ao,_,bD⟩:=yE h ah;have iI:gm fa=r:=by
     unfold oY at ah;have:=(eF ah).2;cases this;rfl
    rcases Nw U (dI.1 aA fa hm)with aF|⟨x,s1,cc,k,f,cp,b_,dh,hD⟩
    ·cases aF
    ·cases cp;rw[iI]at b_;have u0:=bD _ (IV (show cls W.aD l=true from af) hm)
     rw[az,b_]at eR;rw[b_]at u0;simp only[aM,l5,bk]at eR;rw[←eR,←(t0.ai (a6 u0).1).1,dh];intro ea dJ;rw[za]at dJ;have:uA=ea:=by omega
     subst this;simp only[yW,At.ai]at hD;exact hD
  ·cases aA
theorem alK (h:aW T E R G W V) (he:ch R W.aD se env) {t:bb} {sz e lo hi:Nat} {a:ab} {l:bn} {d:Option Nat} {run:bI→bj} (fY:gr e=true) (oe:gJ e≤W.aD) (aw:bR T.D G (.rv lo hi) a) (ak:mK T E G V (mI R e) sz e a)
  (aQ:∀p∈W.live,∀g,dv a=some g→dv (R p.1)≠some g) (af:l.bh W.aD=true) (cl:lenOf a=l.ai R) (ah:∀k,run k=k (dc d (.val a) env) V):
  dt dm T E R W (match cW W (.own t sz e lo hi)with
   |(.x v,W)=>iL se d (.x v) {W with cC:=(v,l)::W.cC}
   |_=>none) run:=by
 cases ax:cW W (.own t sz e lo hi)with
 |mk s W1=>
  obtain⟨rfl,ij,az,ao,aX⟩:=Ff h (by rw[xZ,fY];exact aw) ak oe aQ ax
  subst ij;simp only;have ej:=jC (hA W.aD) (l:=l.t) af;have U:=ao.VG (v:=W.aD) (l:=l) (gT _) ej (by rw[aX,cl];exact jK az.dq af)
  exact ke he ⟨hA _,az.dq⟩ U (a:=a) (by simp only[al.ai,aX]) (gp (gT _)) ah
theorem ai_ (aC:gj E) (h:aW T E R G W V) (he:ch R W.aD se env) {sz e bytes:Nat} {x y:aG} {jP mF:al} {d:Option Nat} (e1:bV x env=.val (jP.ai R)) (bf:jP.bh W.aD=true) (aN:bV y env=.val (mF.ai R)) (c2:mF.bh W.aD=true):
  dt dm T E R W (Nl T sz e bytes jP mF d se W) (fun k=>xO sz bytes x y d k env V):=by
 unfold Nl;split
 ·rename_i m n aR W1 hm aK;refine kd fun aj=> ?_;obtain⟨cp,b_⟩:=a6 aj;obtain⟨dh,hD⟩:=a6 cp;obtain⟨fY,p0⟩:=a6 dh;have p0:=b5 p0;obtain⟨BR,iA⟩:=a6 b_;obtain⟨ys,a7,cQ,eR,ev,jz,k2,vY⟩:=auk h c2 BR hm;obtain⟨dM,gF,bB,t0,HR,t1,t2,t3,t4,t5,t6,t7,t8⟩:=auU aC h fY p0 bf aK;obtain⟨hd,kD⟩:=t0.ai bf;obtain⟨bZ,cB⟩:=t0.ai c2;have qY:m.ai dM=(a7:Nat):=by rw[←eR];exact(jK t0.dq ev).symm
  have zi:m.bh W1.aD=true:=jC t0.n (l:=m.t) ev;have kQ:bB+a7≤rk bytes:=by
   have:=dE t1.ok iA;simp only[fe,hV,wY,t2,qY,hU]at this;omega
  have fF:Ec (mI dM aR) sz ys:=ajk (te:=T.E e) h t1 t0 c2 hD vY;have w8:=he.later t0;have QF:(n.add m).ai dM=((bB+a7:Nat):Int):=by rw[wY,t2,qY];omega
  have b6:∀k,xO sz bytes x y d k env V=(bif Nat.beq a7 0 then Ii sz bytes d k env V (.val (jP.ai dM))else Ij ys a7 sz bytes d k env V (.val (jP.ai dM))):=by
   intro k;show Nm sz bytes x d k env V (DJ sz V (bV y env))=_;rw[aN,cQ];show(bif Nat.beq a7 0 then Ii sz bytes d k env V (bV x env)else Ij ys a7 sz bytes d k env V (bV x env))=_
   rw[e1,hd]
  have fin:∀{V':aO} {a:ab} (_:aW T E dM gF W1 V') (_:bR T.D gF (.rv 0 (rk bytes)) a) (_:mK T E gF V' (mI dM aR) sz aR a) (_:∀p∈W1.live,∀g,dv a=some g→dv (dM p.1)≠some g) (_:lenOf a=((bB+a7:Nat):Int))
    (_:∀k,xO sz bytes x y d k env V=k (dc d (.val a) env) V'),dt dm T E R W (match cW W1 (.own (T.E e) sz aR 0 (rk bytes))with
    |(.x v,W)=>iL se d (.x v) {W with cC:=(v,n.add m)::W.cC}
    |_=>none) (fun k=>xO sz bytes x y d k env V):=by
   intro V' a s1 aw ak aQ cl ah;exact LX t0 (alK s1 w8 t5 t7 aw ak aQ (EO t3 zi) (by rw[cl,QF]) ah)
  have Gn:∀p∈W1.live,∀g,dv (dM p.1)=some g→g<V.n:=fun p ae g av=>((t1.aE.live p ae).tok av).2.2.1;have Zv:sW T.D gF (T.E (hT aR)) sz ys:=by rw[t6];exact fun j t a aw aA=>t8 _ _ (k2 j t a aw aA)
  rcases t4 with⟨aA,sg⟩|⟨g,cs,aA,bu,bC,c4,eb,iX,k8,lR,Yl⟩
  ·subst sg;rw[aA]at b6;cases j1:Nat.beq a7 0 with
   |true=>
    have aq:=b5 j1;subst aq;exact fin t1 (a:=.slice [] true none) (.m8 _) (.inl rfl) (fun p ae g av=>by cases av) rfl (fun k=>by rw[b6];rfl)
   |false=>
    have s1:aW T E dM gF W1 (V.new (.row sz ys)):=t1.grow (og:=none) (hA _) rfl (fun z a' _=>by rw[kp,if_neg (by omega)]) (fun g av=>by cases av) (fun g av=>by cases av) HR
    refine fin s1 (a:=.ref V.n 0 a7 1) (.rv _ _ _ a7 (fv _) (by omega)) (.inr (.inr ⟨t5,V.n,a7,rfl,⟨ys,by rw[kp,if_pos rfl],by rw[jz];exact b1 _,Zv,fF⟩,t1.aE.out _ (b1 _),.inl t1.aE.n,gT _⟩)) (fun p ae g av aB=> ?_) (by simp only[lenOf,fy]) fun k=> ?_
    ·simp only[dv,bk]at av;have:=Gn p ae g aB;omega
    ·rw[b6,j1];show(bif oC a7 bytes then GB d k env V ys a7 sz else .bad)=_
     rw[Dz (by omega)];rfl
  ·rw[aA]at b6;cases j1:Nat.beq a7 0 with
   |true=>
    have aq:=b5 j1;subst aq;refine fin t1 (a:=.ref g 0 bB 1) (.rv _ _ g bB (fv _) (by omega)) (.inr (.inr ⟨t5,g,bB,rfl,⟨cs,bu,bC,c4,eb⟩,iX,k8,lR⟩)) (fun p ae eH av aB=> ?_) (by simp only[lenOf,pN]) fun k=> ?_
    ·simp only[dv,bk]at av;subst av;exact Yl p ae aB
    ·rw[b6];show(bif RH sz (V.at g)&&oC bB bytes then k (dc d (.val (.ref g 0 bB 1)) env) V else .bad)=_
     rw[bu,Dz (by omega)]
     show(bif Nat.beq sz sz&&true then k (dc d (.val (.ref g 0 bB 1)) env) V else .bad)=_
     rw[yF];rfl
   |false=>
    have s1:aW T E dM gF W1 ((V.put g .dead).new (.row sz (cs.take (bB*sz)++ys))):=t1.grow (og:=some g) (hA _) rfl (fun z a' cm=>by
      rw[kp,if_neg (by show¬V.n=z;omega),fS,if_neg (fun e=>cm (by rw[e]))]) (fun eH eW=>by cases eW;exact⟨iX,k8,Yl⟩) (fun eH eW he=>by cases eW;rw[bu]at he;rcases he with he|⟨_,_,_,_,_,he⟩|he<;>cases he) HR
    have oq:(cs.take (bB*sz)).length=bB*sz:=by rw[nm];omega
    have pa:∀j,¬j<bB*sz→(j-bB*sz)%sz=j%sz:=fun j aU=>by
     have:j=(j-bB*sz)+bB*sz:=by omega
     rw[this,EG,By]
    have Zu:∀j (a:ab),(cs.take (bB*sz)++ys)[j]? =some a→cs[j]? =some a∨(¬j<bB*sz∧ys[j-bB*sz]? =some a):=fun j a tw=>by
     by_cases aU:j<bB*sz
     ·rw[kl (by omega),wH aU]at tw
      exact .inl tw
     ·rw[km (by omega),oq]at tw
      exact .inr ⟨aU,tw⟩
    refine fin s1 (a:=.ref V.n 0 (bB+a7) 1) (.rv _ _ _ _ (fv _) kQ) (.inr (.inr ⟨t5,V.n,bB+a7,rfl,⟨cs.take (bB*sz)++ys,by rw[kp];exact if_pos rfl,by rw[iz,oq,jz,kJ];exact b1 _,fun j t a aw tw=> ?_,fun j a aU tw=> ?_⟩,t1.aE.out _ (b1 _),.inl t1.aE.n,gT _⟩)) (fun p ae eH av aB=> ?_) (by simp only[lenOf]) fun k=> ?_
    ·rcases Zu j a tw with aF|⟨U,aF⟩
     ·exact c4 j t a aw aF
     ·exact Zv _ t a (by rw[pa j U];exact aw) aF
    ·rcases Zu j a tw with aF|⟨U,aF⟩
     ·exact eb j a aU aF
     ·exact fF _ a (by rw[pa j U];exact aU) aF
    ·simp only[dv,bk]at av;have:=Gn p ae eH aB;omega
    ·rw[b6,j1];show Nj g bB ys a7 sz bytes d k env V (V.at g)=_;rw[bu];show(bif Nat.beq sz sz&&(Nat.ble V.g g&&oC (Nat.add bB a7) bytes)then @Option.rec _ (fun _=>bj) .bad (fun g'=>GB d k env (V.put g .dead) (g'++ys) (Nat.add bB a7) sz) (iw (bB*sz) cs)else .bad)=_
     rw[yF,rB aC t1 k8,show Nat.add bB a7=bB+a7 from rfl,Dz kQ,AH bC]
     rfl
 ·exact db
theorem arR (h:aW T E R G W V) {sz e:Nat} {s:al}:∃aL,dk R W aL (Ls T W sz e s)∧aW T E aL G (Ls T W sz e s) V:=by
 unfold Ls;split
 ·split
  ·rename_i aR u off _ ay;exact adw h (h.aT.cells _ (N0 ay).1).1
  ·exact⟨R,.refl _ _,h⟩
 ·exact⟨R,.refl _ _,h⟩
theorem ai9 (aC:gj E) (h:aW T E R G W V) (he:ch R W.aD se env) {sz e bytes:Nat} {x y:aG} {d:Option Nat}:dt dm T E R W (Nk T sz e bytes x y d se W) (fun k=>xO sz bytes x y d k env V):=by
 unfold Nk;split
 ·rename_i jP mF ad aI;obtain⟨e1,bf⟩:=fM he ad;obtain⟨aN,c2⟩:=fM he aI;obtain⟨aL,az,ao⟩:=arR h (sz:=sz) (e:=e) (s:=jP);obtain⟨bd,bx⟩:=az.ai bf;obtain⟨bT,dp⟩:=az.ai c2;exact LX az (ai_ aC ao (he.later az) (by rw[bd];exact e1) bx (by rw[bT];exact aN) dp)
 ·exact db
theorem afC {sz:Nat}:∀{br:List (Nat × aG)} {xs r:List ab},k0 sz xs br env=some r→r.length=xs.length
 | [],xs,r,aF=>by simp only[k0]at aF;cases aF;rfl
 |(i,o)::br,xs,r,aF=>by
  simp only[k0]at aF;split at aF
  ·obtain⟨_,au⟩:=eF aF;rw[afC au,I_,OT]
  ·cases aF
theorem aq' (h:aW T E R G W V) (he:ch R W.aD se env) {sz e n:Nat} {z:ab} {br:List (Nat × aG)} {d:Option Nat}:dt dm T E R W (SM T sz e n z br d se W) (fun k=>Lr sz n z br d k env V):=by
 unfold SM;split
 ·rename_i l ak;obtain⟨f1,f2⟩:=Me h he ak (Ob _ _ _);have h8:aM R (List.replicate n (al.k z))=List.replicate n z:=by rw[hO,Oy];rfl
  rw[h8]at f1;split
  ·rename_i m hm;refine kd fun aj=> ?_;obtain⟨qS,BR⟩:=a6 aj;obtain⟨fY,p0⟩:=a6 qS;have p0:=b5 p0;obtain⟨ys,nl,tok,cQ,eR,ev,jz,k2⟩:=Mo h hm;simp only[al.ai,ab.slice.injEq]at cQ;obtain⟨rfl,rfl,rfl⟩:=cQ;have cl:(aM R l).length=n:=by rw[afC f1,yM]
   have am8:(k7 (aM R l)).length=n*sz:=by rw[Fb fun y aI=>(wU BR (k2 y aI)).1,cl]
   have s1:aW T E R G {W with rd:=none} (V.new (.row sz (k7 (aM R l)))):=h.pq.grow (og:=none) (hA _) rfl (fun z a' _=>by rw[kp,if_neg (by omega)]) (fun g av=>by cases av) (fun g av=>by cases av) rfl
   have o':mK T E G (V.new (.row sz (k7 (aM R l)))) (mI R e) sz e (.ref V.n 0 n 1):=.inr (.inr ⟨fY,V.n,n,rfl,⟨_,by rw[kp,if_pos rfl],by rw[am8];exact b1 _,by rw[L5 p0];exact Ya BR k2,fun j a _ _ b aj=>by rw[p0]at aj;cases aj⟩,h.aE.out _ (b1 _),.inl h.aE.n,gT _⟩)
   cases ax:cW {W with rd:=none} (.own (T.E e) sz e n n)with
   |mk s W1=>
    obtain⟨rfl,ij,az,ao,aX⟩:=Ff s1 (by rw[xZ,fY];exact .rv _ _ _ n (b1 _) (b1 _)) o' (by rw[p0];exact fv _) (fun p ae g av aB=>by
     simp only[dv,bk]at av;have:=((h.aE.live p ae).tok aB).2.2.1;omega) ax
    refine ke he ⟨az.n,az.dq⟩ ao (a:=.ref V.n 0 n 1) (by simp only[al.ai,aX]) (by rw[ij];exact gp (gT _)) fun k=> ?_
    show ads sz n d k env V (k0 sz (List.replicate n z) br env)=_;rw[f1];show(bif nt sz (aM R l)then k (dc d (.val (.ref V.n 0 n 1)) env) (V.new (.row sz (k7 (aM R l))))else .bad)=_
    rw[jz];rfl
  ·exact db
 ·exact db
theorem Jl {u sz v:Nat}:∀{l:List (Nat × List al)},E9 u sz l=some v→(11,[al.x u,.x v,.k (.int .i64 (.ofNat sz))])∈l
 | [],h=>by cases h
 |p::r,h=>by
  unfold E9 at h;split at h
  ·rename_i a b n fl he;cases he;cases aj:Nat.beq u a&&Nat.beq sz n with
   |true=>
    rw[aj]at h;cases h;obtain⟨U,aa⟩:=a6 aj;have:=b5 U;subst this;have:=b5 aa;subst this;exact cz ..
   |false=>rw[aj]at h;exact cv _ (Jl h)
  ·rename_i he;cases he;exact cv _ (Jl h)
  ·rename_i he;cases he
theorem Pk (z:ab):aM R (gm (.k z))=z.cells:=by
 unfold gm rz;cases z<;>first|rfl|exact uP R _
theorem ajs {a v:ab} {sz:Nat} (h:gQ 11 [a,v,.int .i64 (.ofNat sz)]):a=.slice [] true none∧v=.slice [] true none∨∃g n l,v=.ref g 0 n 1∧uH g 0 n 1 sz n l=some (.val a):=by
 generalize ad:[a,v,ab.int .i64 (.ofNat sz)]=x at h;cases h with
 |agm s=>simp only[wA]at ad;exact .inl ⟨ad.1,ad.2.1⟩
 |tail g n l s b aj=>
  simp only[wA,ab.int.injEq,and_true,true_and]at ad;obtain⟨rfl,rfl,hs⟩:=ad;have:sz=s:=uy hs;subst this;exact .inr ⟨g,n,l,rfl,aj⟩
theorem akp (aC:gj E) (h:aW T E R G W V) (he:ch R W.aD se env) {sz:Nat} {z:ab} {x:aG} {d:Option Nat}:dt dm T E R W (Oa T sz z x d se W) (fun k=>CV sz z x d k env V):=by
 unfold Oa;split
 ·rename_i u hu;obtain⟨e1,bf⟩:=fM he hu;split
  ·rename_i v ar;have sh:=h.ok.b2 _ (Jl ar);have ej:=h.aT.b2 _ (Jl ar);have jZ:=ajs (G4 (T:=T) (by decide) sh)
   have zw:v<W.aD:=by
    obtain⟨_,q⟩:=a6 ej;exact e9 (a6 q).1
   split
   ·rename_i t is b ah;refine kd fun aj=> ?_;obtain⟨BR,aj⟩:=a6 aj;obtain⟨cY,amt⟩:=a6 aj;obtain⟨j6,_⟩:=L4 (fun _=>aC) h zw ah;have acZ:∀nl,R u=.slice [] nl none→dt dm T E R W (iL se d (.k (.tuple [])) {W with rd:=none}) (fun k=>CV sz z x d k env V):=by
     intro nl Cd;refine ke he (.same rfl) h.pq rfl rfl fun k=> ?_;show ES sz z d k env V (bV x env)=_;rw[e1];simp only[al.ai];rw[Cd];rfl
    rcases jZ with⟨U,aa⟩|⟨g,n,l,U,aa⟩
    ·exact acZ true U
    ·simp only[al.ai]at U aa;rcases j6 with⟨xs,nl,tok,cQ,_⟩|⟨B,bC,ct,c2,cs,cQ,eR,ev,jz,k2,vY,Vs,Vt,Vu⟩
     ·rw[U]at cQ;cases cQ
     ·rw[U]at cQ;cases cQ;obtain⟨_,Qu,zo⟩:=Vu rfl;unfold uH at aa;obtain⟨Qh,aa⟩:=eF aa;obtain⟨_,zg⟩:=a6 Qh;have zg:=jf zg;have go:∀(o q c:Nat),R u=.ref g o q c→o=l*sz→q=n-l→dt dm T E R W (iL se d (.k (.tuple [])) {W with rd:=none}) (fun k=>CV sz z x d k env V):=by
       intro o q c J9 ay aB;have gH:(oJ q sz z).length=q*sz:=by unfold oJ;rw[ng,List.length_range];rfl
       have hG:o+(oJ q sz z).length≤cs.length:=by
        rw[gH,ay,aB,←kJ,OD zg];exact jz
       obtain⟨bg,bl⟩:=sZ cY;have amP:(iT t).length=sz:=by
        obtain⟨U,_⟩:=a6 BR;rw[hl]at U;exact b5 U
       have hX:z.cells.length=sz:=by rw[←Pk (R:=R),hp,bg,amP]
       have ZB:∀j,j<q*sz→(oJ q sz z)[j]? =z.cells[j%sz]? :=fun j aU=>by
        have ae:0<sz:=by
         rcases uv sz with aV|aV
         ·rw[aV,EK]at aU;omega
         ·exact aV
        have hm:j%sz<z.cells.length:=by rw[hX];exact wz _ ae
        unfold oJ;rw[ic,List.getElem?_range (by exact aU)]
        show some (z.cells.getD (j%sz) .top)=_;rw[cM,eU hm];rfl
       have pa:∀j,o≤j→(j-o)%sz=j%sz:=fun j aU=>by
        have:j=(j-o)+l*sz:=by omega
        rw[this,EG,←ay,By]
       have Q8:=zo (gi o (oJ q sz z) cs) (Ds hG) (fun j cn a aw aA=>by
        rw[vH hG,gH]at aA;by_cases aU:o≤j∧j<o+q*sz
        ·rw[if_pos aU,ZB _ (by omega),pa j aU.1]at aA
         rw[←Pk (R:=R),hO,ic]at aA;cases Rs:(gm (.k z))[j%sz]? with
         |none=>rw[Rs]at aA;cases aA
         |some s=>rw[Rs]at aA;cases aA;exact xK h.ok (bl _ s cn Rs aw)
        ·rw[if_neg aU]at aA;exact k2 j cn a aw aA) (fun j a r' aA=>by
        rw[vH hG,gH]at aA;by_cases aU:o≤j∧j<o+q*sz
        ·rw[if_pos aU,ZB _ (by omega),pa j aU.1,r']at aA
         refine Vt _ ?_;rcases Nw h amt with aj|⟨c3,dy,fl,k',n_,cp,b_,dh,hD⟩
         ·exact .inl aj
         ·refine .inr ⟨c3,cp,?_⟩;rw[←Pk (R:=R),b_]at aA;simp only[aM,l5,bk]at aA;rw[←aA,dh];exact hD
        ·rw[if_neg aU]at aA;exact vY j a r' aA)
       refine ke he (.same rfl) Q8 rfl rfl fun k=> ?_;show ES sz z d k env V (bV x env)=_;rw[e1];simp only[al.ai];rw[J9];show N' g o q sz z d k env V (V.at g)=_;rw[ev];show(bif mP (Nat.add o (Nat.mul q sz)) cs&&Nat.ble V.g g then k (dc d (.val (.tuple [])) env) (V.put g (.row sz (gi o (oJ q sz z) cs)))else .bad)=_
       rw[rB aC h Qu,BM (by rw[gH]at hG;exact hG)];rfl
      cases lX:Nat.beq l 0 with
      |true=>
       have:=b5 lX;subst this;simp only[Nat.beq,cond_true,bk,aJ.val.injEq]at aa;exact go 0 n 1 aa.symm (by rw[IF]) rfl
      |false=>
       rw[lX]at aa;simp only[cond_false]at aa;cases eP:Nat.beq n l with
       |true=>
        rw[eP]at aa;simp only[cond_true,bk,aJ.val.injEq]at aa;exact acZ false aa.symm
       |false=>
        rw[eP]at aa;simp only[cond_false]at aa;have PQ:Nat.beq (Nat.mod 1 2) 1=true:=rfl;rw[PQ]at aa;simp only[cond_true,bk,aJ.val.injEq]at aa;exact go _ _ _ aa.symm (fy _) rfl
   ·exact db
  ·exact db
 ·rename_i nl tok hu;obtain⟨e1,bf⟩:=fM he hu;refine ke he (.refl _ _) h rfl rfl fun k=> ?_;show ES sz z d k env V (bV x env)=_;rw[e1];rfl
 ·exact db
end Go.bO.cK
end
