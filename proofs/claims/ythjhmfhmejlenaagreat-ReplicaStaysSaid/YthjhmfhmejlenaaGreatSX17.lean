/-
  A WALKER OF CODE IN SMALL, part 17: maps.
-/
import Derived.Test.YthjhmfhmejlenaaGreatSX13
set_option linter.unusedSectionVars false
set_option linter.unusedVariables false
set_option linter.unusedSimpArgs false
section
namespace Go.bO.cK
variable {dm:Bool} {T:bG} [e8 T] {E:dS} {R aL:cj} {G G':Nat→cR} {W:aH} {V:aO} {se:bE} {env:aP}
theorem afI (a:dH):DF a a=true:=by cases a<;>first|rfl|exact decide_eq_true rfl
theorem afL:∀l:List dH,DG l l=true
 | []=>rfl
 |a::l=>by simp[DG,afI,afL l]
theorem apZ (k:cL):Ku k k=true:=by cases k<;>first|exact afI _|exact afL _
theorem afG {a b:dH} (h:Mg a b=true):a=b:=by
 cases a<;>cases b<;>first|rfl|(cases h;done)|(have:=pn h;subst this;rfl)
theorem VN:∀{a b:List dH},gN Mg a b=true→a=b
 | [],[],_=>rfl
 | [],_::_,h=>by cases h
 |_::_,[],h=>by cases h
 |x::a,y::b,h=>by rw[afG (a6 h).1,VN (a6 h).2]
theorem abP {a b:cL} (h:Gh a b=true):a=b:=by
 cases a<;>cases b<;>first|(cases h;done)|(rw[afG h])|(rw[VN h])
theorem RO (h:aW T E R G W V) {a7:cL} {s:al} (hs:Gf W a7 s=true):a7.is (s.ai R)=true:=by
 cases a7 with
 |one k=>exact afJ h hs
 |row l=>
  simp only[Gf]at hs;split at hs
  ·rename_i r ah;obtain⟨e1,_⟩:=AN (R:=R) ah;rw[e1];exact L0 h hs
  ·cases hs
theorem Sn {a7 abO:cL} {ko:Option cL} (h:∀k',ko=some k'→k'=abO) (he:Gh abO a7=true):vt a7 ko=true:=by
 cases ko with
 |none=>rfl
 |some k'=>
  rw[h k' rfl,abP he];exact apZ a7
theorem acy {key v:ab}:∀{es:List (ab × ab)},ky key es=some v→∃e∈es,e.2=v∧hx key e.1=true
 | [],h=>by cases h
 |e::r,h=>by
  simp only[ky]at h;cases aq:hx key e.1 with
  |true=>rw[aq]at h;cases h;exact⟨e,cz ..,rfl,aq⟩
  |false=>rw[aq]at h;obtain⟨aR,U,aa⟩:=acy h;exact⟨aR,cv _ U,aa⟩
theorem aqj (h:aW T E R G W V) {s:al} {cH:bb} {e:ab} (af:s.bh W.aD=true) (aw:bR T.D G cH e) (aq:hx (s.ai R) e=true):aW T E R G (Gk W s cH) V∧(Gk W s cH).aD=W.aD:=by
 unfold Gk;split
 ·split
  ·rename_i k lo hi _ k' l ak;obtain⟨e1,bf⟩:=gP (R:=R) ak;have jI:=bf _ af;cases aw with
   |int _ _ _ n U aa=>
    rw[e1]at aq;have aK:l.ai R=n:=by
     have aq:mh (l.ai R) n=true:=aq;rw[uM]at aq;exact eq_of_beq aq
    have bu:0≤(l.dO (kz lo)).ai R:=by rw[fe,qd,aK];omega
    have bC:0≤(l.neg.dO hi).ai R:=by rw[fe,hV,aK];omega
    exact⟨(h.h0 (f:=.ge (l.dO (kz lo))) (qL jI) (decide_eq_true bu)).h0 (f:=.ge (l.neg.dO hi)) (qL (ER jI)) (decide_eq_true bC),rfl⟩
  ·exact⟨h,rfl⟩
 ·exact⟨h,rfl⟩
theorem SF {key v:ab}:∀{es:List (ab × ab)} {e:ab × ab},e∈kV key v es→e=(key,v)∨e∈es
 | [],e,h=>by simp only[kV,iS]at h;subst h;exact .inl rfl
 |x::r,e,h=>by
  simp only[kV]at h;cases aq:hx key x.1 with
  |true=>
   rw[aq]at h;rcases cu.1 h with rfl|h
   ·exact .inl rfl
   ·exact .inr (cv _ h)
  |false=>
   rw[aq]at h;rcases cu.1 h with rfl|h
   ·exact .inr (cz ..)
   ·exact(SF h).imp id (cv _)
theorem Ve (h:aW T E R G W V) {c r:Nat} (hu:ym W c=true) (av:G r=.cls c):¬qz R W.lt r:=by
 rintro⟨p,ae,hm⟩;unfold ym at hu;rw[ae]at hu;simp only at hu;have aw:=h.ok.ty p.1;split at hu
 ·rename_i bF n cY;rw[cY,hm]at aw;cases aw with
  |map _ _ _ oc=>
   rw[av]at oc;cases oc;simp at hu
 ·cases hu
theorem aW.map (h:aW T E R G W V) {r c:Nat} {a7:cL} {t cH:bb} {ko:Option cL} {es:List (ab × ab)} (av:G r=.cls c) (aq:T.K c=.map a7 t cH) (hu:¬qz R W.lt r) (hw:E.V.n≤r∨E.eT r)
  (lW:(∀k',ko=some k'→k'=a7)∧qy es) (hr:∀e∈es,bR T.D G t e.2∧bR T.D G cH e.1) (di:W.rd=none):aW T E R G W (V.put r (.map ko es)):=by
 obtain⟨cc,b4⟩:=h.aE.wf r c av;have b4:=b4 hu;rw[aq]at b4;obtain⟨ap0,alg,dP,kb,vI⟩:=b4;have bM:∀x,x≠r→(V.put r (.map ko es)).at x=V.at x:=fun x ad=>by rw[fS,if_neg (fun e=>ad e.symm)]
 have Fx:(V.put r (.map ko es)).at r=.map ko es:=by rw[fS,if_pos rfl]
 have j5:∀g,((∃n z w,V.at g=.cF n z w)∨∃z cs,V.at g=.row z cs)→g≠r:=fun g d_ he=>by subst he;rw[dP]at d_;rcases d_ with⟨_,_,_,d_⟩|⟨_,_,d_⟩<;>cases d_
 have g6:∀{sz e x j b},V.at x≠.map ap0 alg→ki T G V sz e x j b→ki T G (V.put r (.map ko es)) sz e x j b:=by
  intro sz e x j b ad ay;exact ay.e6 (fun g av=>bM g (j5 g (ay.tok av).2.2)) (fun g av=>(ay.tok av).1) (b1 _) (fun _ _ h=>h) (fun _ aj=>s' (bM x (fun e=>ad (by rw[e];exact dP))) aj)
 refine⟨h.ok,h.aT,⟨fun x bF ad=> ?_,fun p ae=> ?_,fun p ae=> ?_,h.aE.gw,h.aE.wr,h.aE.M,h.aE.out,h.aE.n,h.aE.g,fun x ad eQ=> ?_,h.aE.cls,h.aE.tok,h.aE.fQ,⟨h.aE.hi.own,fun x bF cs ad ek gb=>h.aE.hi.ok x bF cs ad ek (by
   by_cases zy:x=r
   ·subst zy;rw[Fx]at gb;cases gb
   ·rw[bM x zy]at gb;exact gb)⟩,fun p ae=> ?_,fun p ae=>absurd ae (LS di)⟩⟩
 ·obtain⟨az,ao⟩:=h.aE.wf x bF ad;refine⟨az,fun eP=> ?_⟩;have ao:=ao eP;by_cases zy:x=r
  ·subst zy;rw[av]at ad;injection ad with ad;subst ad;rw[aq];exact⟨ko,es,Fx,lW,hr⟩
  ·cases dU:T.K bF with
   |none=>rw[dU]at ao;exact ao.elim
   |row z k n=>
    rw[dU]at ao;obtain⟨e2,bd,bx⟩:=ao;exact⟨e2,by rw[bM x zy];exact bd,bx⟩
   |map a7 t cH=>
    rw[dU]at ao;obtain⟨ko,es,bd,bx,bT⟩:=ao;exact⟨ko,es,by rw[bM x zy];exact bd,bx,bT⟩
   |obj ud=>
    rw[dU]at ao;obtain⟨cU,e1,aN,bL⟩:=ao;refine⟨cU,by rw[bM x zy];exact e1,aN,fun j t a aw aA=> ?_⟩
    obtain⟨bu,bC⟩:=bL j t a aw aA;exact⟨bu,fun cn sz e lo hi he aK=>g6 (by rw[e1];intro aF;cases aF) (bC cn sz e lo hi he aK)⟩
 ·obtain⟨x,cU,bF,az,ao,aX,bD⟩:=h.aE.cells p ae;exact⟨x,cU,bF,az,by rw[bM x (fun e=>by subst e;rw[dP]at ao;cases ao)];exact ao,aX,bD⟩
 ·have ak:=h.aE.live p ae;exact ak.e6 (fun g av=>bM g (j5 g (ak.tok av).2.2.2)) (fun g av=>(ak.tok av).1) (b1 _) (fun _ _ h=>h) (fun _ _ h=>h) (fun _ h=>h)
 ·obtain⟨az,ao⟩:=h.aE.f' x ad eQ;exact⟨by rw[bM x (fun e=>by subst e;exact hw.elim (fun hw=>by omega) eQ)];exact az,ao⟩
 ·refine(h.aE.lt p ae).e6 ⟨rfl,rfl,fun _ _=>⟨rfl,rfl⟩⟩ (b1 _) (fun x _ di=>bM x fun e=> ?_) (fun _ _ h=>h) (fun _ _ _ h=>h) (fun _ _ h=>h);rw[e,dP]at di;rcases di with ad|⟨_,_,_,_,_,ad⟩|ad<;>cases ad
theorem abH {key v:ab}:∀{es:List (ab × ab)},qy es→qy (kV key v es)
 | [],_=>by simp[kV,qy]
 |x::r,h=>by
  obtain⟨U,aa⟩:=kk.1 h;simp only[kV];cases aq:hx key x.1 with
  |true=>
   refine kk.2 ⟨fun b aj k k' n u4=> ?_,aa⟩;simp only at u4;rw[u4]at aq;generalize ad:x.1=y at aq;cases y<;>first|(cases aq;done)|skip
   rename_i ao m;have:n=m:=Jf aq;subst this;exact U b aj ao k' n ad
  |false=>
   refine kk.2 ⟨fun b aj k k' n u4=> ?_,abH aa⟩;rcases SF aj with rfl|aj
   ·simp only;intro kP;rw[u4,kP]at aq;have:mh n n=true:=by rw[uM];simp
    have aq:mh n n=false:=aq;rw[this]at aq;cases aq
   ·exact U b aj k k' n u4
theorem abG {key:ab}:∀{es:List (ab × ab)},qy es→qy (qb key es)
 | [],_=>.nil
 |x::r,h=>by
  obtain⟨U,aa⟩:=kk.1 h;simp only[qb];cases aq:hx key x.1 with
  |true=>exact aa
  |false=>exact kk.2 ⟨fun b aj=>U b (KV aj),abG aa⟩
theorem Gu (h:aW T E R G W V) {v c:Nat} {n:Bool} (aw:W.df v=.map c n) {a7:cL} {t cH:bb} (aq:T.K c=.map a7 t cH) (hu:ym W c=true):R v=.map none∨∃r ko es,R v=.map (some r)∧G r=.cls c∧V.at r=.map ko es∧((∀k',ko=some k'→k'=a7)∧qy es)∧∀e∈es,bR T.D G t e.2∧bR T.D G cH e.1:=by
 have ar:=h.ok.ty v;rw[aw]at ar;generalize R v=a at ar;cases ar with
 |qf _=>exact .inl rfl
 |map _ _ r av=>
  obtain⟨_,b4⟩:=h.aE.wf r c av;have b4:=b4 (Ve h hu av);rw[aq]at b4;obtain⟨ko,es,dP,kb,vI⟩:=b4;exact .inr ⟨r,ko,es,rfl,av,dP,kb,vI⟩
theorem aqL {a b:IntKind} (h:ow a=ow b):a=b:=by cases a<;>cases b<;>first|rfl|(exact absurd h (by decide))
theorem rD.fw {R:cj} {V:aO} {v:Nat} {k:IntKind} {n:Int} {a b:ab} (h:rD R V v k n a) (b0:rD R V v k n b):a=b:=by
 rcases h with⟨U,aa⟩|⟨m,ko,es,U,_,aa,au⟩<;>rcases b0 with⟨az,ao⟩|⟨eI,ko',es',az,_,ao,aX⟩
 ·rw[aa,ao]
 ·rw[U]at az;cases az
 ·rw[U]at az;cases az
 ·rw[U]at az;cases az;rw[aa]at ao;cases ao;rw[←au,aX]
theorem rD.agree {R aL:cj} {V:aO} {v:Nat} {k:IntKind} {n:Int} {a:ab} (h:rD R V v k n a) (ar:R v=aL v):rD aL V v k n a:=by
 unfold rD at h⊢;rw[←ar];exact h
theorem acA (h:aW T E R G W V) (he:ch R W.aD se env) {a7:cL} {zero:ab} {ok:Bool} {x i:aG} {d:Option Nat}:dt dm T E R W (K0 T a7 zero ok x i d se W) (fun k=>vA a7 zero ok x i d k env V):=by
 unfold K0;split
 ·rename_i v key ad hi;obtain⟨e1,bf⟩:=fM he ad;obtain⟨aN,c2⟩:=fM he hi;refine kd fun kP=> ?_;have FJ:=RO h kP;split
  ·rename_i c n aw;split
   ·rename_i kx t cH aq;refine kd fun a'=> ?_;obtain⟨bZ,cB⟩:=a6 a';obtain⟨cB,hu⟩:=a6 cB;have Ka:bR T.D G t zero:=th cB;have am9:∃a b,bR T.D G t a∧(b=true→∃e,bR T.D G cH e∧hx (key.ai R) e=true)∧(b=false→a=zero)∧(zero=.map none→∀k n,key.ai R=.int k n→rD R V v k n a)∧∀k,vA a7 zero ok x i d k env V=k (dc d (.val (bif ok then .tuple [a,.bool b]else a)) env) V:=by
     have b6:∀k,vA a7 zero ok x i d k env V=KY a7 zero ok (key.ai R) d k env V (.val (R v)):=by
      intro k;show Sx a7 zero ok x d k env V (bV i env)=_;rw[aN];show(bif a7.is (key.ai R)then KY a7 zero ok (key.ai R) d k env V (bV x env)else .bad)=_
      rw[FJ,e1];rfl
     rcases Gu h aw aq hu with hm|⟨r,ko,es,bd,bx,bT,dp,g9⟩
     ·refine⟨zero,false,Ka,(fun aF=>by cases aF),fun _=>rfl,fun a' _ _ _=>.inl ⟨hm,a'⟩,fun k=> ?_⟩
      rw[b6,hm];cases ok<;>rfl
     ·have Zg:=Sn dp.1 bZ;cases ax:ky (key.ai R) es with
      |none=>
       refine⟨zero,false,Ka,(fun aF=>by cases aF),fun _=>rfl,fun a' k n u4=>.inr ⟨r,ko,es,bd,(h.aE.wf r c bx).1,bT,by rw[←u4,ax,a'];rfl⟩,fun k=> ?_⟩
       rw[b6,bd];show KZ a7 zero ok (key.ai R) d k env V (V.at r)=_;rw[bT];show(bif vt a7 ko then k (dc d (.val (Gt zero ok (ky (key.ai R) es))) env) V else .bad)=_
       rw[Zg,ax];cases ok<;>rfl
      |some w=>
       obtain⟨e,bg,bl,bS⟩:=acy ax;refine⟨w,true,bl▸(g9 e bg).1,fun _=>⟨e.1,(g9 e bg).2,bS⟩,(fun aF=>by cases aF),fun a' k n u4=>.inr ⟨r,ko,es,bd,(h.aE.wf r c bx).1,bT,by rw[←u4,ax];rfl⟩,fun k=> ?_⟩
       rw[b6,bd];show KZ a7 zero ok (key.ai R) d k env V (V.at r)=_;rw[bT];show(bif vt a7 ko then k (dc d (.val (Gt zero ok (ky (key.ai R) es))) env) V else .bad)=_
       rw[Zg,ax];cases ok<;>rfl
    obtain⟨a,b,aA,kP,aoF,JY,b6⟩:=am9;split
    ·rename_i k l tB;obtain⟨de,cy,e5⟩:ok=false∧zero=.map none∧gD key=some (k,l):=by
      unfold aci at tB;split at tB
      ·exact⟨rfl,rfl,tB⟩
      ·cases tB
     subst de;obtain⟨i1,i2⟩:=gP (R:=R) e5;have Ze:=JY cy k _ i1;split
     ·rename_i fa hs;have Q1:=h.aT.rd _ (Ma hs);have di:a=fa.ai R:=by
       rcases h.aE.rd _ (Ma hs)with⟨bw,_⟩|⟨k',e1,aN⟩
       ·have bw:ow k<1000000000:=bw;have:1000000000≤ow k:=by cases k<;>decide
        omega
       ·have:=aqL (show ow k=ow k' from e1)
        subst this;exact Ze.fw aN
      exact ke he (.refl _ _) h di.symm Q1.2.2 b6
     ·cases ax:cW W t with
      |mk s W1=>
       obtain⟨dM,az,ao,aX,bD⟩:=mQ t h aA ax;have bu:=(jK az.dq (i2 _ c2)).symm;have bC:l.bh W1.aD=true:=jC az.n (i2 _ c2);exact ke he (W':= {W1 with rd:=some (v,ow k,l,s)}) ⟨az.n,az.dq⟩ (ao.Ul (p:=(v,ow k,l,s)) ⟨eE (e9 bf) az.n,bC,bD⟩ (.inr ⟨k,rfl,by
        show rD dM V v k (l.ai dM) (s.ai dM);rw[bu,aX];exact Ze.agree (az.dq v (e9 bf))⟩)) aX bD b6
    cases ax:cW W t with
    |mk s W1=>
     obtain⟨dM,az,ao,aX,bD⟩:=mQ t h aA ax;cases ok with
     |false=>
      simp only;exact ke he az ao aX bD b6
     |true=>
      simp only;split
      ·cases av:cW W1 .bool with
       |mk bs cD=>
        obtain⟨dQ,b',ct,jr,sA⟩:=mQ .bool ao (.bool b) av;obtain⟨et,eY⟩:=b'.ai bD;exact ke he (az.trans b') ct (by simp only[al.ai,aM,et,aX,jr,cond_true]) (by simp only[al.bh,cls,eY,sA];rfl) b6
      ·intro outs ay bo k aq;cases ay;show bo (vA a7 zero true x i d k env V);rw[b6];cases b with
       |false=>
        rw[aoF rfl];exact aq _ (cv _ (cz ..)) R G _ V (.refl _ _) h (he.set d (x:=.val (.eN [.k zero,.k (.bool false)])) rfl rfl)
       |true=>
        obtain⟨e,bg,bl⟩:=kP rfl;obtain⟨bd,bx⟩:=az.ai c2;obtain⟨cc,b4⟩:=aqj ao bx bg (by rw[bd];exact bl)
        have ak:dk R W dM (Gk W1 key cH):=⟨by rw[b4];exact az.n,az.dq⟩
        exact aq _ (cz ..) dM G _ V ak cc ((he.later ak).set d (x:=.val (.eN [s,.k (.bool true)])) (by simp only[cZ,al.ai,aM,aX,cond_true]) (by show(s.bh _&&(true&&true))=true;rw[b4,bD];rfl))
   ·exact db
  ·exact db
 ·exact db
theorem acH (h:aW T E R G W V) {a7:cL} {s:al} {t:bb × bb} (hm:K7 T W a7 s=some t):∃r c kx ko es,s.ai R=.map (some r)∧G r=.cls c∧T.K c=.map kx t.1 t.2∧Gh kx a7=true∧V.at r=.map ko es∧((∀k',ko=some k'→k'=kx)∧qy es)∧(∀e∈es,bR T.D G t.1 e.2∧bR T.D G t.2 e.1)∧(E.V.n≤r∨E.eT r)∧¬qz R W.lt r:=by
 unfold K7 at hm;split at hm
 ·rename_i v;split at hm
  ·rename_i c af;obtain⟨hw,hm⟩:=eF hm;split at hm
   ·rename_i kx cn Cv aq;obtain⟨dU,aa⟩:=eF hm;obtain⟨dU,hu⟩:=a6 dU;cases aa;unfold CH at af;split at af
    ·rename_i bF n aw;obtain⟨aK,aa⟩:=eF af;cases aa;have nB:=pr h.ok aK;rcases Gu h aw aq hu with hm|⟨r,ko,es,bd,bx,bT,dp,g9⟩
     ·rw[hm]at nB;cases nB
     ·exact⟨r,c,kx,ko,es,bd,bx,aq,dU,bT,dp,g9,xB h (Sr aq) hw (by rw[bd];rfl) bx,Ve h hu bx⟩
    ·cases af
   ·cases hm
  ·cases hm
 ·cases hm
theorem abE (k:IntKind) (n:Int):hx (.int k n) (.int k n)=true:=by simp[hx,Bo,uM]
theorem acz (k:IntKind) (n:Int) (a:ab):∀es:List (ab × ab),ky (.int k n) (kV (.int k n) a es)=some a
 | []=>by simp only[kV,ky,abE,cond_true]
 |e::r=>by
  simp only[kV];cases he:hx (.int k n) e.1 with
  |true=>simp only[cond_true,ky,abE]
  |false=>simp only[cond_false,ky,he];exact acz k n a r
theorem aqK {V:aO} (h:aW T E R G {W with rd:=none} V) {t:bb} {m key a:al} {r:Nat} {ko:Option cL} {es:List (ab × ab)} (bg:m.ai R=.map (some r)) (bf:m.bh W.aD=true) (c2:key.bh W.aD=true) (fU:a.bh W.aD=true)
  (bM:V.at r=.map ko (kV (key.ai R) (a.ai R) es)) (ah:r<V.n):aW T E R G {W with rd:=Sp t m key a} V:=by
 unfold Sp;split
 ·rename_i v _ _ k l aq;obtain⟨e1,aN⟩:=gP (R:=R) aq;refine h.Ul (p:=(v,ow k,l,a)) ⟨e9 bf,aN _ c2,fU⟩ (.inr ⟨k,rfl,.inr ⟨r,ko,_,bg,ah,bM,?_⟩⟩);rw[e1,acz];rfl
 ·exact h
theorem aq8 (aC:gj E) (h:aW T E R G W V) (he:ch R W.aD se env) {a7:cL} {x i v:aG} {d:Option Nat}:dt dm T E R W (SL T a7 x i v d se W) (fun k=>Lq a7 x i v d k env V):=by
 unfold SL;split
 ·rename_i m key a ad hi ar;obtain⟨e1,bf⟩:=fM he ad;obtain⟨aN,c2⟩:=fM he hi;obtain⟨bL,fU⟩:=fM he ar;split
  ·rename_i t aw;obtain⟨r,c,kx,ko,es,bg,bl,bS,cP,eC,iM,Du,xU,TN⟩:=acH h aw;refine kd fun aj=> ?_;obtain⟨cp,b_⟩:=a6 aj;obtain⟨b_,dh⟩:=a6 b_;have FJ:=RO h cp;have cY:=xK h.ok b_;have anq:=xK h.ok dh;have bQ:=abP cP;refine nO (.same rfl) (aqK (h.pq.map (ko:=some a7) (es:=kV (key.ai R) (a.ai R) es) bl bS TN xU ⟨(fun k' ek=>by cases ek;exact bQ.symm),abH iM.2⟩ (fun e hm=>(SF hm).elim (fun h=>by rw[h];exact⟨cY,anq⟩) (Du e)) rfl) bg bf c2 fU (by rw[fS,if_pos rfl]) (h.aE.wf r c bl).1) (he.set d (e:=.val .top) trivial rfl) fun k=> ?_
   show SJ a7 x i d k env V (bV v env)=_;rw[bL];show SI a7 (a.ai R) x d k env V (bV i env)=_;rw[aN];show(bif a7.is (key.ai R)then SH a7 (key.ai R) (a.ai R) d k env V (bV x env)else .bad)=_
   rw[FJ,e1,bg];show SK a7 r (key.ai R) (a.ai R) d k env V (V.at r)=_;rw[eC];show(bif vt a7 ko&&Nat.ble V.g r then _ else _)=_
   rw[Sn iM.1 cP,rB aC h xU];rfl
  ·exact db
 ·exact db
theorem aqR (aC:gj E) (h:aW T E R G W V) (he:ch R W.aD se env) {a7:cL} {x i:aG} {d:Option Nat}:dt dm T E R W (Sw T a7 x i d se W) (fun k=>Lp a7 x i d k env V):=by
 unfold Sw;split
 ·rename_i m key ad hi;obtain⟨e1,bf⟩:=fM he ad;obtain⟨aN,c2⟩:=fM he hi;split
  ·rename_i t aw;obtain⟨r,c,kx,ko,es,bg,bl,bS,cP,eC,iM,Du,xU,TN⟩:=acH h aw;refine kd fun aj=> ?_;have FJ:=RO h aj;refine ke he (.same rfl) (h.pq.map (ko:=ko) (es:=qb (key.ai R) es) bl bS TN xU ⟨iM.1,abG iM.2⟩ (fun e hm=>Du e (KV hm)) rfl) (a:=.tuple []) rfl rfl fun k=> ?_;show St a7 x d k env V (bV i env)=_;rw[aN];show(bif a7.is (key.ai R)then Su a7 (key.ai R) d k env V (bV x env)else .bad)=_
   rw[FJ,e1,bg];show Sv a7 r (key.ai R) d k env V (V.at r)=_;rw[eC];show(bif vt a7 ko&&Nat.ble V.g r then _ else _)=_
   rw[Sn iM.1 cP,rB aC h xU];rfl
  ·exact db
 ·exact db
theorem acD (h:aW T E R G W V) (he:ch R W.aD se env) {x:aG} {d:Option Nat}:dt dm T E R W (K3 T x d se W) (fun k=>z7 x d k env V):=by
 unfold K3;split
 ·rename_i v ad;obtain⟨e1,bf⟩:=fM he ad;split
  ·rename_i c n aw;split
   ·rename_i a7 t cH aq;refine kd fun hu=> ?_;have b6:∃m:Nat,∀k,z7 x d k env V=k (dc d (.val (.int .i64 m)) env) V:=by
     rcases Gu h aw aq hu with hm|⟨r,ko,es,bd,bx,bT,dp,g9⟩
     ·refine⟨0,fun k=> ?_⟩;show K2 d k env V (bV x env)=_;rw[e1];simp only[al.ai,hm];rfl
     ·refine⟨Gm es 0,fun k=> ?_⟩;show K2 d k env V (bV x env)=_;rw[e1];simp only[al.ai,bd];show SA d k env V (V.at r)=_;rw[bT];rfl
    obtain⟨m,ah⟩:=b6;cases ax:cW W (.gn .i64)with
    |mk s W1=>
     obtain⟨dM,az,ao,aX,bD⟩:=mQ (.gn .i64) h (.gn .i64 (m:Int)) ax;exact ke he az ao aX bD ah
   ·exact db
  ·exact db
 ·exact db
theorem akl (aC:gj E) (h:aW T E R G W V) (he:ch R W.aD se env) {x:aG} {d:Option Nat}:dt dm T E R W (clearS T x d se W) (fun k=>Lm x d k env V):=by
 unfold clearS;split
 ·rename_i v ad;obtain⟨e1,bf⟩:=fM he ad;split
  ·rename_i c af;refine kd fun hw=> ?_;obtain⟨hw,hu⟩:=a6 hw;split
   ·rename_i a7 t cH aq;unfold CH at af;split at af
    ·rename_i bF n aw;obtain⟨aK,aa⟩:=eF af;cases aa;have nB:=pr h.ok aK;rcases Gu h aw aq hu with hm|⟨r,ko,es,bd,bx,bT,dp,g9⟩
     ·rw[hm]at nB;cases nB
     ·have pe:=xB h (Sr aq) hw (by rw[bd];rfl) bx
      refine ke he (.same rfl) (h.pq.map (ko:=none) (es:=[]) bx aq (Ve h hu bx) pe ⟨(fun k' ek=>by cases ek),.nil⟩ (fun e hm=>by cases hm) rfl) (a:=.tuple []) rfl rfl fun k=> ?_
      show N9 d k env V (bV x env)=_;rw[e1];simp only[al.ai,bd];show N_ r d k env V (V.at r)=_;rw[bT];show(bif Nat.ble V.g r then _ else _)=_
      rw[rB aC h pe];rfl
    ·cases af
   ·exact db
  ·exact db
 ·exact db
theorem aW.start (h:aW T E R G W V) (bw:W.lt=none) {V':aO} {rr:Option Nat} {p:Nat × Nat × Option (al × al)} (aK:V'.n=V.n+1) (av:V'.g=V.g) (bM:∀x,x<V.n→rr≠some x→V'.at x=V.at x)
  (ah:∀r,rr=some r→(∃ko es,V.at r=.map ko es)∧(E.V.n≤r∨E.eT r)∧qz (hK R W.aD (.ptr V.n 0)) (some p) r∧∀cs,V'.at r≠.obj cs)
  (ae:yq T E (hK R W.aD (.ptr V.n 0)) G V' p) (pb:p.1<W.aD+1) (pc:p.2.1<W.aD+1) (anY:p.2.2=none):aW T E (hK R W.aD (.ptr V.n 0)) G {W.push .any with wr:=W.aD::W.wr,lt:=some p,rd:=none} V':=by
 have aV:=h.push (t:=.any) (a:=.ptr V.n 0) (.any _);have lX:(W.push .any).lt=none:=bw;have ne:∀x o,V.at x=o→(∀ko es,o≠.map ko es)→rr≠some x:=by
  intro x o ad ay he;obtain⟨⟨ko,es,hm⟩,_⟩:=ah x he;rw[hm]at ad;exact ay ko es ad.symm
 have r9:∀g,g<V.n→((∃n z w,V.at g=.cF n z w)∨∃z cs,V.at g=.row z cs)→V'.at g=V.at g:=fun g bw av=>by
  rcases av with⟨n,z,w,av⟩|⟨z,cs,av⟩<;>exact bM g bw (ne g _ av (by intro _ _ aF;cases aF))
 have g6:∀{sz e x j b},V'.at x=V.at x→ki T G V sz e x j b→ki T G V' sz e x j b:=by
  intro sz e x j b ad ay;exact ay.e6 (fun g av=>r9 g (ay.tok av).2.1 (ay.tok av).2.2) (fun g av=>(ay.tok av).1) (by omega) (fun _ _ h=>h) (fun _ aj=>s' ad aj)
 refine⟨⟨aV.ok.ty,aV.ok.top,aV.ok.ge,aV.ok.da,aV.ok.cC,aV.ok.b2⟩,⟨aV.aT.ge,aV.aT.da,aV.aT.cC,aV.aT.cells,aV.aT.live,aV.aT.cA,fun v ar=> ?_,aV.aT.b2,aV.aT.op,fun q aB=> ?_,aV.aT.gz,fun q aB=>by cases aB⟩,
  ⟨fun i c hi=> ?_,fun q aB=> ?_,fun q aB=> ?_,aV.aE.gw,fun v ar i hi=> ?_,aV.aE.M,fun x ad=> ?_,?_,by rw[av];exact aV.aE.g,fun x ad eQ=> ?_,aV.aE.cls,aV.aE.tok,fun g i j e_=> ?_,⟨aV.aE.hi.own,fun i c cs U aa au=> ?_⟩,fun q aB=> ?_,fun q aB=>by cases aB⟩⟩
 ·rcases cu.1 ar with rfl|ar
  ·exact gT _
  ·exact aV.aT.wr v ar
 ·cases aB;exact⟨pb,pc,fun q aB=>by rw[anY]at aB;cases aB⟩
 ·obtain⟨az,ao⟩:=aV.aE.wf i c hi;refine⟨by omega,fun eP=> ?_⟩
  have xj:rr≠some i:=fun e=>eP (ah i e).2.2.1;have ao:=ao (KK lX);have gb:=bM i az xj;cases dU:T.K c with
  |none=>rw[dU]at ao;exact ao.elim
  |row z k n=>
   rw[dU]at ao;obtain⟨e2,bd,bx⟩:=ao;exact⟨e2,by rw[gb];exact bd,bx⟩
  |map a7 t cH=>
   rw[dU]at ao;obtain⟨ko,es,bd,bx⟩:=ao;exact⟨ko,es,by rw[gb];exact bd,bx⟩
  |obj ud=>
   rw[dU]at ao;obtain⟨cU,e1,aN,bL⟩:=ao;refine⟨cU,by rw[gb];exact e1,aN,fun j t a aw aA=> ?_⟩
   obtain⟨bu,bC⟩:=bL j t a aw aA;exact⟨bu,fun cn sz e lo hi he aK=>g6 gb (bC cn sz e lo hi he aK)⟩
 ·obtain⟨x,cU,bF,az,ao,aX,bD⟩:=aV.aE.cells q aB;have ad:=(aV.aE.wf x bF bD).1;exact⟨x,cU,bF,az,by rw[bM x ad (ne x _ ao (by intro _ _ aF;cases aF))];exact ao,aX,bD⟩
 ·have ak:=aV.aE.live q aB;exact ak.e6 (fun g av=>r9 g (ak.tok av).2.2.1 (ak.tok av).2.2.2) (fun g av=>(ak.tok av).1) (by omega) (fun _ _ h=>h) (fun _ _ h=>h) (fun _ h=>h)
 ·rcases cu.1 ar with rfl|ar
  ·rw[gK]at hi;cases hi;exact .inl h.aE.n
  ·exact aV.aE.wr v ar i hi
 ·exact aV.aE.out x (by omega)
 ·have:=aV.aE.n;omega
 ·obtain⟨az,ao⟩:=aV.aE.f' x ad eQ;have J_:=eE ad aV.aE.n;refine⟨?_,ao⟩;rw[bM x J_ (fun e=>(ah x e).2.1.elim (fun aF=>by omega) eQ)];exact az
 ·have:=aV.aE.fQ g i j e_;omega
 ·have ad:=(aV.aE.wf i c U).1;refine aV.aE.hi.ok i c cs U aa ?_;by_cases xj:rr=some i
  ·exact absurd au ((ah i xj).2.2.2 cs)
  ·rw[bM i ad xj]at au;exact au
 ·cases aB;exact ae
theorem aeE (h:aW T E R G W V) (he:ch R W.aD se env) (bw:W.lt=none) {x:aG} {d:Option Nat} (ad:bV x env=.val (.map none)):dt dm T E R W (LQ d se W) (fun k=>CW x d k env V):=by
 unfold LQ;simp only[cW];have hs:=h.start bw (V':=V.new .q5) (rr:=none) (p:=(W.aD,W.aD,none)) rfl rfl (fun x ad _=>by rw[kp,if_neg (by omega)]) (fun r ah=>by cases ah)
  (.inr ⟨V.n,gK _ _ _,gK _ _ _,rfl,by rw[kp,if_pos rfl],h.aE.out _ (b1 _),gT _⟩) (gT _) (gT _) rfl
 have ak:dk R W (hK R W.aD (.ptr V.n 0)) {W.push .any with wr:=W.aD::W.wr,lt:=some (W.aD,W.aD,none),rd:=none}:=⟨hA _,pB _ _ _⟩;refine nO ak hs ((he.later ak).set d (x:=.val (.x W.aD)) (e:=.val (.ptr V.n 0)) (by simp only[cZ,al.ai,gK]) (gp (gT _))) fun k=> ?_
 show LP d k env V (bV x env)=_;rw[ad];rfl
theorem asH (aC:gj E) (h:aW T E R G W V) (he:ch R W.aD se env) (bw:W.lt=none) {x:aG} {v:Nat} {d:Option Nat} (ad:bV x env=.val (R v)) (ar:v<W.aD):dt dm T E R W (TQ T v d se W) (fun k=>CW x d k env V):=by
 unfold TQ;split
 ·rename_i c af;refine kd fun hw=> ?_;split
  ·rename_i a7 t cH aq;simp only[cW];unfold CH at af;split at af
   ·rename_i bF n aw;obtain⟨aK,aa⟩:=eF af;cases aa;have nB:=pr h.ok aK;rcases Gu h aw aq (by unfold ym;rw[bw])with hm|⟨r,ko,es,bd,bx,bT,dp,g9⟩
    ·rw[hm]at nB;cases nB
    ·have pe:=xB h (Sr aq) hw (by rw[bd];rfl) bx
     have zt:=(h.aE.wf r c bx).1;have w6:((V.put r .eL).new (.iter r ko es es none)).n=V.n+1:=rfl;have Fx:((V.put r .eL).new (.iter r ko es es none)).at r=.eL:=by rw[kp,if_neg (by show¬V.n=r;omega),fS,if_pos rfl]
     have mT:((V.put r .eL).new (.iter r ko es es none)).at V.n=.iter r ko es es none:=by rw[kp];exact if_pos rfl
     have Zy:hK R W.aD (.ptr V.n 0) v=.map (some r):=by rw[←pB R W.aD (.ptr V.n 0) v ar];exact bd
     have hs:=h.start bw (V':=(V.put r .eL).new (.iter r ko es es none)) (rr:=some r) (p:=(v,W.aD,none)) rfl rfl (fun x ad cm=>by rw[kp,if_neg (by show¬V.n=x;omega),fS,if_neg (fun e=>cm (by rw[e]))])
      (fun fl iI=>by cases iI;exact⟨⟨ko,es,bT⟩,pe,⟨_,rfl,Zy⟩,fun cs aF=>by rw[Fx]at aF;cases aF⟩)
      (.inl ⟨r,V.n,ko,es,es,none,c,a7,t,cH,Zy,gK _ _ _,⟨bx,aq,Fx,mT,h.aE.out _ (b1 _),gT _,dp,g9,⟨fun e he=>he,b1 _⟩,pe,pO zt⟩,fun q aB=>by cases aB⟩) (pO ar) (gT _) rfl
     have ak:dk R W (hK R W.aD (.ptr V.n 0)) {W.push .any with wr:=W.aD::W.wr,lt:=some (v,W.aD,none),rd:=none}:=⟨hA _,pB _ _ _⟩;refine nO ak hs ((he.later ak).set d (x:=.val (.x W.aD)) (e:=.val (.ptr V.n 0)) (by simp only[cZ,al.ai,gK]) (gp (gT _))) fun k=> ?_
     show LP d k env V (bV x env)=_;rw[ad,bd];show TP r d k env V (V.at r)=_;rw[bT];show(bif Nat.ble V.g r then _ else _)=_
     rw[rB aC h pe];rfl
   ·cases af
  ·exact db
 ·exact db
theorem asI (aC:gj E) (h:aW T E R G W V) (he:ch R W.aD se env) {x:aG} {d:Option Nat}:dt dm T E R W (TR T x d se W) (fun k=>CW x d k env V):=by
 unfold TR;split
 ·rename_i ad;obtain⟨e1,_⟩:=fM he ad;split
  ·rename_i bw;exact aeE h he bw e1
  ·exact db
 ·rename_i v ad;obtain⟨e1,bf⟩:=fM he ad;have ar:v<W.aD:=e9 bf;unfold aeF;split
  ·rename_i bw;split
   ·rename_i c n aw;refine He h bf fun W' az ao aX=> ?_;have iG:ch R W'.aD se env:=by rw[aX];exact he
    split
    ·rename_i JW;cases aj:(Lit.nl v true).ai R with
     |true=>
      refine aeE ao iG JW ?_;rw[e1];have cY:=h.ok.ty v;rw[aw]at cY;have aj:(pj (R v)==true)=true:=aj;have aj:=eq_of_beq aj;simp only[al.ai];generalize R v=a at cY aj;cases cY with
      |map _ _ _ _=>cases aj
      |qf _=>rfl
     |false=>exact asH aC ao iG JW (by rw[e1];rfl) (by rw[aX];exact ar)
    ·exact db
   ·exact db
  ·exact db
 ·exact db
theorem ak1 (h:aW T E R G W V) (he:ch R W.aD se env) {x:aG} {d:Option Nat}:dt dm T E R W (O7 x d se W) (fun k=>Ln x d k env V):=by
 unfold O7;split
 ·rename_i v0 w Uq vS u bw ad;obtain⟨e1,bf⟩:=fM he ad;refine kd fun hu=> ?_;have:=b5 hu;subst this;have ej:=(h.aT.lt _ bw).2.2 _ rfl;rcases h.aE.lt _ bw with⟨m,i,ko,es,left,cur,c,a7,t,cH,bg,bl,bS,cP⟩|⟨i,_,_,hH,_⟩
  ·obtain⟨cc,b4⟩:=cP _ rfl;refine ke he (.refl _ _) h (a:=.tuple [Uq.ai R,vS.ai R]) rfl (by show(Uq.bh W.aD&&(vS.bh W.aD&&true))=true;rw[ej.1,ej.2];rfl) fun k=> ?_
   show O5 d k env V (bV x env)=_;rw[e1];simp only at bl;simp only[al.ai];rw[bl];show O6 d k env V (V.at i)=_;rw[bS.hi,cc];show(bif(Uq.ai R).plain then _ else _)=_
   rw[b4];rfl
  ·cases hH
 ·exact db
end Go.bO.cK
end
section
namespace Go.bO.cK
variable {dm:Bool} {T:bG} [e8 T] {E:dS} {R aL:cj} {G G':Nat→cR} {W:aH} {V:aO} {se:bE} {env:aP}
def kj (dm:Bool) (T:bG) (call:Nat→dw) (sc:iy):Prop:=
 ∀(E:dS) (R:cj) (G:Nat→cR) (W:aH) (V:aO) (f:Nat) (as:List al) (outs:List (al × aH)),gj E→aW T E R G W V→cls W.aD as=true→sc f as W=some outs→
  eS.iO dm (call f (aM R as) V) fun a V'=>∃s W' aL G',(s,W')∈outs∧dk R W aL W'∧aW T E aL G' W' V'∧s.ai aL=a∧s.bh W'.aD=true
theorem acw {se:bE} {d:Option Nat} {s:al} {W':aH}:∀{o:List (al × aH)},(s,W')∈o→(jN d (.val s) se,W')∈Tp se d o
 | [],h=>by cases h
 |(t,W1)::l,h=>by
  rcases cu.1 h with h|h
  ·cases h;exact cz ..
  ·exact cv _ (acw h)
theorem WO {call:Nat→dw} {sc:iy} (gy:kj dm T call sc) (aC:gj E) (h:aW T E R G W V) (he:ch R W.aD se env) {f:Nat} {as:List al} {d:Option Nat} {run:bI→bj} (af:cls W.aD as=true)
  (b6:∀k,run k=x0 d k env (call f (aM R as) V)):dt dm T E R W (Bm sc f as d se W) run:=by
 unfold Bm;split
 ·rename_i o ay;intro outs oo bo k aq;cases oo;rw[b6];refine asZ (gy E R G W V f as o aC h af ay) ?_;rintro a V' ⟨s,W',aL,G',ao,aX,bD,c8,e'⟩;exact aq _ (acw ao) aL G' (dc d (.val a) env) V' aX bD ((he.later aX).set d (by simp only[cZ,c8]) e')
 ·exact db
theorem xw {v n m:Nat} (h:v<n) (bz:n≤m):v<m:=eE h bz
mutual
theorem Uo:∀(a:ab),a.plain=true→a.shut=a
 |.slice xs nl none,h=>by simp only[ab.shut];rw[Ar xs h]
 |.slice _ _ (some _),h=>by cases h
 |.agg cs,h=>by simp only[ab.shut];rw[Ar cs h]
 |.tuple cs,h=>by simp only[ab.shut];rw[Ar cs h]
 |.iface t v,h=>by simp only[ab.shut];rw[Uo v h]
 |.dK cs,h=>by simp only[ab.shut];rw[Ar cs h]
 |.func fn f c,h=>by
  simp only[ab.plain,dF]at h;simp only[ab.shut];rw[Ar f h.1,Ar c h.2]
 |.top,_=>rfl
 |.bool _,_=>rfl
 |.int _ _,_=>rfl
 |.str _,_=>rfl
 |.cX,_=>rfl
 |.ptr _ _,_=>rfl
 |.raw _ _,_=>rfl
 |.ref _ _ _ _,_=>rfl
 |.dC,_=>rfl
 |.fj,_=>rfl
 |.map _,_=>rfl
theorem Ar:∀(l:List ab),gV l=true→hI l=l
 | [],_=>rfl
 |a::l,h=>by
  simp only[gV,dF]at h;simp only[hI];rw[Uo a h.1,Ar l h.2]
end
theorem x7 (l:List ab):hI l=l.map ab.shut:=by
 induction l with
 |nil=>rfl
 |cons a l bm=>simp only[hI,gM,bm]
theorem asg (l:List ab):gV l=l.all ab.plain:=by
 induction l with
 |nil=>rfl
 |cons a l bm=>simp only[gV,rG,bm]
theorem Tz {l:List ab} (h:∀a∈l,a.plain=true):gV l=true:=by rw[asg];exact dI.2 h
theorem afF (a:ab):lenOf a.shut=lenOf a:=by
 cases a<;>first|rfl|(simp only[ab.shut,lenOf,x7,ng])
theorem shut_int (a:ab):intOf a.shut=intOf a:=by cases a<;>rfl
theorem shut_bool (a:ab):Ex a.shut=Ex a:=by cases a<;>rfl
theorem atv (a:ab):pj a.shut=pj a:=by cases a<;>rfl
theorem LG {D:Nat→bb} {K:Nat→pD} {E':Nat→bb} {P':Nat→List ab→Prop} {Q':aH→Nat→List al→Bool} {R':aH→Nat→List al→List Lit} {S':Nat→Bool} {U':Nat→List Nat}:∀{f:Nat} {t:bb} {a:ab},vF f ⟨D,K,E',P',Q',R',S',U'⟩ t=true→bR D G t a→bR D G' t a.shut∧a.shut.plain=true
 |0,t,a,h,_=>by cases h
 |f+1,t,a,h,aA=>by
  unfold vF at h;split at h
  ·cases aA;exact⟨.bool _,rfl⟩
  ·cases aA with|str s _ U=>exact⟨.str _ _ U,rfl⟩
  ·cases aA with|int _ _ _ n U aa=>exact⟨.int _ _ _ _ U aa,rfl⟩
  ·cases aA;exact⟨.gn _ _,rfl⟩
  ·rename_i t0 sw od;cases aA with
   |bN _ _ _ xs nl tok U aa au ba=>
    have key:∀y∈hI xs,bR D G' t0 y∧y.plain=true:=by
     intro y aI;rw[x7]at aI;obtain⟨x,ad,rfl⟩:=eO.1 aI;exact LG h (ba x ad)
    refine⟨.bN _ _ _ _ _ _ (by rw[x7,ng];exact U) (by rw[x7,ng];exact aa) (fun aK=>by rw[au aK];rfl) fun y aI=>(key y aI).1,?_⟩
    exact Tz fun y aI=>(key y aI).2
  ·rename_i m2;cases aA with
   |agg _ cs ak ad=>
    have key:∀(j:Nat) t c,m2[j]? =some t→(hI cs)[j]? =some c→bR D G' t c∧c.plain=true:=by
     intro j t c aw af;rw[x7,ic]at af;cases r1:cs[j]? with
     |none=>rw[r1]at af;cases af
     |some b=>rw[r1]at af;cases af;exact LG (dI.1 h t (lM aw)) (ad j t b aw r1)
    have gx:m2.length=(hI cs).length:=by rw[x7,ng];exact ak
    refine⟨.agg _ _ gx fun j t c aw af=>(key j t c aw af).1,Tz fun y aI=> ?_⟩;obtain⟨j,aU⟩:=s6 aI;obtain⟨u,hu⟩:=rX gx aU;exact(key j u y hu aU).2
  ·rename_i m2;cases aA with
   |eN _ cs ak ad=>
    have key:∀(j:Nat) t c,m2[j]? =some t→(hI cs)[j]? =some c→bR D G' t c∧c.plain=true:=by
     intro j t c aw af;rw[x7,ic]at af;cases r1:cs[j]? with
     |none=>rw[r1]at af;cases af
     |some b=>rw[r1]at af;cases af;exact LG (dI.1 h t (lM aw)) (ad j t b aw r1)
    have gx:m2.length=(hI cs).length:=by rw[x7,ng];exact ak
    refine⟨.eN _ _ gx fun j t c aw af=>(key j t c aw af).1,Tz fun y aI=> ?_⟩;obtain⟨j,aU⟩:=s6 aI;obtain⟨u,hu⟩:=rX gx aU;exact(key j u y hu aU).2
  ·cases h
theorem aej {f:Nat} {t:bb} {a:ab} (h:vF f T t=true) (aA:bR T.D G t a):bR T.D G' t a.shut∧a.shut.plain=true:=LG (K:=T.K) (E':=T.E) (P':=T.bA) (Q':=T.pw) (R':=T.xi) (S':=T.kept) (U':=T.fix) h aA
def kY (n:Nat) (R:cj):cj:=fun v=>if v<n then R v else(R v).shut
theorem asA (n:Nat) (R:cj):hy n R (kY n R):=fun v ar=>by simp only[kY,if_pos ar]
theorem asB (n:Nat) (R:cj) (a:At):a.ai (kY n R)=a.ai R:=by
 cases a with
 |i v=>
  simp only[At.ai,kY];split
  ·rfl
  ·exact shut_int _
 |l v=>
  simp only[At.ai,kY];split
  ·rfl
  ·exact afF _
theorem aez (n:Nat) (R:cj):∀l,ho (kY n R) l=ho R l
 | []=>rfl
 |(k,a)::r=>by simp only[ho,asB,aez n R r]
theorem G8 (n:Nat) (R:cj) (l:bn):l.ai (kY n R)=l.ai R:=by simp only[bn.ai,aez]
theorem aeA (n:Nat) (R:cj) (f:Lit):f.ai (kY n R)=f.ai R:=by
 cases f with
 |c b=>rfl
 |bv v p=>
  simp only[Lit.ai,kY];split
  ·rfl
  ·rw[shut_bool]
 |nl v p=>
  simp only[Lit.ai,kY];split
  ·rfl
  ·rw[atv]
 |ge l=>simp only[Lit.ai,G8]
 |eq l p=>simp only[Lit.ai,G8]
theorem arq {D:Nat→bb} {t:bb} {a:ab} (h:SX t=true) (aA:bR D G t a):a.shut=a∧a.plain=true:=by
 cases aA<;>first|(cases h;done)|exact⟨rfl,rfl⟩
theorem Ty {n:Nat} (cY:∀v,bR T.D G (W.df v) (R v)):∀{f:Nat} {s:al},Dn T W n f s=true→s.ai (kY n R)=(s.ai R).shut∧(s.ai (kY n R)).plain=true
 |0,s,h=>by cases h
 |f+1,s,h=>by
  have Sj:∀{l:List al},l.all (Dn T W n f)=true→aM (kY n R) l=hI (aM R l)∧gV (aM (kY n R) l)=true:=by
   intro l ak
   induction l with
   |nil=>exact⟨rfl,rfl⟩
   |cons x l bm=>
    simp only[rG,dF]at ak;obtain⟨U,aa⟩:=Ty cY ak.1;obtain⟨au,ba⟩:=bm ak.2;exact⟨by simp only[aM,hI,U,au],by simp only[aM,gV,aa,ba];rfl⟩
  unfold Dn at h;split at h
  ·exact⟨(Uo _ h).symm,h⟩
  ·exact⟨by simp only[al.ai,G8];rfl,rfl⟩
  ·exact⟨by simp only[al.ai,aeA];rfl,rfl⟩
  ·rename_i v;obtain⟨U,aa⟩:=a6 h;obtain⟨_,eY⟩:=aej (G':=G) U (cY v);simp only[al.ai,kY];by_cases ar:v<n
   ·rw[if_pos ar];have:SX (W.df v)=true:=by
     simp only[g1]at aa;rcases aa with aa|aa
     ·have:=jf aa;omega
     ·exact aa
    obtain⟨bg,bl⟩:=arq this (cY v);exact⟨bg.symm,bl⟩
   ·rw[if_neg ar];exact⟨rfl,eY⟩
  ·obtain⟨U,aa⟩:=Sj h;exact⟨by simp only[al.ai,ab.shut,U],aa⟩
  ·obtain⟨U,aa⟩:=Sj h;exact⟨by simp only[al.ai,ab.shut,U],aa⟩
  ·obtain⟨U,aa⟩:=Sj h;exact⟨by simp only[al.ai,ab.shut,U],aa⟩
  ·obtain⟨U,aa⟩:=Ty cY h;exact⟨by simp only[al.ai,ab.shut,U],aa⟩
  ·cases h
theorem TZ {n:Nat} {t0:cg bb}:∀{k v:Nat},h1 .any (ja v) (Dw T W n t0 k)=if n≤v∧v<n+k then(bif vF fuel T (W.df v)then W.df v else .any)else h1 .any (ja v) t0
 |0,v=>by rw[if_neg (by omega)];rfl
 |k+1,v=>by
  show h1 .any (ja v) (ts .any _ (ja (n+k)) (Dw T W n t0 k))=_;rw[yh,TZ (k:=k)];by_cases ar:n+k=v
  ·subst ar;rw[if_pos rfl,if_pos (by omega)];rfl
  ·rw[if_neg (fun aF=>ar (G3.1 aF))];by_cases af:n≤v∧v<n+k
   ·rw[if_pos af,if_pos (by omega)]
   ·rw[if_neg af,if_neg (by omega)]
theorem asz {E':dS} {W' cD:aH} {V':aO} {s:al} (h:aW T E R G W V) (b0:aW T E' aL G' W' V') (aK:W.aD≤W'.aD) (aA:hy W.aD R aL) (hs:s.bh W'.aD=true) (aB:LK T W s W'=some cD):
  dk R W (kY W.aD aL) cD∧aW T E (kY W.aD aL) G cD V∧s.ai (kY W.aD aL)=(s.ai aL).shut∧(s.ai aL).shut.plain=true∧s.bh cD.aD=true:=by
 unfold LK at aB;obtain⟨ae,aa⟩:=eF aB;cases aa;have lS:hy W.aD R (kY W.aD aL):=fun v ar=>(aA v ar).trans (asA W.aD aL v ar);have il:=h.agree lS;obtain⟨et,eY⟩:=Ty (R:=aL) b0.ok.ty ae;have fq:W.aD+(W'.aD-W.aD)=W'.aD:=by omega
 refine⟨⟨aK,lS⟩,⟨⟨fun v=> ?_,fun v ar=> ?_,fun l ak=> ?_,fun f ax=> ?_,fun p ae=> ?_,il.ok.b2⟩,⟨b0.aT.ge,b0.aT.da,b0.aT.cC,fun p ae=> ?_,fun p ae=>xw (h.aT.live p ae) aK,fun p ae=>xw (h.aT.cA p ae) aK,fun p ae=>xw (h.aT.wr p ae) aK,fun p ae=>mE aK _ (h.aT.b2 p ae),fun p ae=>⟨xw (h.aT.op p ae).1 aK,mE aK _ (h.aT.op p ae).2⟩,fun p ae=>⟨xw (h.aT.lt p ae).1 aK,xw (h.aT.lt p ae).2.1 aK,fun q aB=>⟨k1 aK _ ((h.aT.lt p ae).2.2 q aB).1,k1 aK _ ((h.aT.lt p ae).2.2 q aB).2⟩⟩,fun p ae=>fp (h.aT.gz p ae) aK,fun p ae=>⟨xw (h.aT.rd p ae).1 aK,jC aK (l:=p.2.2.1.t) (h.aT.rd p ae).2.1,k1 aK _ (h.aT.rd p ae).2.2⟩⟩,
  ⟨il.aE.wf,il.aE.cells,il.aE.live,il.aE.gw,il.aE.wr,il.aE.M,il.aE.out,il.aE.n,il.aE.g,il.aE.f',il.aE.cls,il.aE.tok,il.aE.fQ,il.aE.hi,il.aE.lt,il.aE.rd⟩⟩,et,by rw[←et];exact eY,hs⟩
 ·show bR T.D G (h1 .any (ja v) (Dw T W' W.aD W.ty (Nat.sub W'.aD W.aD))) _;rw[TZ];by_cases ar:W.aD≤v∧v<W.aD+Nat.sub W'.aD W.aD
  ·rw[if_pos ar];cases mq:vF fuel T (W'.df v)with
   |false=>exact .any _
   |true=>
    simp only[cond_true,kY];rw[if_neg (by omega)]
    exact(aej mq (b0.ok.ty v)).1
  ·rw[if_neg ar];exact il.ok.ty v
 ·show h1 .any (ja v) (Dw T W' W.aD W.ty (Nat.sub W'.aD W.aD))=.any;have ar:W'.aD≤v:=ar;have e:Nat.sub W'.aD W.aD=W'.aD-W.aD:=rfl;rw[TZ,if_neg (by rw[e];omega)]
  exact h.ok.top v (by omega)
 ·rw[G8];exact b0.ok.ge l ak
 ·rw[aeA];exact b0.ok.da f ax
 ·rw[G8];have:=b0.ok.cC p ae;simp only[kY];split
  ·exact this
  ·rw[afF];exact this
 ·obtain⟨az,ao⟩:=h.aT.cells p ae;exact⟨xw az aK,k1 aK _ ao⟩
theorem aow (h:aW T E R G W V) (eX:W.op=[]) (bw:W.lt=none):∃E',gj E'∧E'.V=V.guard∧aW T E' R G (Ce W) V.guard:=by
 refine⟨⟨V.guard,G,fun _=>False⟩,⟨b1 _,fun _ h=>h.elim,fun g i j av=>⟨h.aE.fQ g i j av,fun h=>h.elim⟩,h.aE.out⟩,rfl,⟨⟨h.ok.ty,h.ok.top,h.ok.ge,h.ok.da,h.ok.cC,h.ok.b2⟩,⟨h.aT.ge,h.aT.da,h.aT.cC,h.aT.cells,(fun p ae=>by cases ae),h.aT.cA,(fun v ar=>by cases ar),h.aT.b2,h.aT.op,h.aT.lt,(fun p ae=>by cases ae),h.aT.rd⟩,?_⟩⟩
 refine⟨h.aE.wf,h.aE.cells,(fun p ae=>by cases ae),.nil,(fun v ar=>by cases ar),(fun c af=>by cases af),h.aE.out,b1 _,rfl,fun x _ _=>⟨rfl,rfl⟩,fun x _ c=>⟨fun h _=>h,id⟩,fun g _ i j av=>.inl av,h.aE.fQ,?_,fun p ae=>(by rw[show(Ce W).lt=none from bw]at ae;cases ae),h.aE.rd⟩
 refine⟨fun p ae=>(by rw[show(Ce W).op=[]from eX]at ae;cases ae),fun i c cs U aa au=>⟨fun _=> ?_,fun p ae=>by rw[show(Ce W).op=[]from eX]at ae;cases ae⟩⟩
 refine⟨((h.aE.hi.ok i c cs U aa au).1 fun p ae=>by rw[eX]at ae;cases ae).1,fun _ cd iD=> ?_⟩
 have e:cd=cs:=by
  have au:V.guard.at i=.obj cs:=au;have iD:V.guard.at i=.obj cd:=iD;rw[au]at iD;cases iD;rfl
 subst e;exact e8.refl c _ aa
theorem aey {d:Option Nat} {s:al} {W' cS:aH}:∀{o:List (al × aH)} {outs:List (bE × aH)},LN T d se cS o=some outs→(s,W')∈o→∃cD,LK T cS s W'=some cD∧(jN d (.val s) se,cD)∈outs
 | [],outs,_,h=>by cases h
 |(t,W1)::l,outs,aB,h=>by
  simp only[LN]at aB;split at aB
  ·rename_i cD r U aa;cases aB;rcases cu.1 h with h|h
   ·cases h;exact⟨cD,U,cz ..⟩
   ·obtain⟨oQ,bg,bl⟩:=aey aa h;exact⟨oQ,bg,cv _ bl⟩
  ·cases aB
theorem WN {call:Nat→dw} {sc:iy} (gy:kj true T call sc) (h:aW T E R G W V) (he:ch R W.aD se env) {f:Nat} {as:List al} {d:Option Nat} {run:bI→bj} (af:cls W.aD as=true)
  (b6:∀k,run k=LM d k env V (call f (aM R as) V.guard)):dt dm T E R W (Bl T sc d se f as W) run:=by
 unfold Bl;split
 case h_2=>exact db
 rename_i cS ej;obtain⟨dW,bZ,cB,z3⟩:=Bq h ej;obtain⟨z4,z5⟩:=bZ.aM af;refine LX bZ ?_;have h:=cB;have af:=z5;have he:=he.later bZ;rw[←z4]at b6;clear z4 z5;split
 case h_1=>exact db
 rename_i bw;split
 ·rename_i o ay;intro outs oo bo k aq;obtain⟨E',mR,_,ec⟩:=aow h z3 bw;obtain⟨a,V',az,s,W',aL,G',ao,aX,bD,c8,e'⟩:=(gy E' dW G (Ce cS) V.guard f as o mR ec af ay).1 rfl;obtain⟨cD,bg,bl⟩:=aey oo ao;obtain⟨bd,bx,bT,dp,g9⟩:=asz h bD aX.n aX.dq e' bg;have:=aq _ bl _ G (dc d (.val a.shut) env) V bd bx ((he.later bd).set d (by simp only[cZ,bT,c8]) g9)
  rw[b6,az];rw[c8]at dp;show bo (bif a.shut.plain then k (dc d (.val a.shut) env) V else .bad)
  rw[dp];exact this
 ·exact db
end Go.bO.cK
end
section
namespace Go.bO.cK
variable {dm:Bool} {T:bG} [e8 T] {E:dS} {R aL:cj} {G G':Nat→cR} {W:aH} {V:aO} {se:bE} {env:aP}
theorem IK {β:Type} {a b:Option (List β)} {r:List β} (h:yC a b=some r):∃x y,a=some x∧b=some y∧r=x++y:=by
 unfold yC at h;split at h
 ·cases h;exact⟨_,_,rfl,rfl,rfl⟩
 ·cases h
theorem rW (R:cj) (l r:List al):aM R (l++r)=aM R l++aM R r:=by rw[hO,hO,hO,s9]
theorem rQ {n:Nat} {l r:List al} (h:cls n l=true) (k:cls n r=true):cls n (l++r)=true:=by
 induction l with
 |nil=>exact k
 |cons a l bm=>simp only[Bg,cls,(a6 h).1,bm (a6 h).2];rfl
def AZ (dm:Bool) (T:bG) (E:dS) (G:Nat→cR) (V:aO) (se:bE) (env:aP) (a7:Nat→List al→aH→dG) (mC:Nat→List ab→bI→bj):Prop:=
 ∀(R:cj) (W:aH) (g:Nat) (l:List al),aW T E R G W V→ch R W.aD se env→cls W.aD l=true→dt dm T E R W (a7 g l W) (mC g (aM R l))
theorem Dx {W1:aH} {dM:cj} {r fl:dG} {run:bI→bj} (ak:dk R W dM W1) (h:dt dm T E dM W1 r run) (ah:∀outs,fl=some outs→∃o,r=some o∧∀p∈o,p∈outs):dt dm T E R W fl run:=by
 intro outs ay bo k aq;obtain⟨o,U,aa⟩:=ah outs ay;exact h o U bo k fun p ae aL G' bP V' bg bl bS=>aq p (aa p ae) aL G' bP V' (ak.trans bg) bl bS
theorem VO {a7:Nat→List al→aH→dG} {mC:Nat→List ab→bI→bj} (aq:AZ dm T E G V se env a7 mC) (h:aW T E R G W V) (he:ch R W.aD se env) {args:List al} (af:cls W.aD args=true) {f:Nat} {fs cs:List bb} {a c:List ab}
  (U:fs.length=a.length) (aa:cs.length=c.length) (aA:∀(j:Nat) (t:bb) (v:ab),fs[j]? =some t→a[j]? =some v→bR T.D G t v) (lf:∀(j:Nat) (t:bb) (v:ab),cs[j]? =some t→c[j]? =some v→bR T.D G t v):
  ∀{as:List (Nat × List bb × List bb)},(f,fs,cs)∈as→dt dm T E R W (A2 a7 args W as) (mC f (a++aM R args++c))
 | [],hm=>by cases hm
 |(g,x,y)::r,hm=>by
  have step:∀outs,A2 a7 args W ((g,x,y)::r)=some outs→∃hd W1 cQ cD o ey,e3 W x=(hd,W1)∧e3 W1 y=(cQ,cD)∧a7 g (hd++args++cQ) cD=some o∧A2 a7 args W r=some ey∧outs=o++ey:=by
   intro outs ay;simp only[A2]at ay;cases ax:e3 W x with
   |mk hd W1=>
    rw[ax]at ay;simp only at ay;cases av:e3 W1 y with
    |mk cQ cD=>
     rw[av]at ay;obtain⟨o,ey,bg,bl,bS⟩:=IK ay;exact⟨hd,W1,cQ,cD,o,ey,rfl,av,bg,bl,bS⟩
  rcases cu.1 hm with hm|hm
  ·cases hm;intro outs ay bo k a1;obtain⟨hd,W1,cQ,cD,o,ey,bg,bl,bS,cP,eC⟩:=step outs ay;obtain⟨dM,bd,bx,bT,dp⟩:=Fg fs h U aA bg;obtain⟨dQ,b',ct,jr,sA⟩:=Fg cs bx aa lf bl;obtain⟨et,eY⟩:=b'.aM dp;obtain⟨cc,b4⟩:=(bd.trans b').aM af;have:=aq dQ cD f (hd++args++cQ) ct (he.later (bd.trans b')) (rQ (rQ eY b4) sA) o bS;rw[rW,rW,et,bT,cc,jr]at this;exact this bo k fun p ae aL G' bP V' bZ cB z3=>a1 p (by rw[eC];exact oS _ ae) aL G' bP V' ((bd.trans b').trans bZ) cB z3
  ·refine Dx (.refl _ _) (VO aq h he af U aa aA lf hm) fun outs ay=> ?_;obtain⟨hd,W1,cQ,cD,o,ey,bg,bl,bS,cP,eC⟩:=step outs ay;exact⟨ey,cP,fun p ae=>by rw[eC];exact nh _ ae⟩
theorem Yb {a7:Nat→List al→aH→dG} {mC:Nat→List ab→bI→bj} (aq:AZ dm T E G V se env a7 mC) (h:aW T E R G W V) (he:ch R W.aD se env) {args:List al} (af:cls W.aD args=true) {s:al} (hs:s.bh W.aD=true) {run:bI→bj}
  (b6:∀f a c,s.ai R=.func (.func f) a c→∀k,run k=mC f (a++aM R args++c) k):dt dm T E R W (Jp T a7 args W s) run:=by
 unfold Jp;split
 ·rename_i g a c;have:=aq R W g (a++args++c) h he (rQ (rQ (a6 hs).1 af) (a6 hs).2);rw[rW,rW]at this;have e:run=mC g (aM R a++aM R args++aM R c):=funext (b6 g _ _ rfl);rw[e];exact this
 ·rename_i g a c;have:=aq R W g (ks a++args++ks c) h he (rQ (rQ (yK _ _) af) (yK _ _));rw[rW,rW,uP,uP]at this;have e:run=mC g (a++aM R args++c):=funext (b6 g _ _ rfl);rw[e];exact this
 ·rename_i v;have ar:=HY (h.ok.ty v);split
  ·rename_i as n aw;refine kd fun aK=> ?_;have nB:=pr h.ok aK;rw[aw]at ar;simp only[al.ai]at b6;generalize R v=b at ar nB b6;cases ar with
   |fn _ _ f fs cs a c hm U aa aA lf=>
    have e:run=mC f (a++aM R args++c):=funext (b6 f a c rfl);rw[e];exact VO aq h he af U aa aA lf hm
   |fj _=>cases nB
  ·exact db
 ·exact db
theorem VP {a7:Nat→List al→aH→dG} {mC:Nat→List ab→bI→bj} (aq:AZ dm T E G V se env a7 mC) (h:aW T E R G W V) (he:ch R W.aD se env) {eg:List (Nat × Nat)} {args:List al} (af:cls W.aD args=true) {t:Nat} {ty:bb} {v:ab} (ar:bR T.D G ty v) {run:bI→bj}
  (b6:∀f,oG eg t=some f→∀k,run k=mC f (v::aM R args) k):
  ∀{as:List (Nat × bb)},(t,ty)∈as→dt dm T E R W (A3 a7 eg args W as) run
 | [],hm=>by cases hm
 |(t0,MG)::r,hm=>by
  have step:∀outs,A3 a7 eg args W ((t0,MG)::r)=some outs→∃f s W1 o ey,oG eg t0=some f∧cW W MG=(s,W1)∧a7 f (s::args) W1=some o∧A3 a7 eg args W r=some ey∧outs=o++ey:=by
   intro outs ay;simp only[A3]at ay;split at ay
   ·rename_i f ax;cases av:cW W MG with
    |mk s W1=>
     rw[av]at ay;obtain⟨o,ey,bg,bl,bS⟩:=IK ay;exact⟨f,s,W1,o,ey,ax,rfl,bg,bl,bS⟩
   ·cases ay
  rcases cu.1 hm with hm|hm
  ·cases hm;intro outs ay bo k a1;obtain⟨f,s,W1,o,ey,bg,bl,bS,cP,eC⟩:=step outs ay;obtain⟨dM,bd,bx,bT,dp⟩:=mQ ty h ar bl;obtain⟨cc,b4⟩:=bd.aM af;have:=aq dM W1 f (s::args) bx (he.later bd) (by simp only[cls,dp,b4];rfl) o bS
   simp only[aM,bT,cc]at this;rw[b6 f bg];exact this bo k fun p ae aL G' bP V' bZ cB z3=>a1 p (by rw[eC];exact oS _ ae) aL G' bP V' (bd.trans bZ) cB z3
  ·refine Dx (.refl _ _) (VP aq h he af ar b6 hm) fun outs ay=> ?_;obtain⟨f,s,W1,o,ey,bg,bl,bS,cP,eC⟩:=step outs ay;exact⟨ey,cP,fun p ae=>by rw[eC];exact nh _ ae⟩
theorem ZX {a7:Nat→List al→aH→dG} {mC:Nat→List ab→bI→bj} (aq:AZ dm T E G V se env a7 mC) (h:aW T E R G W V) (he:ch R W.aD se env) {eg:List (Nat × Nat)} {args:List al} (af:cls W.aD args=true) {s:al} (hs:s.bh W.aD=true) {run:bI→bj}
  (b6:∀t v f,s.ai R=.iface t v→oG eg t=some f→∀k,run k=mC f (v::aM R args) k):dt dm T E R W (Kf T a7 eg args W s) run:=by
 unfold Kf;split
 ·rename_i t x;split
  ·rename_i f ax;have:=aq R W f (x::args) h he (by simp only[cls,show x.bh W.aD=true from hs,af];rfl)
   have e:run=mC f (x.ai R::aM R args):=funext (b6 t _ f rfl ax);rw[e];exact this
  ·exact db
 ·rename_i t x;split
  ·rename_i f ax;have:=aq R W f (.k x::args) h he (by simp only[cls,al.bh,af];rfl)
   have e:run=mC f (x::aM R args):=funext (b6 t _ f rfl ax);rw[e];exact this
  ·exact db
 ·rename_i v;have ar:=HY (h.ok.ty v);split
  ·rename_i as n aw;refine kd fun aK=> ?_;have nB:=pr h.ok aK;rw[aw]at ar;simp only[al.ai]at b6;generalize R v=b at ar nB b6;cases ar with
   |e4 _ _ t ty w hm hw=>exact VP aq h he af hw (fun f ax=>b6 t w f rfl ax) hm
   |dC _=>cases nB
  ·exact db
 ·exact db
theorem UY {u t:Nat} {s:al} {v:ab} {n:Nat} (hs:s.ai R=v) (af:s.bh n=true):(DR u t s).ai R=.tuple (bif Nat.beq u t then [v,.bool true]else [.cX,.bool false])∧(DR u t s).bh n=true:=by
 unfold DR;cases Nat.beq u t with
 |true=>exact⟨by simp only[cond_true,al.ai,aM,hs],by simp only[cond_true,al.bh,cls,af];rfl⟩
 |false=>exact⟨rfl,rfl⟩
theorem agt (h:aW T E R G W V) (he:ch R W.aD se env) {t:Nat} {d:Option Nat} {u:Nat} {ty:bb} {v:ab} (ar:bR T.D G ty v) {run:bI→bj}
  (ah:∀k,run k=k (dc d (.val (.tuple (bif Nat.beq u t then [v,.bool true]else [.cX,.bool false]))) env) V):∀{as:List (Nat × bb)},(u,ty)∈as→dt dm T E R W (some (HB t d se W as)) run
 | [],hm=>by cases hm
 |(awg,MG)::r,hm=>by
  rcases cu.1 hm with hm|hm
  ·cases hm;cases ax:cW W ty with
   |mk s W1=>
    obtain⟨dM,bd,bx,bT,dp⟩:=mQ ty h ar ax;obtain⟨e1,bf⟩:=UY (u:=u) (t:=t) bT dp;refine Dx (.refl _ _) (ke he bd bx e1 bf ah) fun outs ay=>⟨_,rfl,fun p ae=> ?_⟩;cases ay;rw[iS.1 ae];simp only[HB,ax];exact cz ..
  ·refine Dx (.refl _ _) (agt h he ar ah hm) fun outs ay=>⟨_,rfl,fun p ae=> ?_⟩;cases ay;simp only[HB];exact cv _ ae
theorem auW (h:aW T E R G W V) (he:ch R W.aD se env) {t:Nat} {x:aG} {d:Option Nat} {run:bI→bj} (b6:∀k,run k=dN (G1 t x) d k env V):dt dm T E R W (UX T t x d se W) run:=by
 have ae:∀{a:ab} {b:ab},bV x env=.val a→My t (.val a)=some (.val b)→∀k,run k=k (dc d (.val b) env) V:=by
  intro a b U aa k;rw[b6];show @Option.rec aJ (fun _=>bj) .bad (fun e=>k (dc d e env) V) (My t (bV x env))=_;rw[U,aa]
 unfold UX;split
 ·rename_i u s ad;obtain⟨e1,bf⟩:=fM he ad;obtain⟨aN,c2⟩:=UY (R:=R) (u:=u) (t:=t) (s:=s) rfl bf;exact ke he (.refl _ _) h aN c2 (ae e1 rfl)
 ·rename_i u v ad;obtain⟨e1,bf⟩:=fM he ad;obtain⟨aN,c2⟩:=UY (R:=R) (u:=u) (t:=t) (s:=.k v) (n:=W.aD) rfl rfl;exact ke he (.refl _ _) h aN c2 (ae e1 rfl)
 ·rename_i ad;obtain⟨e1,bf⟩:=fM he ad;exact ke he (.refl _ _) h (a:=.tuple [.cX,.bool false]) rfl rfl (ae e1 rfl)
 ·rename_i v ad;obtain⟨e1,bf⟩:=fM he ad;have ar:=HY (h.ok.ty v);split
  ·rename_i as n aw;rw[aw]at ar;simp only[al.ai]at e1;generalize aj:R v=b at ar e1;cases ar with
   |e4 _ _ u ty w hm hw=>
    refine Dx (.refl _ _) (agt h he hw (ae e1 rfl) hm) fun outs ay=>⟨_,rfl,fun p ae=> ?_⟩;cases ay;exact oS _ ae
   |dC _=>
    cases aK:holds W (.nl v false)with
    |true=>
     have:=pr h.ok aK;rw[aj]at this;cases this
    |false=>
     refine Dx (.refl _ _) (ke (s:=.eN [.k .cX,.k (.bool false)]) he (.refl _ _) h (a:=.tuple [.cX,.bool false]) rfl rfl (ae e1 rfl)) fun outs ay=>⟨_,rfl,fun p ae=> ?_⟩;cases ay;rw[iS.1 ae];exact nh _ (iS.2 rfl)
  ·exact db
 ·exact db
theorem L_ {f:fx→fx} (ax:f .un=.un) (env:bE) (t:Nat):ee (sy f env) t=f (ee env t):=by
 have key:∀(p:iR) (e:bE),h1 .un p (sy f e)=f (h1 .un p e):=by
  intro p
  induction p with
  |z=>intro e;cases e<;>simp[sy,h1,ax]
  |a p bm=>intro e;cases e<;>simp[sy,h1,ax,bm]
  |b p bm=>intro e;cases e<;>simp[sy,h1,ax,bm]
 exact key _ _
theorem WC {n:Nat} (he:ch R n se env) {s:Nat} {l:List al} (ak:cls n l=true):ch R n (NI se s l) (Ba env s (aM R l)):=by
 have hm:ch R n (sy (abK s) se) (vu (RQ s) env):=by
  refine⟨fun t=> ?_,fun t=> ?_⟩
  ·rw[L_ rfl,I9 rfl];have U:=he.mf t;generalize ee se t=x at U;cases x with
   |val a=>simp only[cZ]at U;rw[U];rfl
   |box a=>simp only[cZ]at U;rw[U];rfl
   |un=>trivial
   |kc v sz l o=>
    simp only[cZ]at U;show cZ R (.kc v sz l o) _;obtain⟨q,az,ao,aX⟩:=U;refine⟨q,az,ao,?_⟩;rcases aX with⟨g,m,c,aX,bD,c8⟩|⟨xs,nl,tok,x,aX,bD,c8,sr,e'⟩
    ·exact .inl ⟨g,m,c,aX,bD,by rw[c8];rfl⟩
    ·exact .inr ⟨xs,nl,tok,x,aX,bD,c8,sr,by rw[e'];rfl⟩
   |gZ b o=>
    simp only[cZ]at U;rw[U];show cZ R (bif Nat.beq b s then .un else .gZ b o) (bif Nat.beq b s then .val .top else .b7 b o)
    cases Nat.beq b s<;>first|rfl|trivial
  ·rw[L_ rfl];have U:=he.bh t;generalize ee se t=x at U;cases x with
   |gZ b o=>
    show fx.bh n (bif Nat.beq b s then .un else .gZ b o)=true
    cases Nat.beq b s<;>rfl
   |_=>exact U
 exact hm.put s (x:=.box l) rfl ak
theorem alB {n:Nat} (he:ch R n se env) (l:List (Nat × ca)):ch R n (PA l se) (Fe l env):=by
 unfold PA Fe;cases zX l with
 |nil=>exact he
 |cons b B=>
  show ch R n (sy _ se) (vu (Kt (b::B)) env);have aF:∀x,hF x (b::B)=rY (b::B) x:=by
   intro x;rw[JG];simp only[hF,Oz]
   congr 1
   funext w
   rw[gY];rfl
  refine⟨fun t=> ?_,fun t=> ?_⟩
  ·rw[L_ rfl,I9 rfl];have U:=he.mf t;generalize ee se t=x at U;cases x with
   |val a=>simp only[cZ]at U;rw[U];rfl
   |box a=>simp only[cZ]at U;rw[U];rfl
   |un=>trivial
   |kc v sz l o=>
    simp only[cZ]at U;show cZ R (.kc v sz l o) _;obtain⟨q,az,ao,aX⟩:=U;refine⟨q,az,ao,?_⟩;rcases aX with⟨g,m,c,aX,bD,c8⟩|⟨xs,nl,tok,x,aX,bD,c8,sr,e'⟩
    ·exact .inl ⟨g,m,c,aX,bD,by rw[c8];rfl⟩
    ·exact .inr ⟨xs,nl,tok,x,aX,bD,c8,sr,by rw[e'];rfl⟩
   |gZ c o=>
    simp only[cZ]at U;rw[U];show cZ R (bif hF c (b::B)then .un else .gZ c o) (bif rY (b::B) c then .val .top else .b7 c o)
    rw[aF];cases rY (b::B) c<;>first|rfl|trivial
  ·rw[L_ rfl];have U:=he.bh t;generalize ee se t=x at U;cases x with
   |gZ c o=>
    show fx.bh n (bif hF c (b::B)then .un else .gZ c o)=true
    cases hF c (b::B)<;>rfl
   |_=>exact U
end Go.bO.cK
end
section
namespace Go.bO.cK
variable {dm:Bool} {T:bG} [e8 T] {E:dS} {R aL:cj} {G G':Nat→cR} {W:aH} {V:aO} {se:bE} {env:aP}
theorem rj {r:dG} {run T':bI→bj} (h:dt dm T E R W r run) (he:∀k,T' k=run k):dt dm T E R W r T':=by
 have:T'=run:=funext he;rw[this];exact h
theorem aeZ (h:aW T E R G W V) (he:ch R W.aD se env) (o:a2) (d:Option Nat) {run:bI→bj} (b6:∀m,D7 o env V m→∀k,run k=Option.rec .bad (fun e=>k (dc d e env) V) m):dt dm T E R W (one se d (lD T se W o)) run:=by
 rcases ast h he o with aK|⟨m,U,aa⟩
 ·rw[aK];exact db
 ·exact T1 he aa (b6 m U)
theorem VK {sz:Nat} {x:aG} {i:bn} {d:Option Nat} {q:Nat} {run:bI→bj} (b6:∀k,run k=Option.rec .bad (fun e=>k (dc d e env) V) (y1 (q*sz) (bV x env))):
  ∀(f j:Nat) {W:aH},aW T E R G W V→ch R W.aD se env→i.ai R=(q:Int)→i.bh W.aD=true→j≤q→q<j+f→dt dm T E R W (H9 sz (jj se x) i d se f j W) run
 |0,j,W,_,_,_,_,U,aa=>by omega
 |f+1,j,W,h,he,hi,tu,U,aa=>by
  simp only[H9];refine He h (f:=.eq (i.dO (kz (.ofNat j))) true) (qL (x:=i) tu) fun W' az ao aX=> ?_;have iG:ch R W'.aD se env:=by rw[aX];exact he
  have fA:(Lit.eq (i.dO (kz (.ofNat j))) true).ai R=decide (q=j):=by
   simp only[Lit.ai,fe,qd,hi,hU,beq_true];have:((q:Int)+ -(j:Int)=0)↔q=j:=by omega
   by_cases aB:q=j
   ·rw[decide_eq_true aB,decide_eq_true (this.2 aB)];rfl
   ·rw[decide_eq_false aB,decide_eq_false (fun aF=>aB (this.1 aF))];rfl
  rw[fA];by_cases aB:q=j
  ·subst aB;simp only[decide_true,cond_true];obtain⟨b3,cI⟩:=mg iG x;exact T1 iG (Yf ao b3 cI) (fun k=>b6 k)
  ·rw[decide_eq_false aB,cond_false];have bg:j+1≤q:=by omega
   have bl:q<j+1+f:=by omega
   exact VK b6 f (j+1) ao iG hi (by rw[aX];exact tu) bg bl
theorem VL (h:aW T E R G W V) (he:ch R W.aD se env) {n sz:Nat} {x i:aG} {d:Option Nat} {run:bI→bj} (b6:∀k,run k=Option.rec .bad (fun e=>k (dc d e env) V) (C3 n sz x i env)):dt dm T E R W (H_ n sz x i d se W) run:=by
 unfold H_;split
 ·rename_i s hs;obtain⟨e1,bf⟩:=fM he hs;split
  ·rename_i k l ak;obtain⟨aN,c2⟩:=gP (R:=R) ak;refine kd fun aj=> ?_;obtain⟨cp,b_⟩:=a6 aj;have cp:=dE h.ok cp;have b_:=dE h.ok b_;simp only[fe,hV,DM,hU]at b_;obtain⟨q,aB⟩:∃q:Nat,l.ai R=(q:Int):=⟨(l.ai R).toNat,by omega⟩
   refine VK (q:=q) (fun k=> ?_) n 0 h he aB (c2 _ bf) (fv _) (by rw[aB]at b_;omega)
   rw[b6];simp only[C3,e1,aN];show @Option.rec _ (fun _=>bj) .bad (fun e=>k (dc d e env) V) (Nc n sz (bV x env) (l.ai R))=_;rw[aB];show @Option.rec _ (fun _=>bj) .bad (fun e=>k (dc d e env) V) (bif Nat.blt q n then y1 (q*sz) (bV x env)else none)=_
   rw[gp (by rw[aB]at b_;omega)];rfl
  ·exact db
 ·exact db
theorem ZP {sz:Nat} {x:al} {a7:IntKind} {i:bn} {d:Option Nat} {q:Nat} {run:bI→bj} (b6:∀k,run k=Option.rec .bad (fun e=>k (dc d e env) V) (Cl sz (.val (x.ai R)) (.val (.int a7 q)))):
  ∀(f j:Nat) {W:aH},aW T E R G W V→ch R W.aD se env→x.bh W.aD=true→i.ai R=(q:Int)→i.bh W.aD=true→j≤q→q<j+f→dt dm T E R W (Kb T sz x a7 i d se f j W) run
 |0,j,W,_,_,_,_,_,U,aa=>by omega
 |f+1,j,W,h,he,ad,hi,tu,U,aa=>by
  simp only[Kb];refine He h (f:=.eq (i.dO (kz (.ofNat j))) true) (qL (x:=i) tu) fun W' az ao aX=> ?_;have iG:ch R W'.aD se env:=by rw[aX];exact he
  have iq:x.bh W'.aD=true:=by rw[aX];exact ad
  have fA:(Lit.eq (i.dO (kz (.ofNat j))) true).ai R=decide (q=j):=by
   simp only[Lit.ai,fe,qd,hi,hU,beq_true];have:((q:Int)+ -(j:Int)=0)↔q=j:=by omega
   by_cases aB:q=j
   ·rw[decide_eq_true aB,decide_eq_true (this.2 aB)];rfl
   ·rw[decide_eq_false aB,decide_eq_false (fun aF=>aB (this.1 aF))];rfl
  rw[fA];by_cases aB:q=j
  ·subst aB;simp only[decide_true,cond_true];have aq:(al.i a7 (.k (.ofNat q))).ai R=.int a7 q:=by simp[al.ai]
   have ah:=ZQ (sz:=sz) ao iq (i:=.i a7 (.k (.ofNat q))) rfl;rw[aq]at ah;exact T1 iG ah (fun k=>b6 k)
  ·rw[decide_eq_false aB,cond_false];have bg:j+1≤q:=by omega
   have bl:q<j+1+f:=by omega
   exact ZP b6 f (j+1) ao iG iq hi (by rw[aX];exact tu) bg bl
theorem as0 {b:Bool} {r s:dG} {run:bI→bj} (U:b=true→dt dm T E R W r run) (aa:b=false→dt dm T E R W s run):dt dm T E R W (bif b then r else s) run:=by
 cases b with
 |true=>exact U rfl
 |false=>exact aa rfl
theorem aoL {call:Nat→dw} (h:aW T E R G W V) (he:ch R W.aD se env) {sz:Nat} {x i:aG} {d:Option Nat} (pure:dt dm T E R W (one se d (lD T se W (.iaddr sz x i))) (fun k=>vz call (.iaddr sz x i) d k env V)):
  dt dm T E R W (Rv T sz x i d se W) (fun k=>vz call (.iaddr sz x i) d k env V):=by
 unfold Rv;split
 ·rename_i v s ad hs;obtain⟨cE,cd⟩:=fM he ad;obtain⟨e1,bf⟩:=fM he hs;split
  ·rename_i k l ak;obtain⟨aN,c2⟩:=gP (R:=R) ak;refine as0 (fun aj=> ?_) (fun _=>pure);obtain⟨_,cp⟩:=a6 aj;obtain⟨_,cp⟩:=a6 cp;obtain⟨cp,b_⟩:=a6 cp;have cp:=dE h.ok cp;have b_:=dE h.ok b_;simp only[fe,hV,hU]at b_;obtain⟨q,aB⟩:∃q:Nat,l.ai R=(q:Int):=⟨(l.ai R).toNat,by omega⟩
   refine ZP (q:=q) (fun k'=> ?_) 4 0 h he cd aB (c2 _ bf) (fv _) (by rw[aB]at b_;omega)
   show vz call (.iaddr sz x i) d k' env V=_;have:Cl sz (bV x env) (bV i env)=Cl sz (.val ((al.x v).ai R)) (.val (.int k q)):=by rw[cE,e1,aN,aB]
   rw[←this];rfl
  ·exact pure
 ·exact pure
theorem arK {an:gE} {call:Nat→dw} {sc:iy} (gy:kj dm T call sc) (aC:gj E) (h:aW T E R G W V) (he:ch R W.aD se env) (o:a2) (d:Option Nat):dt dm T E R W (vB T an sc o d se W) (fun k=>vz call o d k env V):=by
 have pure:dt dm T E R W (one se d (lD T se W o)) (fun k=>vz call o d k env V):=aeZ h he o d fun m hm k=>hm.1 call d k;have Gi:AZ dm T E G V se env (fun g a W=>Bm sc g a d se W) (fun f as k=>x0 d k env (call f as V)):=fun R W g l h he ak=>WO gy aC h he ak fun k=>rfl;cases o with
 |pick c a b=>exact aeY h he fun k=>rfl
 |box cs=>
  cases d with
  |none=>exact db
  |some s=>exact nO (.refl _ _) h (by have:=WC he (s:=s) (yK W.aD cs);rw[uP]at this;exact this) fun k=>rfl
 |boxv x=>
  simp only[vB];cases d with
  |none=>exact db
  |some s=>
   cases ad:dZ se x with
   |none=>exact db
   |some v=>
    refine kd fun aj=> ?_;obtain⟨e1,bf⟩:=fM he ad;obtain⟨az,ao,aX⟩:=N3 h aj;refine nO (.refl _ _) h (WC he (s:=s) (aX _ bf)) fun k=> ?_;show Tc s k env V (bV x env)=_;rw[e1];show(bif(v.ai R).cells.all ab.one then k (Ba env s (v.ai R).cells) V else .bad)=_
    rw[ao,az];rfl
 |obj cs=>
  simp only[vB];cases cs with
  |nil=>exact db
  |cons c cs=>exact ac2 h he (yK _ _) (by simp[ks]) fun k=>by rw[uP];rfl
 |objv x=>
  simp only[vB];cases ad:dZ se x with
  |none=>exact db
  |some v=>
   refine kd fun aj=> ?_;obtain⟨e1,bf⟩:=fM he ad;obtain⟨az,ao,aX⟩:=N3 h aj;by_cases cm:gm v=[]
   ·rw[cm];exact db
   ·refine ac2 h he (aX _ bf) cm fun k=> ?_;show Tg d k env V (bV x env)=_;rw[e1];show(bif(v.ai R).cells.all ab.one then GN (v.ai R).cells d k env V else .bad)=_
    rw[ao,az];rfl
 |bslice own sz e n z br=>
  cases own with
  |true=>exact ajN h he
  |false=>exact pure
 |load agg n x=>exact adp h he
 |store n x v=>exact arN aC h he
 |append sz e bytes x y=>exact Pv fun c=>aja aC h he
 |appendM sz e bytes x y=>exact rj (ai9 aC h he) fun k=>rfl
 |mslice sz e n z br=>exact rj (aq' h he) fun k=>rfl
 |clearS sz z x=>exact rj (akp aC h he) fun k=>rfl
 |aidx n sz x i=>exact VL h he fun k=>rfl
 |iaddr sz x i=>exact aoL h he pure
 |mmap=>
  simp only[vB];split
  ·exact aq3 h he fun k=>rfl
  ·exact db
 |mget a7 z ok x i=>exact acA h he
 |mset a7 x i v=>exact aq8 aC h he
 |mdel a7 x i=>exact aqR aC h he
 |mlen x=>exact acD h he
 |clearM x=>exact akl aC h he
 |ua t x=>exact auW h he fun k=>rfl
 |range x=>exact asI aC h he
 |entry x=>exact ak1 h he
 |call f args=>
  simp only[vB];split
  ·rename_i l ak;obtain⟨e1,bf⟩:=uO he ak;refine WO gy aC h he bf fun k=> ?_;show WM call f d k env V (kM args env)=_;rw[e1];rfl
  ·exact db
 |callv f args=>
  simp only[vB];split
  ·rename_i s l hs ak;obtain⟨e1,bf⟩:=fM he hs;obtain⟨aN,c2⟩:=uO he ak;refine Yb Gi h he c2 bf fun g a c ar k=> ?_;show @Option.rec (List ab) (fun _=>bj) .bad (fun as=>NX call as d k env V (bV f env)) (kM args env)=_;rw[aN,e1,ar];rfl
  ·exact db
 |inv eg x args=>
  simp only[vB];split
  ·rename_i s l hs ak;obtain⟨e1,bf⟩:=fM he hs;obtain⟨aN,c2⟩:=uO he ak;refine ZX Gi h he c2 bf fun t v g ar av k=> ?_;show @Option.rec (List ab) (fun _=>bj) .bad (fun as=>RD call eg as d k env V (bV x env)) (kM args env)=_;rw[aN,e1,ar];show RC call v (aM R l) d k env V (AL eg t)=_;rw[HE,av];rfl
  ·exact db
 |_=>first|exact pure|exact db
theorem adk {call:Nat→dw} {sc:iy} (gy:kj true T call sc) (h:aW T E R G W V) (he:ch R W.aD se env) {B:List Nat} (o:a2) (d:Option Nat):dt dm T E R W (tP T sc B o d se W) (fun k=>sE call B o d k env V):=by
 have pure:dt dm T E R W (one se d (lD T se W o)) (fun k=>sE call B o d k env V):=aeZ h he o d fun m hm k=>hm.2 call B d k;have Gi:AZ dm T E G V se env (fun g a W=>Bl T sc d se g a W) (fun f as k=>LM d k env V (call f as V.guard)):=fun R W g l h he ak=>WN gy h he ak fun k=>rfl;cases o with
 |pick c a b=>exact aeY h he fun k=>rfl
 |load agg n x=>
  simp only[tP];have FF:∀(_:∀k,sE call B (.load agg n x) d k env V=Lo agg n x d k env V),dt dm T E R W (xQ T agg n x d se W) (fun k=>sE call B (.load agg n x) d k env V):=fun aF=>rj (adp h he) aF;have aQ:∀k,sE call B (.load agg n x) d k env V=vL d k env V (Sd B agg n env V (bV x env)):=fun k=>rfl;obtain⟨U,_⟩:=mg he x;split
  ·rename_i s o ad;rw[ad]at U;simp only[cZ]at U;cases aj:hF s B with
   |true=>exact db
   |false=>
    refine FF fun k=> ?_;rw[aQ,U];have af:B.contains s=false:=by
     rw[←aj];simp only[hF,Oz]
     congr 1
     funext w
     rw[gY];rfl
    show vL d k env V (bif B.contains s then none else xt agg n o (c7 env s))=vL d k env V (xu agg n env V (bV x env))
    rw[af,U,KL];rfl
  ·rename_i ad;have eP:∀s o,bV x env≠.b7 s o∨jj se x=.un:=by
    intro s o;cases J':jj se x with
    |val a=>rw[J']at U;simp only[cZ]at U;rw[U];exact .inl (fun aF=>by cases aF)
    |box a=>rw[J']at U;simp only[cZ]at U;rw[U];exact .inl (fun aF=>by cases aF)
    |gZ a b=>exact absurd J' (ad a b)
    |un=>exact .inr rfl
    |kc v sz l q=>
     rw[J']at U;simp only[cZ]at U;obtain⟨_,_,_,aX⟩:=U;rcases aX with⟨_,_,_,_,_,c8⟩|⟨_,_,_,_,_,_,_,_,c8⟩<;>rw[c8]<;>exact .inl (fun aF=>by cases aF)
   by_cases Cd:jj se x=.un
   ·have:xQ T agg n x d se W=none:=by unfold xQ;rw[Cd];rfl
    rw[this];exact db
   ·refine FF fun k=> ?_;rw[aQ];show vL d k env V _=vL d k env V (xu agg n env V (bV x env))
    congr 1
    cases vf:bV x env with
    |val a=>rfl
    |box a=>rfl
    |b7 s o=>exact((eP s o).elim (fun aF=>aF vf) Cd).elim
 |mget a7 z ok x i=>exact rj (acA h he) fun k=>rfl
 |mlen x=>exact rj (acD h he) fun k=>rfl
 |aidx n sz x i=>exact VL h he fun k=>rfl
 |call f args=>
  simp only[tP];split
  ·rename_i l ak;obtain⟨e1,bf⟩:=uO he ak;refine WN gy h he bf fun k=> ?_;show @Option.rec (List ab) (fun _=>bj) .bad (fun as=>LL call f as d k env V) (kM args env)=_;rw[e1];rfl
  ·exact db
 |callv f args=>
  simp only[tP];split
  ·rename_i s l hs ak;obtain⟨e1,bf⟩:=fM he hs;obtain⟨aN,c2⟩:=uO he ak;refine Yb Gi h he c2 bf fun g a c ar k=> ?_;show @Option.rec (List ab) (fun _=>bj) .bad (fun as=>NW call as d k env V (bV f env)) (kM args env)=_;rw[aN,e1,ar];rfl
  ·exact db
 |inv eg x args=>
  simp only[tP];split
  ·rename_i s l hs ak;obtain⟨e1,bf⟩:=fM he hs;obtain⟨aN,c2⟩:=uO he ak;refine ZX Gi h he c2 bf fun t v g ar av k=> ?_;show @Option.rec (List ab) (fun _=>bj) .bad (fun as=>RB call eg as d k env V (bV x env)) (kM args env)=_;rw[aN,e1,ar];show RA call v (aM R l) d k env V (AL eg t)=_;rw[HE,av];rfl
  ·exact db
 |_=>first|exact pure|exact db
theorem PN (h:aW T E R G W V) (he:ch R W.aD se env) {g:Option (Nat × Bool)} {d:Option Nat} {a7:bE→aH→dG} {ck:bI→bI} {run:bI→bj}
  (aq:∀W',dk R W R W'→aW T E R G W' V→ch R W'.aD se env→dt dm T E R W' (a7 se W') (fun k=>ck k env V))
  (aod:g=none→∀k,run k=ck k env V)
  (aoe:∀j cO t,g=some (j,cO)→c7 env j=.val (.bool t)→∀k,run k=bif t==cO then ck k env V else k (dc d h2 env) V)
  (aof:∀j cO,g=some (j,cO)→c7 env j=.val (.tuple [])→∀k,run k=k (dc d h2 env) V):dt dm T E R W (w2 g d a7 se W) run:=by
 unfold w2;split
 ·exact rj (aq W (.refl _ _) h he) (aod rfl)
 ·rename_i j cO;have aU:=he.mf j;have QC:=he.bh j;split
  ·rename_i hs;rw[hs]at aU;exact nO (.refl _ _) h (he.set d (x:=MN) (e:=h2) rfl rfl) (aof j cO rfl aU)
  ·rename_i s hs;rw[hs]at aU QC;simp only[cZ]at aU;split
   ·rename_i f ax;obtain⟨e1,bf⟩:=DV (R:=R) ax;have ah:=aoe j cO (f.ai R) rfl (by rw[aU,e1])
    have am4:(bif cO then f else f.neg).bh W.aD=true:=by
     cases cO with
     |true=>exact bf _ QC
     |false=>exact wK (bf _ QC)
    have am6:(bif cO then f else f.neg).ai R=(f.ai R==cO):=by
     cases cO with
     |true=>simp
     |false=>simp only[cond_false,q_];cases f.ai R<;>rfl
    refine He h am4 fun W' az ao aX=> ?_;have iG:ch R W'.aD se env:=by rw[aX];exact he
    rw[am6];cases ar:(f.ai R==cO)with
    |true=>exact rj (aq W' az ao iG) fun k=>by rw[ah,ar];rfl
    |false=>exact nO (.refl _ _) ao (iG.set d (x:=MN) (e:=h2) rfl rfl) fun k=>by rw[ah,ar];rfl
   ·exact db
  ·exact db
theorem Lw {an:gE} {call:Nat→dw} {sc:iy} (gy:kj dm T call sc) (aC:gj E) (h:aW T E R G W V) (he:ch R W.aD se env) (o:ca):dt dm T E R W (GU T an sc o se W) (fun k=>vC call o k env V):=by
 obtain⟨d,g,op⟩:=o;refine PN h he (ck:=vz call op d) (fun W' az ao aX=>arK gy aC ao aX op d) (fun av k=>by subst av;rfl) (fun j cO t av aw k=> ?_) (fun j cO av aw k=> ?_)
 ·simp only at av;subst av;show GS call op d cO k env V (c7 env j)=_;rw[aw];rfl
 ·simp only at av;subst av;show GS call op d cO k env V (c7 env j)=_;rw[aw];rfl
theorem arU {call:Nat→dw} {sc:iy} (gy:kj true T call sc) (h:aW T E R G W V) (he:ch R W.aD se env) {B:List Nat} (o:ca):dt dm T E R W (w2 o.guard o.dst (tP T sc B o.op o.dst) se W) (fun k=>xR call B o k env V):=by
 obtain⟨d,g,op⟩:=o;refine PN h he (ck:=sE call B op d) (fun W' az ao aX=>adk gy ao aX op d) (fun av k=>by subst av;rfl) (fun j cO t av aw k=> ?_) (fun j cO av aw k=> ?_)
 ·simp only at av;subst av;show z8 call B op d cO k env V (c7 env j)=_;rw[aw];rfl
 ·simp only at av;subst av;show z8 call B op d cO k env V (c7 env j)=_;rw[aw];rfl
theorem Wr {a7:bE→aH→dG}:∀{l:List (bE × aH)} {outs:List (bE × aH)},It a7 l=some outs→∀p∈l,∃o,a7 p.1 p.2=some o∧∀q∈o,q∈outs
 | [],outs,_,p,ae=>by cases ae
 |(e,W)::l,outs,h,p,ae=>by
  simp only[It]at h;obtain⟨x,y,U,aa,au⟩:=IK h;rcases cu.1 ae with rfl|ae
  ·exact⟨x,U,fun q aB=>by rw[au];exact oS _ aB⟩
  ·obtain⟨o,bg,bl⟩:=Wr aa p ae;exact⟨o,bg,fun q aB=>by rw[au];exact nh _ (bl q aB)⟩
theorem afA {r:dG} {a7:bE→aH→dG} {sH Hk:bI→bj} {ck:bI→bI} (U:dt dm T E R W r sH) (b6:∀k,Hk k=sH (ck k))
  (aa:∀gA W' aL G' bP V',aW T E aL G' W' V'→ch aL W'.aD gA bP→dt dm T E aL W' (a7 gA W') (fun k=>ck k bP V')):dt dm T E R W (Mc r a7) Hk:=by
 intro outs ay bo k aq;cases r with
 |none=>cases ay
 |some l=>
  simp only[Mc]at ay;rw[b6];refine U l rfl bo (ck k) fun p ae aL G' bP V' bg bl bS=> ?_;obtain⟨o,bd,bx⟩:=Wr ay p ae;exact aa p.1 p.2 aL G' bP V' bl bS o bd bo k fun q aB v8 ahh ak3 Ee bZ cB z3=>aq q (bx q aB) v8 ahh ak3 Ee (bg.trans bZ) cB z3
theorem Tn {an:gE} {call:Nat→dw} {sc:iy} (gy:kj dm T call sc) (aC:gj E):∀(l:List ca) {R:cj} {G:Nat→cR} {W:aH} {V:aO} {se:bE} {env:aP},aW T E R G W V→ch R W.aD se env→dt dm T E R W (CZ T an sc l se W) (fun k=>vD call l k env V)
 | [],_,_,_,_,_,_,h,he=>nO (.refl _ _) h he fun k=>rfl
 |o::l,_,_,_,_,_,_,h,he=>afA (ck:=vD call l) (Lw gy aC h he o) (fun k=>rfl) fun _ _ _ _ _ _ b0 iG=>Tn gy aC l b0 iG
theorem amy (B:List Nat) (s:Nat):rY B s=hF s B:=by
 rw[JG];simp only[hF,Oz]
 congr 1
 funext w
 rw[gY];rfl
theorem af2 {n:Nat} (he:ch R n se env) {B:List Nat} {o:a2} (h:Mq B se o=true):DK B env o=true:=by
 unfold Mq at h;split at h
 ·rename_i m x v;obtain⟨U,_⟩:=mg he x;show UA B (bV x env)=true;split at h
  ·rename_i s q ad;rw[ad]at U;simp only[cZ]at U;rw[U];show rY B s=true;rw[amy];exact h
  ·rename_i a ad;rw[ad]at U;simp only[cZ]at U;rw[U];rfl
  ·cases h
 ·rename_i cm;cases o<;>first|rfl|exact absurd rfl (cm _ _ _)
theorem auo {n:Nat} (he:ch R n se env) {o:a2} (h:Uz se o=true):Mp env o=true:=by
 unfold Uz at h;split at h
 ·rename_i m x v;obtain⟨U,_⟩:=mg he x;show F' (bV x env)=true;split at h
  ·rename_i s q ad;rw[ad]at U;simp only[cZ]at U;rw[U];rfl
  ·cases h
 ·cases h
theorem aqg {n:Nat} (he:ch R n se env) {o:a2} (h:Gj se o=true):zM env o=true:=by
 unfold Gj at h;split at h
 ·rename_i a m x;obtain⟨U,_⟩:=mg he x;show F' (bV x env)=true;split at h
  ·rename_i s q ad;rw[ad]at U;simp only[cZ]at U;rw[U];rfl
  ·cases h
 ·cases h
theorem abL {call:Nat→dw} {scq:iy} (kR:kj true T call scq) (h:aW T E R G W V) (he:ch R W.aD se env) {B:List Nat} (o:ca):
  dt dm T E R W (w2 o.guard o.dst (fun env W=>bif Gj env o.op then tP T scq B o.op o.dst env W else none) se W) (fun k=>bif KA env o.op o.guard then xR call B o k env V else .bad):=by
 obtain⟨d,g,op⟩:=o;refine PN h he (ck:=fun k env V=>bif zM env op then sE call B op d k env V else .bad) (fun W' az ao aX=>kd fun aj=>rj (adk kR ao aX op d) fun k=>by rw[aqg aX aj];rfl) (fun av k=>by simp only at av;subst av;rfl) (fun j cO t av aw k=> ?_) (fun j cO av aw k=> ?_)
 ·simp only at av;subst av;show(bif KB cO env op (c7 env j)then z8 call B op d cO k env V (c7 env j)else .bad)=_
  rw[aw];show(bif(bif t==cO then zM env op else true)then(bif t==cO then sE call B op d k env V else k (dc d h2 env) V)else .bad)=_
  cases t==cO with
  |true=>rfl
  |false=>rfl
 ·simp only at av;subst av;show(bif KB cO env op (c7 env j)then z8 call B op d cO k env V (c7 env j)else .bad)=_
  rw[aw];rfl
theorem apX {an:gE} {call:Nat→dw} {sc scq:iy} (gy:kj dm T call sc) (kR:kj true T call scq) (aC:gj E) (h:aW T E R G W V) (he:ch R W.aD se env) {B:List Nat} (c9:Nat) (o:ca):dt dm T E R W (RW T an sc scq B c9 o se W) (fun k=>RT call B c9 o k env V):=by
 unfold RW;split
 ·refine kd fun aj=>rj (Lw gy aC h he o) fun k=> ?_;show(bif DK B env o.op then vC call o k env V else .bad)=_
  rw[af2 he aj];rfl
 ·exact Lw gy aC h he o
 ·refine kd fun aj=>rj (Lw gy aC h he o) fun k=> ?_;obtain⟨cp,b_⟩:=a6 aj;show(bif DK B env o.op&&Mp env o.op then vC call o k env V else .bad)=_
  rw[af2 he cp,auo he b_];rfl
 ·exact abL kR h he o
 ·exact abL kR h he o
 ·rename_i ct jr sA n5 n6;refine rj (arU kR h he o) fun k=> ?_
  match c9,ct,jr,sA,n5,n6 with
  |0,_,_,_,_,_=>rfl
  |1,_,_,_,_,_=>rfl
  |2,ct,_,_,_,_=>exact absurd rfl ct
  |3,_,jr,_,_,_=>exact absurd rfl jr
  |4,_,_,sA,_,_=>exact absurd rfl sA
  |5,_,_,_,n5,_=>exact absurd rfl n5
  |6,_,_,_,_,n6=>exact absurd rfl n6
  |_+7,_,_,_,_,_=>rfl
theorem Xz {an:gE} {call:Nat→dw} {sc scq:iy} (gy:kj dm T call sc) (kR:kj true T call scq) (aC:gj E) {B:List Nat}:∀(l:List (Nat × ca)) {R:cj} {G:Nat→cR} {W:aH} {V:aO} {se:bE} {env:aP},aW T E R G W V→ch R W.aD se env→dt dm T E R W (OR T an sc scq B l se W) (fun k=>BA call B l k env V)
 | [],_,_,_,_,_,_,h,he=>nO (.refl _ _) h he fun k=>rfl
 |(c9,o)::l,_,_,_,_,_,_,h,he=>afA (ck:=BA call B l) (apX gy kR aC h he c9 o) (fun k=>rfl) fun _ _ _ _ _ _ b0 iG=>Xz gy kR aC l b0 iG
end Go.bO.cK
end
